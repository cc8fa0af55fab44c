/-
  errors.as, errors.As, number at a failure. Conditions: the library's variable is laid.
-/
import Derived.Test.YtejofgdglpmlkaaGreatDoorVAs
import Derived.Test.YtejofgdglpmlkaaGreatDoorVOps
namespace Go.Proofs.YtejofgdglpmlkaaGreatDoor
open Go.RowKit Go.Extern.Stop Go.Stop Go.Extern

theorem unwrap_calls (p : ByteArray) (v : Value) (w : World) : Calls Tryz.prog 139 #[.agg #[.string p, v]] w fun e w' => e = .returned v ∧ Below w.heap.size w w' := by
  go_enter Tryz.func139, Tryz.ntmps139
  go_wp2
  go_ret
  exact ⟨rfl, below_al (Below.refl _ _)⟩
set_option maxRecDepth 100000 in
set_option maxHeartbeats 8000000 in
theorem asIn_calls (q : ByteArray) (e : Int) (t0 : Nat) (a : Addr) (old : Value) (w : World) (ha : w.cell? a = some (.pointer (some ⟨t0, 0, none⟩))) (ht0 : w.heap[t0]? = some (.cells #[old] 29 (0, 0))) :
    Calls Tryz.prog 80 #[.iface 94 (.agg #[.string q, .iface 29 (.int .i64 e)]),   .iface 97 (.pointer (some ⟨t0, 0, none⟩)), .agg #[.pointer (some ⟨2, 97, none⟩), .pointer (some a), .int .u64 150], .iface 122 (.agg #[.pointer (some ⟨2, 29, none⟩)])] w fun ev w' => ev = .returned (.bool true) ∧ w'.heap[t0]? = some (.cells #[.int .i64 e] 29 (0, 0)) ∧ Kept (fun k => k = t0) w w' := by
  have hal := World.block_lt_of_cell? w _ ha
  have htl := heap_lt ht0
  have hTO := @run_callFunc_extern Tryz.prog 69 _ ReflectliteType.typeOf Tryz.func69 (by kernel_rfl) (by kernel_rfl) (by kernel_rfl) (by kernel_rfl)
  have hAT := @run_callFunc_extern Tryz.prog 144 _ (ReflectliteType.relation "AssignableTo" ReflectliteType.assignableTo) Tryz.func144 (by kernel_rfl) (by kernel_rfl) (by kernel_rfl) (by kernel_rfl)
  have hVE := @run_callFunc_extern Tryz.prog 97 _ (ReflectliteValue.method (ReflectliteValue.valueError "reflectlite.Value.Elem" 0) ReflectliteValue.elem) Tryz.func97 (by kernel_rfl) (by kernel_rfl) (by kernel_rfl) (by kernel_rfl)
  have hVO := @run_callFunc_extern Tryz.prog 77 _ (fun args => ReflectliteValue.unpack (args.getD 0 (.tuple #[]))) Tryz.func77 (by kernel_rfl) (by kernel_rfl) (by kernel_rfl) (by kernel_rfl)
  have hVS := @run_callFunc_extern Tryz.prog 98 _ ReflectliteValue.set Tryz.func98 (by kernel_rfl) (by kernel_rfl) (by kernel_rfl) (by kernel_rfl)
  have tE := typeOfE
  have tF := typeOfF
  have mA := methodAssignableTo
  have aE := assignableE
  have aF := assignableF
  have vE := valueOfE
  have mU := methodUnwrap
  have nA := noAsF
  have hU := hasUnwrapF
  go_enter Tryz.func80, Tryz.ntmps80
  go_wp2
  refine wp_loop_rounds 2 ?_
  rw [rounds_succ]
  have kbx := Lib.hid (heap_alloc_new w (.cells #[.pointer (some ⟨2, 97, none⟩), .pointer (some a), .int .u64 150] 114))
  have kb0 := Lib.hid (below_al (o := .cells #[.pointer (some ⟨2, 97, none⟩), .pointer (some a), .int .u64 150] 114) (Below.refl w.heap.size w))
  go_wp2_with (go_at_call 139; refine (unwrap_calls q _ _).mono ?_; rintro e1 w1 ⟨rfl, hb1⟩; have kb1 := Lib.hid hb1; clear hb1)
  have kb := Lib.hid (kb0.out.trans (kb1.out.mono kb0.out.size))
  have kbx1 := Lib.hid ((kb1.out.block _ (heap_lt kbx.out)).trans kbx.out)
  have kt1 := Lib.hid ((kb.out.block _ htl).trans ht0)
  have ha1 := (kb.out.cell (p := a) hal).trans ha
  obtain ⟨x0, x1, x2, -⟩ := cells3 kbx1.out
  have xl := heap_lt kbx1.out
  have el := elemV a ⟨t0, 0, none⟩ w1 ha1
  have htl1 := heap_lt kt1.out
  have kt2 := Lib.hid ((heap_alloc_old w1 (.cells #[.int .i64 e] 29) htl1).trans kt1.out)
  have st := setE ⟨t0, 0, none⟩ ⟨w1.heap.size, 0, none⟩ e old (w1.alloc (.cells #[.int .i64 e] 29)) (one_new w1 _ _) (one_cell kt2.out).1 (one_cell kt2.out).2
  rw [rounds_succ]
  go_wp2
  go_ret
  refine ⟨rfl, (heap_alloc_old _ _ (by simpa using htl1)).trans (one_setCell kt1.out), ⟨?_, ?_, ?_, ?_, fun k hk hne => ?_⟩⟩
  · exact kb.out.os
  · exact kb.out.tape
  · exact kb.out.output
  · have := kb.out.size; simp; omega
  · rw [heap_alloc_old _ _ (by have := kb.out.size; simp; omega), Below.heap_setCell _ _ _ _ (by simpa using hne)]
    exact kb.out.block k hk
set_option maxRecDepth 100000 in
set_option maxHeartbeats 8000000 in
theorem as_calls (q : ByteArray) (e : Int) (t0 : Nat) (old : Value) (w : World) (hlw : Laid w) (ht0 : w.heap[t0]? = some (.cells #[old] 29 (0, 0))) :
    Calls Tryz.prog 61 #[.iface 94 (.agg #[.string q, .iface 29 (.int .i64 e)]), .iface 97 (.pointer (some ⟨t0, 0, none⟩))] w fun ev w' => ev = .returned (.bool true) ∧ w'.heap[t0]? = some (.cells #[.int .i64 e] 29 (0, 0)) ∧ Kept (fun k => k = t0) w w' := by
  have hl0 := hlw.lt
  have htl := heap_lt ht0
  have h6 := @run_callFunc_extern Tryz.prog 77 _ (fun args => ReflectliteValue.unpack (args.getD 0 (.tuple #[]))) Tryz.func77 (by kernel_rfl) (by kernel_rfl) (by kernel_rfl) (by kernel_rfl)
  have h7 := @run_callFunc_extern Tryz.prog 78 _ (ReflectliteValue.methodAny (ReflectliteValue.valueError "reflectlite.Value.Type" 0) (fun t _ _ _ => ReflectliteType.toType t)) Tryz.func78 (by kernel_rfl) (by kernel_rfl) (by kernel_rfl) (by kernel_rfl)
  have h8 := @run_callFunc_extern Tryz.prog 79 _ (ReflectliteValue.method (ReflectliteValue.valueError "reflectlite.Value.IsNil" 0) ReflectliteValue.isNil) Tryz.func79 (by kernel_rfl) (by kernel_rfl) (by kernel_rfl) (by kernel_rfl)
  have h27 := @run_callFunc_extern Tryz.prog 134 _ (ReflectliteType.abiMethod fun t => do pure (.int .u8 (← Rtype.kind t))) Tryz.func134 (by kernel_rfl) (by kernel_rfl) (by kernel_rfl) (by kernel_rfl)
  have h37 := @run_callFunc_extern Tryz.prog 146 _ (ReflectliteType.method ReflectliteType.elem) Tryz.func146 (by kernel_rfl) (by kernel_rfl) (by kernel_rfl) (by kernel_rfl)
  have h38 := @run_callFunc_extern Tryz.prog 147 _ (ReflectliteType.relation "Implements" ReflectliteType.implements_) Tryz.func147 (by kernel_rfl) (by kernel_rfl) (by kernel_rfl) (by kernel_rfl)
  have f6 := valueOfT
  have f7 := typeT
  have mK := methodKind
  have mE := methodElem
  have mI := methodImplements
  have k27 := kindT
  have k25 := kindE
  have e27 := elemT
  have i25 := implementsE
  have n8 := isNilT ⟨w.heap.size, 0, none⟩ ⟨t0, 0, none⟩ ((w.alloc (.cells #[.pointer (some ⟨t0, 0, none⟩)] 97)).alloc (.cells #[.pointer (some ⟨2, 97, none⟩), .pointer (some ⟨w.heap.size, 0, none⟩), .int .u64 150] 114)) (by simp)
  have kb2 := Lib.hid (show Below w.heap.size w ((w.alloc (.cells #[.pointer (some ⟨t0, 0, none⟩)] 97)).alloc (.cells #[.pointer (some ⟨2, 97, none⟩), .pointer (some ⟨w.heap.size, 0, none⟩), .int .u64 150] 114)) from below_al (below_al (Below.refl _ _)))
  have hg2 : ((w.alloc (.cells #[.pointer (some ⟨t0, 0, none⟩)] 97)).alloc (.cells #[.pointer (some ⟨2, 97, none⟩), .pointer (some ⟨w.heap.size, 0, none⟩), .int .u64 150] 114)).cell? ⟨0, 0, none⟩ = some (.iface 122 (.agg #[.pointer (some ⟨2, 70, none⟩)])) := hlw.below hl0 kb2.out
  have kI := Lib.hid (asIn_calls q e t0 ⟨w.heap.size, 0, none⟩ old ((w.alloc (.cells #[.pointer (some ⟨t0, 0, none⟩)] 97)).alloc (.cells #[.pointer (some ⟨2, 97, none⟩), .pointer (some ⟨w.heap.size, 0, none⟩), .int .u64 150] 114)) (by simp) ((kb2.out.block _ htl).trans ht0))
  go_enter Tryz.func61, Tryz.ntmps61
  go_wp2_with (go_at_call 80; refine kI.out.mono ?_; rintro e1 w1 ⟨rfl, hh, hk⟩; have kh := Lib.hid hh; have kk := Lib.hid hk; clear hh hk)
  go_ret
  exact ⟨rfl, kh.out, (Kept.of_below kb2.out).trans kk.out (fun k hk => Or.inl hk)⟩
set_option maxRecDepth 100000 in
theorem number_calls (Q : ByteArray) (e : Int) (w : World) (hlw : Laid w) : Calls Tryz.prog 35 #[.iface 94 (.agg #[.string Q, .iface 29 (.int .i64 e)])] w fun ev w' => ev = .returned (.int .i64 e) ∧ Below w.heap.size w w' := by
  have kb := Lib.hid (below_al (o := .cells #[.int .i64 0] 29) (Below.refl w.heap.size w))
  have kI := Lib.hid (as_calls Q e w.heap.size (.int .i64 0) (w.alloc (.cells #[.int .i64 0] 29)) (hlw.below hlw.lt kb.out) (heap_alloc_new _ _))
  go_enter Tryz.func35, Tryz.ntmps35
  go_wp2_with (go_at_call 61; refine kI.out.mono ?_; rintro e1 w1 ⟨rfl, hh, hk⟩; have kk := Lib.hid hk; have hc1 := (one_cell hh).1; clear hh hk)
  go_ret
  exact ⟨rfl, kb.out.os ▸ kk.out.os, kb.out.tape ▸ kk.out.tape, kb.out.output ▸ kk.out.output, Nat.le_trans kb.out.size kk.out.size, fun k hk => (kk.out.block k (Nat.lt_of_lt_of_le hk kb.out.size) (by omega)).trans (kb.out.block k hk)⟩
end Go.Proofs.YtejofgdglpmlkaaGreatDoor
