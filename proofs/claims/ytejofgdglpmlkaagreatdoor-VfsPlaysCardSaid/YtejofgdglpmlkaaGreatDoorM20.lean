/-
  errors.as, errors.As, number at a failure. Conditions: the library's variable is laid.
  Write upon a file that is there. Conditions: texts of at most 2^31 bytes; a weight of at most 2^40; a clock of at most 2^62.
-/
import Derived.Test.YtejofgdglpmlkaaGreatDoorM19
import Derived.Test.YtejofgdglpmlkaaGreatDoorM06
import Derived.Test.YtejofgdglpmlkaaGreatDoorM10
namespace Go.Proofs.YtejofgdglpmlkaaGreatDoor
open Go.RowKit Go.Extern.Stop Go.Stop Go.Extern

theorem unwrap_calls (p : ByteArray) (v : Value) (w : World) : Calls Tryz.prog 139 #[.agg #[.string p, v]] w fun e w' => e = .returned v ∧ Below w.heap.size w w' := by
  go_enter Tryz.func139, Tryz.ntmps139
  go_wp2
  go_ret
  exact ⟨rfl, below_al (Below.refl _ _)⟩
set_option maxRecDepth 100000 in
set_option maxHeartbeats 8000000 in
theorem asIn_calls (q : ByteArray) (e : Int) (t0 : Nat) (a : Addr) (old : Value) (w : World) (ha : w.cell? a = some (.pointer (some ⟨t0, 0, none⟩))) (ht0 : w.heap[t0]? = some (.cells #[old] 29 (0, 0))) :
    Calls Tryz.prog 80 #[.iface 94 (.agg #[.string q, .iface 29 (.int .i64 e)]),   .iface 97 (.pointer (some ⟨t0, 0, none⟩)), .agg #[.pointer (some ⟨2, 97, none⟩), .pointer (some a), .int .u64 150], .iface 122 (.agg #[.pointer (some ⟨2, 29, none⟩)])] w fun ev w' => ev = .returned (.bool true) ∧ w'.heap[t0]? = some (.cells #[.int .i64 e] 29 (0, 0)) ∧ Kept (fun k => k = t0) w w' := by
  have hal := World.block_lt_of_cell? w _ ha
  have htl := heap_lt ht0
  have hTO := @run_callFunc_extern Tryz.prog 69 _ ReflectliteType.typeOf Tryz.func69 (by kernel_rfl) (by kernel_rfl) (by kernel_rfl) (by kernel_rfl)
  have hAT := @run_callFunc_extern Tryz.prog 144 _ (ReflectliteType.relation "AssignableTo" ReflectliteType.assignableTo) Tryz.func144 (by kernel_rfl) (by kernel_rfl) (by kernel_rfl) (by kernel_rfl)
  have hVE := @run_callFunc_extern Tryz.prog 97 _ (ReflectliteValue.method (ReflectliteValue.valueError "reflectlite.Value.Elem" 0) ReflectliteValue.elem) Tryz.func97 (by kernel_rfl) (by kernel_rfl) (by kernel_rfl) (by kernel_rfl)
  have hVO := @run_callFunc_extern Tryz.prog 77 _ (fun args => ReflectliteValue.unpack (args.getD 0 (.tuple #[]))) Tryz.func77 (by kernel_rfl) (by kernel_rfl) (by kernel_rfl) (by kernel_rfl)
  have hVS := @run_callFunc_extern Tryz.prog 98 _ ReflectliteValue.set Tryz.func98 (by kernel_rfl) (by kernel_rfl) (by kernel_rfl) (by kernel_rfl)
  have tE := typeOfE
  have tF := typeOfF
  have mA := methodAssignableTo
  have aE := assignableE
  have aF := assignableF
  have vE := valueOfE
  have mU := methodUnwrap
  have nA := noAsF
  have hU := hasUnwrapF
  go_enter Tryz.func80, Tryz.ntmps80
  go_wp2
  refine wp_loop_rounds 2 ?_
  rw [rounds_succ]
  have kbx := Lib.hid (heap_alloc_new w (.cells #[.pointer (some ⟨2, 97, none⟩), .pointer (some a), .int .u64 150] 114))
  have kb0 := Lib.hid (below_al (o := .cells #[.pointer (some ⟨2, 97, none⟩), .pointer (some a), .int .u64 150] 114) (Below.refl w.heap.size w))
  go_wp2_with (go_at_call 139; refine (unwrap_calls q _ _).mono ?_; rintro e1 w1 ⟨rfl, hb1⟩; have kb1 := Lib.hid hb1; clear hb1)
  have kb := Lib.hid (kb0.out.trans (kb1.out.mono kb0.out.size))
  have kbx1 := Lib.hid ((kb1.out.block _ (heap_lt kbx.out)).trans kbx.out)
  have kt1 := Lib.hid ((kb.out.block _ htl).trans ht0)
  have ha1 := (kb.out.cell (p := a) hal).trans ha
  obtain ⟨x0, x1, x2, -⟩ := cells3 kbx1.out
  have xl := heap_lt kbx1.out
  have el := elemV a ⟨t0, 0, none⟩ w1 ha1
  have htl1 := heap_lt kt1.out
  have kt2 := Lib.hid ((heap_alloc_old w1 (.cells #[.int .i64 e] 29) htl1).trans kt1.out)
  have st := setE ⟨t0, 0, none⟩ ⟨w1.heap.size, 0, none⟩ e old (w1.alloc (.cells #[.int .i64 e] 29)) (one_new w1 _ _) (one_cell kt2.out).1 (one_cell kt2.out).2
  rw [rounds_succ]
  go_wp2
  go_ret
  refine ⟨rfl, (heap_alloc_old _ _ (by simpa using htl1)).trans (one_setCell kt1.out), ⟨?_, ?_, ?_, ?_, fun k hk hne => ?_⟩⟩
  · exact kb.out.os
  · exact kb.out.tape
  · exact kb.out.output
  · have := kb.out.size; simp; omega
  · rw [heap_alloc_old _ _ (by have := kb.out.size; simp; omega), Below.heap_setCell _ _ _ _ (by simpa using hne)]
    exact kb.out.block k hk
set_option maxRecDepth 100000 in
set_option maxHeartbeats 8000000 in
theorem as_calls (q : ByteArray) (e : Int) (t0 : Nat) (old : Value) (w : World) (hlw : Laid w) (ht0 : w.heap[t0]? = some (.cells #[old] 29 (0, 0))) :
    Calls Tryz.prog 61 #[.iface 94 (.agg #[.string q, .iface 29 (.int .i64 e)]), .iface 97 (.pointer (some ⟨t0, 0, none⟩))] w fun ev w' => ev = .returned (.bool true) ∧ w'.heap[t0]? = some (.cells #[.int .i64 e] 29 (0, 0)) ∧ Kept (fun k => k = t0) w w' := by
  have hl0 := hlw.lt
  have htl := heap_lt ht0
  have h6 := @run_callFunc_extern Tryz.prog 77 _ (fun args => ReflectliteValue.unpack (args.getD 0 (.tuple #[]))) Tryz.func77 (by kernel_rfl) (by kernel_rfl) (by kernel_rfl) (by kernel_rfl)
  have h7 := @run_callFunc_extern Tryz.prog 78 _ (ReflectliteValue.methodAny (ReflectliteValue.valueError "reflectlite.Value.Type" 0) (fun t _ _ _ => ReflectliteType.toType t)) Tryz.func78 (by kernel_rfl) (by kernel_rfl) (by kernel_rfl) (by kernel_rfl)
  have h8 := @run_callFunc_extern Tryz.prog 79 _ (ReflectliteValue.method (ReflectliteValue.valueError "reflectlite.Value.IsNil" 0) ReflectliteValue.isNil) Tryz.func79 (by kernel_rfl) (by kernel_rfl) (by kernel_rfl) (by kernel_rfl)
  have h27 := @run_callFunc_extern Tryz.prog 134 _ (ReflectliteType.abiMethod fun t => do pure (.int .u8 (← Rtype.kind t))) Tryz.func134 (by kernel_rfl) (by kernel_rfl) (by kernel_rfl) (by kernel_rfl)
  have h37 := @run_callFunc_extern Tryz.prog 146 _ (ReflectliteType.method ReflectliteType.elem) Tryz.func146 (by kernel_rfl) (by kernel_rfl) (by kernel_rfl) (by kernel_rfl)
  have h38 := @run_callFunc_extern Tryz.prog 147 _ (ReflectliteType.relation "Implements" ReflectliteType.implements_) Tryz.func147 (by kernel_rfl) (by kernel_rfl) (by kernel_rfl) (by kernel_rfl)
  have f6 := valueOfT
  have f7 := typeT
  have mK := methodKind
  have mE := methodElem
  have mI := methodImplements
  have k27 := kindT
  have k25 := kindE
  have e27 := elemT
  have i25 := implementsE
  have n8 := isNilT ⟨w.heap.size, 0, none⟩ ⟨t0, 0, none⟩ ((w.alloc (.cells #[.pointer (some ⟨t0, 0, none⟩)] 97)).alloc (.cells #[.pointer (some ⟨2, 97, none⟩), .pointer (some ⟨w.heap.size, 0, none⟩), .int .u64 150] 114)) (by simp)
  have kb2 := Lib.hid (show Below w.heap.size w ((w.alloc (.cells #[.pointer (some ⟨t0, 0, none⟩)] 97)).alloc (.cells #[.pointer (some ⟨2, 97, none⟩), .pointer (some ⟨w.heap.size, 0, none⟩), .int .u64 150] 114)) from below_al (below_al (Below.refl _ _)))
  have hg2 : ((w.alloc (.cells #[.pointer (some ⟨t0, 0, none⟩)] 97)).alloc (.cells #[.pointer (some ⟨2, 97, none⟩), .pointer (some ⟨w.heap.size, 0, none⟩), .int .u64 150] 114)).cell? ⟨0, 0, none⟩ = some (.iface 122 (.agg #[.pointer (some ⟨2, 70, none⟩)])) := hlw.below hl0 kb2.out
  have kI := Lib.hid (asIn_calls q e t0 ⟨w.heap.size, 0, none⟩ old ((w.alloc (.cells #[.pointer (some ⟨t0, 0, none⟩)] 97)).alloc (.cells #[.pointer (some ⟨2, 97, none⟩), .pointer (some ⟨w.heap.size, 0, none⟩), .int .u64 150] 114)) (by simp) ((kb2.out.block _ htl).trans ht0))
  go_enter Tryz.func61, Tryz.ntmps61
  go_wp2_with (go_at_call 80; refine kI.out.mono ?_; rintro e1 w1 ⟨rfl, hh, hk⟩; have kh := Lib.hid hh; have kk := Lib.hid hk; clear hh hk)
  go_ret
  exact ⟨rfl, kh.out, (Kept.of_below kb2.out).trans kk.out (fun k hk => Or.inl hk)⟩
set_option maxRecDepth 100000 in
theorem number_calls (Q : ByteArray) (e : Int) (w : World) (hlw : Laid w) : Calls Tryz.prog 35 #[.iface 94 (.agg #[.string Q, .iface 29 (.int .i64 e)])] w fun ev w' => ev = .returned (.int .i64 e) ∧ Below w.heap.size w w' := by
  have kb := Lib.hid (below_al (o := .cells #[.int .i64 0] 29) (Below.refl w.heap.size w))
  have kI := Lib.hid (as_calls Q e w.heap.size (.int .i64 0) (w.alloc (.cells #[.int .i64 0] 29)) (hlw.below hlw.lt kb.out) (heap_alloc_new _ _))
  go_enter Tryz.func35, Tryz.ntmps35
  go_wp2_with (go_at_call 61; refine kI.out.mono ?_; rintro e1 w1 ⟨rfl, hh, hk⟩; have kk := Lib.hid hk; have hc1 := (one_cell hh).1; clear hh hk)
  go_ret
  exact ⟨rfl, kb.out.os ▸ kk.out.os, kb.out.tape ▸ kk.out.tape, kb.out.output ▸ kk.out.output, Nat.le_trans kb.out.size kk.out.size, fun k hk => (kk.out.block k (Nat.lt_of_lt_of_le hk kb.out.size) (by omega)).trans (kb.out.block k hk)⟩
end Go.Proofs.YtejofgdglpmlkaaGreatDoor
namespace Go.Proofs.YtejofgdglpmlkaaGreatDoor
open Go.RowKit

section
variable {f mb : Nat} {N : Bs → Nat} {S Tb : Nat → Prop} {st : St} {clock room : Int} {p : ByteArray} {q bb : Bs} {bv : Value} {w : World} {n : PN}
theorem wt_over {q : Bs} {n n' : PN} (hr : Rising st) (hf : find st q = some n) : (wt (putSt st q n') : Int) = wt st + (n'.data.length - n.data.length) := by
  have := wt_put q n' hr
  rw [hf] at this; simp only [own1] at this; omega
theorem node_cells {w w1 : World} {nb : Nat} {a b c : Value} {t : TypeId} (h : w.heap[nb]? = some (.cells #[a, b, c] t (0, 0))) (hb : Below w.heap.size w w1) : w1.cell? ⟨nb, 0, none⟩ = some a ∧ w1.cell? ⟨nb, 1, none⟩ = some b ∧ w1.cell? ⟨nb, 2, none⟩ = some c ∧ nb < w.heap.size := by
  obtain ⟨h0, h1, h2, _⟩ := cells3 ((hb.block nb (heap_lt h)).trans h)
  exact ⟨h0, h1, h2, heap_lt h⟩
set_option maxRecDepth 100000 in
set_option maxHeartbeats 8000000 in
theorem write_add (h : FsIn w f mb N S st clock room) (hp : p.size ≤ 2147483647) (hq : clean p.data.toList = q) (hr : lookQ st q = .node n) (hnd : n.dir = false) (hdl : n.data.length ≤ 65536) (hl : wt st ≤ 1099511627776) (h0 : 0 ≤ clock) (h1 : clock ≤ 4611686018427387904)
    (hb : BytesAt w bv bb Tb) (hT : ∀ k, Tb k → ¬ S k ∧ k < w.heap.size) (hbl : bb.length ≤ 70368744177664) :
    Calls Tryz.prog 17 #[.pointer (some ⟨f, 0, none⟩), .string p, bv, .bool true] w fun e w' => OpPost w f S room (writeTail st clock room q n.data bb 0 (bb.length : Int)) e w' := by
  obtain ⟨ba, bc, hbv⟩ := hb.form
  subst hbv
  have hW : Below w.heap.size w (Box3 w f p (.slice ba bb.length bc)) := below_al (below_al (below_al (Below.refl _ _)))
  have hL := Lib.hid (look_node _ (h.below hW) hp hq hr)
  have kh := Lib.hid h
  clear h
  have kHb := Lib.hid hb
  have kT := Lib.hid hT
  clear hb hT hW
  have hnode0 := (kh.out.node q n (lookQ_find.2 n hr)).2.2
  have hNl := kh.out.lt _ (kh.out.node q n (lookQ_find.2 n hr)).2.1
  obtain ⟨nv, hnb, hnv⟩ := hnode0
  obtain ⟨na, nc, hnvf⟩ := hnv.form
  subst hnvf
  rw [hnd] at hnb
  have knb := Lib.hid hnb
  have knv := Lib.hid hnv
  clear hnb hnv
  have hQe := mk_isEmpty (lookQ_valid (Or.inr ⟨n, hr⟩)).2.1
  have kfind := Lib.hid (lookQ_find.2 n hr)
  have kql := Lib.hid (valid_len (lookQ_valid (Or.inr ⟨n, hr⟩)).1)
  generalize hQ : mk q = Q at *
  have kQ := Lib.hid hQ
  clear hQ
  by_cases hlong : 65536 < n.data.length + bb.length
  · have hpost := Lib.hid (show writeTail st clock room q n.data bb 0 (bb.length : Int) = (2, st, clock) by unfold writeTail; rw [if_pos hlong])
    go_enter_defers Tryz.func17, Tryz.ntmps17
    go_wp2_with (go_at_call 34; refine hL.out.mono ?_; rintro e w1 ⟨rfl, hb⟩; have kb1 := Lib.hid hb; clear hb; obtain ⟨e0, e1, e2, hsz, hb1⟩ := box3 w f p (.slice ba bb.length bc) kb1.out; obtain ⟨c0, g0⟩ := one_cell e0; obtain ⟨c1, g1⟩ := one_cell e1; obtain ⟨c2, g2⟩ := one_cell e2; have n0 : w.heap.size < w1.heap.size := (by omega); have n1 : w.heap.size + 1 < w1.heap.size := (by omega); have n2 : w.heap.size + 1 + 1 < w1.heap.size := (by omega); have n3 : w.heap.size < w1.heap.size + 1 := (by omega); have n4 : w.heap.size + 1 < w1.heap.size + 1 + 1 := (by omega); clear hsz; have ke0 := Lib.hid e0; have ke1 := Lib.hid e1; have ke2 := Lib.hid e2; have kb := Lib.hid hb1; clear e0 e1 e2 hb1 g0 g2; obtain ⟨hd0, hd1, hd2, hdn⟩ := node_cells knb.out kb.out; have hdm : N q < w1.heap.size := (by omega); have hdm1 : N q < w1.heap.size + 1 := (by omega); have hdm2 : N q < w1.heap.size + 1 + 1 := (by omega); have hde : N q ≠ w.heap.size + 1 := (by omega); have hde2 : w.heap.size + 1 ≠ N q := (by omega))
    refine ⟨_, results_tmp rfl _ _ _, ?_⟩
    exact OpPost.same kh.out (hpost.out) rfl (boxed_below (B := w.heap.size) kb.out (by omega))
  · have hshort : n.data.length + bb.length ≤ 65536 := by omega
    clear hlong
    cases hfit : fitsB st room 0 (bb.length : Int) with
    | false =>
      have hpost := Lib.hid (show writeTail st clock room q n.data bb 0 (bb.length : Int) = (15, st, clock) by unfold writeTail; rw [if_neg (by omega), if_pos hfit])
      go_enter_defers Tryz.func17, Tryz.ntmps17
      go_wp2_with (go_at_call 34; refine hL.out.mono ?_; rintro e w1 ⟨rfl, hb⟩; have kb1 := Lib.hid hb; clear hb; obtain ⟨e0, e1, e2, hsz, hb1⟩ := box3 w f p (.slice ba bb.length bc) kb1.out; obtain ⟨c0, g0⟩ := one_cell e0; obtain ⟨c1, g1⟩ := one_cell e1; obtain ⟨c2, g2⟩ := one_cell e2; have n0 : w.heap.size < w1.heap.size := (by omega); have n1 : w.heap.size + 1 < w1.heap.size := (by omega); have n2 : w.heap.size + 1 + 1 < w1.heap.size := (by omega); have n3 : w.heap.size < w1.heap.size + 1 := (by omega); have n4 : w.heap.size + 1 < w1.heap.size + 1 + 1 := (by omega); clear hsz; have ke0 := Lib.hid e0; have ke1 := Lib.hid e1; have ke2 := Lib.hid e2; have kb := Lib.hid hb1; clear e0 e1 e2 hb1 g0 g2; obtain ⟨hd0, hd1, hd2, hdn⟩ := node_cells knb.out kb.out; have hdm : N q < w1.heap.size := (by omega); have hdm1 : N q < w1.heap.size + 1 := (by omega); have hdm2 : N q < w1.heap.size + 1 + 1 := (by omega); have hde : N q ≠ w.heap.size + 1 := (by omega); have hde2 : w.heap.size + 1 ≠ N q := (by omega))
      have hF := Lib.hid (fits_no 0 (bb.length : Int) (Boxed w1 w.heap.size Q (.slice na n.data.length nc) (bb.length : Int) 0) (kh.out.below (boxed_below kb.out (by omega))) (by omega) (by omega) hl hfit)
      go_wp2_with (go_at_call 36; refine hF.out.mono ?_; rintro e w2 ⟨rfl, n2, rfl⟩)
      refine ⟨_, results_tmp rfl _ _ _, ?_⟩
      exact OpPost.same kh.out (hpost.out) rfl (below_drewN' (boxed_below kb.out (by omega)) _)
    | true =>
      have hpost := Lib.hid (show writeTail st clock room q n.data bb 0 (bb.length : Int) = (0, putSt st q ⟨false, clock + 1, n.data ++ bb⟩, clock + 1) by unfold writeTail; rw [if_neg (by omega), if_neg (by rw [hfit]; simp)])
      go_enter_defers Tryz.func17, Tryz.ntmps17
      go_wp2_with (go_at_call 34; refine hL.out.mono ?_; rintro e w1 ⟨rfl, hb⟩; have kb1 := Lib.hid hb; clear hb; obtain ⟨e0, e1, e2, hsz, hb1⟩ := box3 w f p (.slice ba bb.length bc) kb1.out; obtain ⟨c0, g0⟩ := one_cell e0; obtain ⟨c1, g1⟩ := one_cell e1; obtain ⟨c2, g2⟩ := one_cell e2; have n0 : w.heap.size < w1.heap.size := (by omega); have n1 : w.heap.size + 1 < w1.heap.size := (by omega); have n2 : w.heap.size + 1 + 1 < w1.heap.size := (by omega); have n3 : w.heap.size < w1.heap.size + 1 := (by omega); have n4 : w.heap.size + 1 < w1.heap.size + 1 + 1 := (by omega); clear hsz; have ke0 := Lib.hid e0; have ke1 := Lib.hid e1; have ke2 := Lib.hid e2; have kb := Lib.hid hb1; clear e0 e1 e2 hb1 g0 g2; obtain ⟨hd0, hd1, hd2, hdn⟩ := node_cells knb.out kb.out; have hdm : N q < w1.heap.size := (by omega); have hdm1 : N q < w1.heap.size + 1 := (by omega); have hdm2 : N q < w1.heap.size + 1 + 1 := (by omega); have hde : N q ≠ w.heap.size + 1 := (by omega); have hde2 : w.heap.size + 1 ≠ N q := (by omega))
      have hF := Lib.hid (fits_yes 0 (bb.length : Int) (Boxed w1 w.heap.size Q (.slice na n.data.length nc) (bb.length : Int) 0) (kh.out.below (boxed_below kb.out (by omega))) (by omega) (by omega) hl hfit)
      go_wp2_with (go_at_call 36; refine hF.out.mono ?_; rintro e w2 ⟨rfl, n2, rfl⟩)
      have hC := (boxed_caps (S := S) (Q := Q) (dv := (.slice na n.data.length nc)) (more := (bb.length : Int)) (nodes := 0) ke0.out ke1.out ke2.out (fun k hk => kh.out.lt k hk)).drewN n2
      have hI := (kh.out.below (boxed_below (Q := Q) (dv := (.slice na n.data.length nc)) (more := (bb.length : Int)) (nodes := 0) kb.out (by omega : w.heap.size ≤ w.heap.size + 1))).of_heap (w' := (Boxed w1 w.heap.size Q (.slice na n.data.length nc) (bb.length : Int) 0).drewN n2) (fun _ _ => rfl)
      have hB5 := below_drewN' (boxed_below (Q := Q) (dv := (.slice na n.data.length nc)) (more := (bb.length : Int)) (nodes := 0) kb.out (by omega : w.heap.size ≤ w.heap.size + 1)) n2
      have hbb := kHb.out.of_heap (w' := (Boxed w1 w.heap.size Q (.slice na n.data.length nc) (bb.length : Int) 0).drewN n2) (fun k hk => hB5.block k (kT.out k hk).2) (fun _ h => h)
      have hQq : Q.data.toList = q := by rw [← kQ.out, mk_list]
      have hwt : ((wt st : Nat) : Int) + (0 + (bb.length : Int)) = wt (putSt st Q.data.toList ⟨false, clock + 1, n.data ++ bb⟩) := by
        rw [hQq, wt_over kh.out.rising kfind.out]; simp; omega
      have hdd := knv.out.of_heap (w' := (Boxed w1 w.heap.size Q (.slice na n.data.length nc) (bb.length : Int) 0).drewN n2) (fun k hk => hB5.block k (kh.out.lt k hk)) (fun _ h => h)
      refine leaves_cons (f := 37) (args := #[.pointer (some ⟨w.heap.size, 0, none⟩), .pointer (some ⟨w1.heap.size, 0, none⟩), .pointer (some ⟨w.heap.size + 1 + 1, 0, none⟩), .pointer (some ⟨w.heap.size + 1, 0, none⟩), .pointer (some ⟨w1.heap.size + 1 + 1, 0, none⟩), .pointer (some ⟨w1.heap.size + 1, 0, none⟩)]) (by simp) (by simp [go_sem]) ?_
      refine (writed_calls .returning hI hC hdd hbb (fun k hk => ⟨(kT.out k hk).1, Nat.lt_of_lt_of_le (kT.out k hk).2 hB5.size⟩) (by rw [hQq]; exact kql.out) hl h0 h1 hdl (by omega) (by omega) (by omega) hwt).mono ?_
      rintro e u' w'' ⟨rfl, rfl, N', S', g1, g2, g3⟩
      refine ⟨_, results_tmp rfl _ _ _, ?_⟩
      rw [hQq] at g1
      exact OpPost.done hpost.out hB5 g1 g2 g3
end
end Go.Proofs.YtejofgdglpmlkaaGreatDoor
