/-
  The time of a name that is no member's. Conditions: texts of at most 2^31 bytes; a name that is none of an archive's member.
-/
import Derived.Test.YtnnepcodghfcmaaGreatDoorSStat
namespace Go.Proofs.YtnnepcodghfcmaaGreatDoor
open Go.RowKit Go.Extern.Stop Go.Stop Go.Extern

theorem methodUnwrapM (p : ByteArray) (v : Value) (w : World) : (Go.method 358 112 (.agg #[.string p, v]) "Unwrap").run Tryz.prog w = .ok (164, .agg #[.string p, v]) w := by kernel_rfl
theorem noIsM (v : Value) (xT : TypeId) (w : World) : (Instr.typeAssert (.iface 112 v) xT 152 true).run Tryz.prog w = .ok (.tuple #[.nilIface, .bool false]) w := run_typeAssert_lacksB Tryz.underlying152 (by kernel_rfl) (by kernel_rfl) v xT w
theorem hasUnwrapM (v : Value) (xT : TypeId) (w : World) : (Instr.typeAssert (.iface 112 v) xT 139 true).run Tryz.prog w = .ok (.tuple #[.iface 112 v, .bool true]) w := run_typeAssert_hasB Tryz.underlying139 (by kernel_rfl) v xT w
theorem unwrapM_calls (p : ByteArray) (v : Value) (w : World) : Calls Tryz.prog 164 #[.agg #[.string p, v]] w fun e w' => e = .returned v ∧ Below w.heap.size w w' := by
  go_enter Tryz.func164, Tryz.ntmps164
  go_wp2
  go_ret
  exact ⟨rfl, below_al (Below.refl _ _)⟩
set_option maxRecDepth 100000 in
set_option maxHeartbeats 8000000 in
theorem isInM_calls (q : ByteArray) (w : World) :
    Calls Tryz.prog 51 #[.iface 112 (.agg #[.string q, .iface 24 (.int .i64 10)]), .iface 24 (.int .i64 10), .bool true] w fun ev w' => ev = .returned (.bool true) ∧ Below w.heap.size w w' := by
  have e1 := run_eql_iface_types (P := Tryz.prog) 112 24 (.agg #[.string q, .iface 24 (.int .i64 10)]) (.int .i64 10) Tryz.underlying59 (by decide)
  have mU := methodUnwrapM
  have nF := noIsM
  have nE := noIsE
  have hU := hasUnwrapM
  have uE := noUnwrapE
  have vE := noUnwrapsE
  have e2 := fun w => Go.Lib.run_eql_iface_int (P := Tryz.prog) w (tx := 24) (k := .i64) 10 10 Tryz.underlying59 (by kernel_rfl) Tryz.underlying24
  go_enter Tryz.func51, Tryz.ntmps51
  go_wp2
  refine wp_loop_rounds 2 ?_
  rw [rounds_succ]
  go_wp2_with (go_at_call 164; refine (unwrapM_calls q _ _).mono ?_; rintro e1 w1 ⟨rfl, hb1⟩; have kb1 := Lib.hid hb1; clear hb1)
  rw [rounds_succ]
  go_wp2
  go_ret
  exact ⟨rfl, kb1.out⟩
set_option maxRecDepth 100000 in
set_option maxHeartbeats 8000000 in
theorem isM_calls (q : ByteArray) (w : World) :
    Calls Tryz.prog 32 #[.iface 112 (.agg #[.string q, .iface 24 (.int .i64 10)]), .iface 24 (.int .i64 10)] w fun ev w' => ev = .returned (.bool true) ∧ Below w.heap.size w w' := by
  have hT := @run_callFunc_extern Tryz.prog 50 _ ReflectliteType.typeOf Tryz.func50 (by kernel_rfl) (by kernel_rfl) (by kernel_rfl) (by kernel_rfl)
  have hC := @run_callFunc_extern Tryz.prog 168 _ (ReflectliteType.method fun t => do Rtype.noPackHeld "Comparable" t; pure (.bool (← typeInfo t).comparable)) Tryz.func168 (by kernel_rfl) (by kernel_rfl) (by kernel_rfl) (by kernel_rfl)
  have tE := typeOfE
  have cE := isComparableE
  have mC := isMethodComparable
  have kI := Lib.hid (isInM_calls q w)
  go_enter Tryz.func32, Tryz.ntmps32
  go_wp2_with (go_at_call 51; refine kI.out.mono ?_; rintro e1 w1 ⟨rfl, hb⟩; have kb := Lib.hid hb; clear hb)
  go_ret
  exact ⟨rfl, kb.out⟩
section
variable {f mb : Nat} {N : Bs → Nat} {S : Nat → Prop} {st : St} {clock room : Int} {p : ByteArray} {q : Bs} {w : World}
/-- What seek.time answers of a name that is none of a member. -/
def timeV (p : ByteArray) (x : Int × Int × Int) : Value := if x.1 = 0 then .tuple #[.int .i64 0, .iface 112 (.agg #[.string p, .iface 24 (.int .i64 10)])] else .tuple #[.int .i64 x.2.1, .nilIface]
set_option maxRecDepth 100000 in
set_option maxHeartbeats 4000000 in
theorem stime_calls (h : FsIn w f mb N S st clock room) (hp : p.size ≤ 2147483647) (hq : clean p.data.toList = q) (hs : splitOf p = none) :
    Calls Tryz.prog 31 #[.pointer (some ⟨f, 0, none⟩), .string p] w fun e w' => e = .returned (timeV p (statP st q)) ∧ Below w.heap.size w w' := by
  have hS := Lib.hid (split_calls p w (by omega))
  have hv : splitVal p = .tuple #[.string ⟨#[]⟩, .string ⟨#[]⟩, .bool false] := by unfold splitVal; rw [hs]
  rw [hv] at hS
  have kh := Lib.hid h
  have kSt := Lib.hid (fun (W : World) (hb : Below w.heap.size w W) => stat_calls (h.below hb) hp hq)
  obtain ⟨a, b, c, hst⟩ : ∃ a b c, statP st q = (a, b, c) := ⟨_, _, _, rfl⟩
  rw [hst] at kSt ⊢
  clear h hq hs hv hst
  by_cases h0 : a = 0
  · subst h0
    go_enter Tryz.func31, Tryz.ntmps31
    go_wp2_with (first | (go_at_call 11; refine hS.out.mono ?_; rintro e w1 ⟨rfl, hb⟩; have kb := Lib.hid hb; clear hb) | (go_at_call 46; refine (kSt.out _ kb.out).mono ?_; rintro e w2 ⟨rfl, hb⟩; have kb2 := Lib.hid (kb.out.trans (hb.mono kb.out.size)); clear hb; dsimp only [statV]))
    go_ret2
    exact ⟨rfl, below_al kb2.out⟩
  · have e0 : (a == 0) = false := beq_eq_false_iff_ne.2 h0
    go_enter Tryz.func31, Tryz.ntmps31
    go_wp2_with (first | (go_at_call 11; refine hS.out.mono ?_; rintro e w1 ⟨rfl, hb⟩; have kb := Lib.hid hb; clear hb) | (go_at_call 46; refine (kSt.out _ kb.out).mono ?_; rintro e w2 ⟨rfl, hb⟩; have kb2 := Lib.hid (kb.out.trans (hb.mono kb.out.size)); clear hb; dsimp only [statV]))
    go_ret2
    exact ⟨by unfold timeV; rw [if_neg h0]; rfl, below_al kb2.out⟩
/-- Is a name there, and when was it changed? -/
theorem time_calls (h : FsIn w f mb N S st clock room) (hp : p.size ≤ 2147483647) (hq : clean p.data.toList = q) (hs : splitOf p = none) :
    Calls Tryz.prog 19 #[.pointer (some ⟨f, 0, none⟩), .string p] w fun e w' => ∃ t, e = .returned (.tuple #[.int .i64 t, .bool (decide ((statP st q).1 ≠ 0))]) ∧ Below w.heap.size w w' := by
  have hT := Lib.hid (stime_calls h hp hq hs)
  have hI := Lib.hid (isM_calls p)
  have hN := Lib.hid (errIs_nil 10)
  obtain ⟨a, b, c, hst⟩ : ∃ a b c, statP st q = (a, b, c) := ⟨_, _, _, rfl⟩
  rw [hst] at hT ⊢
  clear h hp hq hs hst
  by_cases h0 : a = 0
  · subst h0
    go_enter Tryz.func19, Tryz.ntmps19
    go_wp2_with (first | (go_at_call 31; refine hT.out.mono ?_; rintro e w1 ⟨rfl, hb⟩; have kb := Lib.hid hb; clear hb; dsimp only [timeV, if_true]) | (go_at_call 32; refine (hI.out _).mono ?_; rintro e w2 ⟨rfl, hb⟩; have kb2 := Lib.hid (kb.out.trans (hb.mono kb.out.size)); clear hb))
    go_ret2
    exact ⟨_, rfl, kb2.out⟩
  · have hd : decide (a ≠ 0) = true := decide_eq_true h0
    have kd := Lib.hid hd
    have hv : timeV p (a, b, c) = .tuple #[.int .i64 b, .nilIface] := by unfold timeV; rw [if_neg h0]
    rw [hv] at hT
    clear hd hv
    go_enter Tryz.func19, Tryz.ntmps19
    go_wp2_with (first | (go_at_call 31; refine hT.out.mono ?_; rintro e w1 ⟨rfl, hb⟩; have kb := Lib.hid hb; clear hb) | (go_at_call 32; refine (hN.out _).mono ?_; rintro e w2 ⟨rfl, rfl⟩))
    go_ret2
    exact ⟨_, by rw [kd.out]; rfl, kb.out⟩
end
end Go.Proofs.YtnnepcodghfcmaaGreatDoor
