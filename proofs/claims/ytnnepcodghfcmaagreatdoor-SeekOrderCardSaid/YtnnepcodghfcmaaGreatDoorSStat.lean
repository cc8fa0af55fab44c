/-
  Stat of a file system, at every path; errors.Is at a failure and at what is missing; the time of a name. Conditions: texts of at most 2^31 bytes.
-/
import Derived.Test.YtnnepcodghfcmaaGreatDoorVAs
import Derived.Test.YtnnepcodghfcmaaGreatDoorVOps
import Derived.Test.YtnnepcodghfcmaaGreatDoorVWrite2
import Derived.Test.YtnnepcodghfcmaaGreatDoorSSplit
import Derived.Sort.KeysCollected
import Derived.Laws.ResultCell
import Derived.LaidEql
import Derived.Deep.MidRow
import Derived.Lib.IfaceEq
namespace Go.Proofs.YtnnepcodghfcmaaGreatDoor
open Go.RowKit Go.Extern.Stop Go.Stop Go.Extern

def statP (st : St) (q : Bs) : Int × Int × Int := match lookQ st q with
  | .err _ => (0, 0, 0)
  | .none => (0, 0, 0)
  | .root => (2, 0, 0)
  | .node n => if n.dir = true then (2, n.time, 0) else (1, n.time, n.data.length)
/-- A stat's answer. -/
def statV (s : Int × Int × Int) : Value := .agg #[.int .i64 s.1, .int .i64 s.2.1, .int .i64 s.2.2]
theorem there_node {f mb : Nat} {N : Bs → Nat} {S : Nat → Prop} {st : St} {clock room : Int} {p : ByteArray} {q : Bs} {n : PN} (w : World) (h : FsIn w f mb N S st clock room) (hp : p.size ≤ 2147483647) (hq : clean p.data.toList = q) (hr : lookQ st q = .node n) :
    Calls Tryz.prog 66 #[.pointer (some ⟨f, 0, none⟩), .string p] w fun e w' => e = .returned (.tuple #[.string (mk q), .pointer (some ⟨N q, 0, none⟩), .nilIface]) ∧ Below w.heap.size w w' := by
  refine (there_calls p w h hp).mono ?_
  rintro e w' ⟨pv, ev, rfl, hv, hb⟩
  rw [hq, hr] at hv
  obtain ⟨rfl, rfl⟩ := hv
  exact ⟨by rw [hq], hb⟩
set_option maxRecDepth 100000 in
theorem errIs_nil (e0 : Int) (w : World) : Calls Tryz.prog 32 #[.nilIface, .iface 24 (.int .i64 e0)] w fun e w' => e = .returned (.bool false) ∧ w = w' := by
  have he := run_eql_iface_nil_left (P := Tryz.prog) w 24 (.int .i64 e0) Tryz.underlying59
  go_enter Tryz.func32, Tryz.ntmps32
  go_wp2
  go_ret
  exact ⟨rfl, rfl⟩
theorem stat_cells {w w1 : World} {t : TypeId} (h : Below (w.alloc (.cells #[.int .i64 0, .int .i64 0, .int .i64 0] t)).heap.size (w.alloc (.cells #[.int .i64 0, .int .i64 0, .int .i64 0] t)) w1) :
    w1.cell? ⟨w.heap.size, 0, none⟩ = some (.int .i64 0) ∧ w1.cell? ⟨w.heap.size, 1, none⟩ = some (.int .i64 0) ∧ w1.cell? ⟨w.heap.size, 2, none⟩ = some (.int .i64 0) ∧ (w1.frozen? ⟨w.heap.size, 0, none⟩ = false ∧ w1.frozen? ⟨w.heap.size, 1, none⟩ = false ∧ w1.frozen? ⟨w.heap.size, 2, none⟩ = false) ∧ w.heap.size < w1.heap.size := by
  have hb := (h.block w.heap.size (by simp)).trans (heap_alloc_new w _)
  obtain ⟨a, b, c, d⟩ := cells3 hb
  exact ⟨a, b, c, ⟨d 0, d 1, d 2⟩, heap_lt hb⟩
theorem stat_node {w w1 : World} {nb : Nat} {a b c : Value} {t : TypeId} {o : Obj} (h : Below (w.alloc o).heap.size (w.alloc o) w1) (hn : w.heap[nb]? = some (.cells #[a, b, c] t (0, 0))) :
    w1.cell? ⟨nb, 0, none⟩ = some a ∧ w1.cell? ⟨nb, 1, none⟩ = some b ∧ w1.cell? ⟨nb, 2, none⟩ = some c ∧ nb < w1.heap.size ∧ nb < w.heap.size ∧ nb ≠ w.heap.size := by
  have hl := heap_lt hn
  have hb := (h.block nb (by simp; omega)).trans ((heap_alloc_old w o hl).trans hn)
  obtain ⟨a, b, c, _⟩ := cells3 hb
  exact ⟨a, b, c, heap_lt hb, hl, by omega⟩
theorem unwrap_calls (p : ByteArray) (v : Value) (w : World) : Calls Tryz.prog 159 #[.agg #[.string p, v]] w fun e w' => e = .returned v ∧ Below w.heap.size w w' := by
  go_enter Tryz.func159, Tryz.ntmps159
  go_wp2
  go_ret
  exact ⟨rfl, below_al (Below.refl _ _)⟩
theorem isComparableE (w : World) : ((ReflectliteType.method fun t => do Rtype.noPackHeld "Comparable" t; (fun a : TypeInfo => Value.bool a.comparable) <$> typeInfo t) #[.agg #[.pointer (some ⟨9, 24, none⟩)]]).run Tryz.prog w = .ok (.bool true) w := by kernel_rfl
theorem isMethodComparable (h : Value) (w : World) : (Go.method 358 132 (.agg #[h]) "Comparable").run Tryz.prog w = .ok (168, .agg #[h]) w := by kernel_rfl
theorem noIsF (v : Value) (xT : TypeId) (w : World) : (Instr.typeAssert (.iface 75 v) xT 152 true).run Tryz.prog w = .ok (.tuple #[.nilIface, .bool false]) w := run_typeAssert_lacksB Tryz.underlying152 (by kernel_rfl) (by kernel_rfl) v xT w
theorem noIsE (v : Value) (xT : TypeId) (w : World) : (Instr.typeAssert (.iface 24 v) xT 152 true).run Tryz.prog w = .ok (.tuple #[.nilIface, .bool false]) w := run_typeAssert_lacksB Tryz.underlying152 (by kernel_rfl) (by kernel_rfl) v xT w
theorem noUnwrapE (v : Value) (xT : TypeId) (w : World) : (Instr.typeAssert (.iface 24 v) xT 139 true).run Tryz.prog w = .ok (.tuple #[.nilIface, .bool false]) w := run_typeAssert_lacksB Tryz.underlying139 (by kernel_rfl) (by kernel_rfl) v xT w
theorem noUnwrapsE (v : Value) (xT : TypeId) (w : World) : (Instr.typeAssert (.iface 24 v) xT 141 true).run Tryz.prog w = .ok (.tuple #[.nilIface, .bool false]) w := run_typeAssert_lacksB Tryz.underlying141 (by kernel_rfl) (by kernel_rfl) v xT w
set_option maxRecDepth 100000 in
set_option maxHeartbeats 8000000 in
theorem isIn_calls (q : ByteArray) (e x : Int) (w : World) :
    Calls Tryz.prog 51 #[.iface 75 (.agg #[.string q, .iface 24 (.int .i64 e)]), .iface 24 (.int .i64 x), .bool true] w fun ev w' => (∃ b, ev = .returned (.bool b)) ∧ Below w.heap.size w w' := by
  have e1 := run_eql_iface_types (P := Tryz.prog) 75 24 (.agg #[.string q, .iface 24 (.int .i64 e)]) (.int .i64 x) Tryz.underlying59 (by decide)
  have mU := methodUnwrap
  have nF := noIsF
  have nE := noIsE
  have hU := hasUnwrapF
  have uE := noUnwrapE
  have vE := noUnwrapsE
  have e2 := fun w => Go.Lib.run_eql_iface_int (P := Tryz.prog) w (tx := 24) (k := .i64) e x Tryz.underlying59 (by kernel_rfl) Tryz.underlying24
  by_cases hex : e = x
  · subst hex
    have hb : (e == e) = true := beq_self_eq_true e
    go_enter Tryz.func51, Tryz.ntmps51
    go_wp2
    refine wp_loop_rounds 2 ?_
    rw [rounds_succ]
    go_wp2_with (go_at_call 159; refine (unwrap_calls q _ _).mono ?_; rintro e1 w1 ⟨rfl, hb1⟩; have kb1 := Lib.hid hb1; clear hb1)
    rw [rounds_succ]
    go_wp2
    go_ret
    exact ⟨⟨_, rfl⟩, kb1.out⟩
  · have hb : (e == x) = false := by rw [beq_eq_false_iff_ne]; exact hex
    go_enter Tryz.func51, Tryz.ntmps51
    go_wp2
    refine wp_loop_rounds 2 ?_
    rw [rounds_succ]
    go_wp2_with (go_at_call 159; refine (unwrap_calls q _ _).mono ?_; rintro e1 w1 ⟨rfl, hb1⟩; have kb1 := Lib.hid hb1; clear hb1)
    rw [rounds_succ]
    go_wp2
    go_ret
    exact ⟨⟨_, rfl⟩, kb1.out⟩
set_option maxRecDepth 100000 in
set_option maxHeartbeats 8000000 in
theorem is_calls (q : ByteArray) (e x : Int) (w : World) :
    Calls Tryz.prog 32 #[.iface 75 (.agg #[.string q, .iface 24 (.int .i64 e)]), .iface 24 (.int .i64 x)] w fun ev w' => (∃ b, ev = .returned (.bool b)) ∧ Below w.heap.size w w' := by
  have hT := @run_callFunc_extern Tryz.prog 50 _ ReflectliteType.typeOf Tryz.func50 (by kernel_rfl) (by kernel_rfl) (by kernel_rfl) (by kernel_rfl)
  have hC := @run_callFunc_extern Tryz.prog 168 _ (ReflectliteType.method fun t => do Rtype.noPackHeld "Comparable" t; pure (.bool (← typeInfo t).comparable)) Tryz.func168 (by kernel_rfl) (by kernel_rfl) (by kernel_rfl) (by kernel_rfl)
  have tE := typeOfE
  have cE := isComparableE
  have mC := isMethodComparable
  have kI := Lib.hid (isIn_calls q e x w)
  go_enter Tryz.func32, Tryz.ntmps32
  go_wp2_with (go_at_call 51; refine kI.out.mono ?_; rintro e1 w1 ⟨⟨b, rfl⟩, hb⟩; have kb := Lib.hid hb; clear hb)
  go_ret
  exact ⟨⟨_, rfl⟩, kb.out⟩
section
variable {f mb : Nat} {N : Bs → Nat} {S Tb : Nat → Prop} {st : St} {clock room : Int} {p : ByteArray} {q bb : Bs} {w : World} {n : PN} {e0 : Int}
theorem there_root (w : World) (h : FsIn w f mb N S st clock room) (hp : p.size ≤ 2147483647) (hq : clean p.data.toList = q) (hr : lookQ st q = .root) :
    Calls Tryz.prog 66 #[.pointer (some ⟨f, 0, none⟩), .string p] w fun e w' => ∃ g, e = .returned (.tuple #[.string (mk q), .pointer (some ⟨g, 0, none⟩), .nilIface]) ∧ (w.heap.size ≤ g ∧ w'.heap[g]? = some (.cells #[.bool true, .int .i64 0, .slice none 0 0] 57 (0, 0))) ∧ Below w.heap.size w w' := by
  refine (there_calls p w h hp).mono ?_
  rintro e w' ⟨pv, ev, rfl, hv, hb⟩
  rw [hq, hr] at hv
  obtain ⟨⟨g, h1, h2, rfl⟩, rfl⟩ := hv
  exact ⟨g, by rw [hq], ⟨h1, h2⟩, hb⟩
theorem there_err (w : World) (h : FsIn w f mb N S st clock room) (hp : p.size ≤ 2147483647) (hq : clean p.data.toList = q) (hr : lookQ st q = .err e0 ∨ lookQ st q = .none ∧ e0 = 10) :
    Calls Tryz.prog 66 #[.pointer (some ⟨f, 0, none⟩), .string p] w fun e w' => e = .returned (.tuple #[.string (mk q), .pointer none, .iface 75 (.agg #[.string (mk q), .iface 24 (.int .i64 e0)])]) ∧ Below w.heap.size w w' := by
  refine (there_calls p w h hp).mono ?_
  rintro e w' ⟨pv, ev, rfl, hv, hb⟩
  rw [hq] at hv
  have hv' : LookV N w.heap.size w' q (.err e0) pv ev := by
    rcases hr with hr | ⟨hr, rfl⟩
    · rw [hr] at hv; exact hv
    · rw [hr] at hv; exact hv
  obtain ⟨rfl, rfl⟩ := hv'
  exact ⟨by rw [hq]; rfl, hb⟩
set_option maxRecDepth 100000 in
set_option maxHeartbeats 8000000 in
theorem stat_file (h : FsIn w f mb N S st clock room) (hp : p.size ≤ 2147483647) (hq : clean p.data.toList = q) (hr : lookQ st q = .node n) (hnd : n.dir = false) :
    Calls Tryz.prog 46 #[.pointer (some ⟨f, 0, none⟩), .string p] w fun e w' => e = .returned (.agg #[.int .i64 1, .int .i64 n.time, .int .i64 n.data.length]) ∧ Below w.heap.size w w' := by
  have hw0 := Lib.hid (h.below (below_al (o := .cells #[.int .i64 0, .int .i64 0, .int .i64 0] 109) (Below.refl _ _)))
  have hL := Lib.hid (there_node _ hw0.out hp hq hr)
  have kh := Lib.hid h
  obtain ⟨nv, hnb, hnv⟩ := (h.node q n (lookQ_find.2 n hr)).2.2
  have hNl := h.lt _ (h.node q n (lookQ_find.2 n hr)).2.1
  rw [hnd] at hnb
  have knb := Lib.hid hnb
  obtain ⟨na, nc, hnvf⟩ := hnv.form
  subst hnvf
  clear h hnb hnv
  generalize mk q = Q at *
  go_enter Tryz.func46, Tryz.ntmps46
  go_wp2_with (first | (go_at_call 32; refine (errIs_nil 10 _).mono ?_; rintro e w2 ⟨rfl, rfl⟩) | (go_at_call 66; refine hL.out.mono ?_; rintro e w1 ⟨rfl, hb⟩; have kb := Lib.hid hb; clear hb; obtain ⟨r0, r1, r2, ⟨rf0, rf1, rf2⟩, rl⟩ := stat_cells kb.out; obtain ⟨n0, n1, n2, n3, nlt, nne⟩ := stat_node kb.out knb.out))
  go_region
  go_wp2_with fail
  refine bodyPost_ret (v := .agg #[.int .i64 1, .int .i64 n.time, .int .i64 n.data.length]) (by simp [results, Tryz.results46, go_sem, r0, r1, r2]) rfl ⟨rfl, ?_⟩
  have hb0 : Below w.heap.size w w1 := (below_al (Below.refl _ _)).trans (kb.out.mono (by simp))
  exact below_drewN' (((hb0.setCell (Nat.le_refl _) _).setCell (Nat.le_refl _) _).setCell (Nat.le_refl _) _) 1
set_option maxRecDepth 100000 in
set_option maxHeartbeats 8000000 in
theorem stat_calls (h : FsIn w f mb N S st clock room) (hp : p.size ≤ 2147483647) (hq : clean p.data.toList = q) :
    Calls Tryz.prog 46 #[.pointer (some ⟨f, 0, none⟩), .string p] w fun e w' => e = .returned (statV (statP st q)) ∧ Below w.heap.size w w' := by
  have hw0 := Lib.hid (h.below (below_al (o := .cells #[.int .i64 0, .int .i64 0, .int .i64 0] 109) (Below.refl _ _)))
  have kS := Lib.hid (show ∀ (w1 : World), Below (w.alloc (.cells #[.int .i64 0, .int .i64 0, .int .i64 0] 109)).heap.size (w.alloc (.cells #[.int .i64 0, .int .i64 0, .int .i64 0] 109)) w1 → Below w.heap.size w w1 from fun w1 hb => (below_al (Below.refl _ _)).trans (hb.mono (by simp)))
  have kbad : ∀ e0, (lookQ st q = .err e0 ∨ lookQ st q = .none ∧ e0 = 10) → statP st q = (0, 0, 0) → Calls Tryz.prog 46 #[.pointer (some ⟨f, 0, none⟩), .string p] w fun e w' => e = .returned (statV (statP st q)) ∧ Below w.heap.size w w' := fun e0 hr hf => by
    have hL := Lib.hid (there_err _ hw0.out hp hq hr)
    have kf := Lib.hid hf
    generalize hQ : mk q = Q at *
    clear h hq hr hf hQ
    go_enter Tryz.func46, Tryz.ntmps46
    go_wp2_with (first | (go_at_call 66; refine hL.out.mono ?_; rintro e w1 ⟨rfl, hb⟩; have kb := Lib.hid hb; clear hb) | (go_at_call 32; refine (is_calls Q e0 10 _).mono ?_; rintro e w2 ⟨⟨b, rfl⟩, hb⟩; have kb2 := Lib.hid (kb.out.trans (hb.mono kb.out.size)); clear hb; obtain ⟨r0, r1, r2, ⟨rf0, rf1, rf2⟩, rl⟩ := stat_cells kb2.out; cases b))
    all_goals go_wp2
    all_goals
      refine bodyPost_ret (v := .agg #[.int .i64 0, .int .i64 0, .int .i64 0]) (by simp [results, Tryz.results46, go_sem, r0, r1, r2]) rfl ⟨by rw [kf.out]; rfl, ?_⟩
      exact (((kS.out _ kb2.out).setCell (Nat.le_refl _) _).setCell (Nat.le_refl _) _).setCell (Nat.le_refl _) _
  cases hr : lookQ st q with
  | err e0 => exact kbad e0 (Or.inl hr) (by unfold statP; rw [hr])
  | none => exact kbad 10 (Or.inr ⟨hr, rfl⟩) (by unfold statP; rw [hr])
  | root =>
    have hL := Lib.hid (there_root _ hw0.out hp hq hr)
    have kf := Lib.hid (show statP st q = (2, 0, 0) by unfold statP; rw [hr])
    clear kbad h hq hr
    generalize mk q = Q at *
    go_enter Tryz.func46, Tryz.ntmps46
    go_wp2_with (first | (go_at_call 32; refine (errIs_nil 10 _).mono ?_; rintro e w2 ⟨rfl, rfl⟩) | (go_at_call 66; refine hL.out.mono ?_; rintro e w1 ⟨g, rfl, ⟨hg, hn⟩, hb⟩; have kb := Lib.hid hb; obtain ⟨n0, n1, -, -⟩ := cells3 hn; have hnl := heap_lt hn; clear hb hn; obtain ⟨r0, r1, r2, ⟨rf0, rf1, rf2⟩, rl⟩ := stat_cells kb.out))
    refine bodyPost_ret (v := .agg #[.int .i64 2, .int .i64 0, .int .i64 0]) (by simp [results, Tryz.results46, go_sem, r0, r1, r2]) rfl ⟨by rw [kf.out]; rfl, ?_⟩
    exact (((kS.out _ kb.out).setCell (Nat.le_refl _) _).setCell (Nat.le_refl _) _).setCell (Nat.le_refl _) _
  | node n =>
    cases hd : n.dir with
    | false =>
      have hf : statP st q = (1, n.time, (n.data.length : Int)) := by unfold statP; rw [hr]; simp [hd]
      rw [hf]
      exact stat_file h hp hq hr hd
    | true =>
      have kf := Lib.hid (show statP st q = (2, n.time, 0) by unfold statP; rw [hr]; simp [hd])
      have hL := Lib.hid (there_node _ hw0.out hp hq hr)
      obtain ⟨nv, hnb, hnv⟩ := (h.node q n (lookQ_find.2 n hr)).2.2
      rw [hd] at hnb
      have knb := Lib.hid hnb
      clear kbad h hq hr hnb hnv hd
      generalize mk q = Q at *
      go_enter Tryz.func46, Tryz.ntmps46
      go_wp2_with (first | (go_at_call 32; refine (errIs_nil 10 _).mono ?_; rintro e w2 ⟨rfl, rfl⟩) | (go_at_call 66; refine hL.out.mono ?_; rintro e w1 ⟨rfl, hb⟩; have kb := Lib.hid hb; clear hb; obtain ⟨r0, r1, r2, ⟨rf0, rf1, rf2⟩, rl⟩ := stat_cells kb.out; obtain ⟨n0, n1, n2, n3, nlt, nne⟩ := stat_node kb.out knb.out))
      refine bodyPost_ret (v := .agg #[.int .i64 2, .int .i64 n.time, .int .i64 0]) (by simp [results, Tryz.results46, go_sem, r0, r1, r2]) rfl ⟨by rw [kf.out]; rfl, ?_⟩
      exact (((kS.out _ kb.out).setCell (Nat.le_refl _) _).setCell (Nat.le_refl _) _).setCell (Nat.le_refl _) _
end
end Go.Proofs.YtnnepcodghfcmaaGreatDoor
