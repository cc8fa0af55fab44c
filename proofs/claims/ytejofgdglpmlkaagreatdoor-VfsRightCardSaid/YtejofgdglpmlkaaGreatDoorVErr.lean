/-
  Write, Mkdir, Remove, Touch, Rename where they answer an error and change nothing. Conditions: the library's variable is laid.
-/
import Derived.Test.YtejofgdglpmlkaaGreatDoorVAs2
import Derived.Test.YtejofgdglpmlkaaGreatDoorVTouch
import Derived.Test.YtejofgdglpmlkaaGreatDoorVWrite3
namespace Go.Proofs.YtejofgdglpmlkaaGreatDoor
open Go.RowKit

section
variable {f mb : Nat} {N : Bs → Nat} {S Tb : Nat → Prop} {st : St} {clock room : Int} {p : ByteArray} {q bb : Bs} {bv : Value} {w : World} {n : PN} {add : Bool} {e0 : Int}
theorem mk_empty' : mk [] = ⟨#[]⟩ := rfl
theorem root_empty {st : St} {q : Bs} (h : lookQ st q = .root) : q = [] := by
  unfold lookQ at h
  split at h
  · cases h
  · split at h
    · assumption
    · unfold lookT at h
      split at h
      · cases h
      · split at h <;> cases h
theorem err_ne {st : St} {q : Bs} (h : lookQ st q = .err e0) : q ≠ [] := by
  intro e
  subst e
  unfold lookQ at h
  rw [if_neg (by decide), if_pos rfl] at h
  cases h
set_option maxRecDepth 100000 in
set_option maxHeartbeats 4000000 in
theorem write_root (h : FsIn w f mb N S st clock room) (hp : p.size ≤ 2147483647) (hq : clean p.data.toList = q) (hr : lookQ st q = .root)
    (hb : BytesAt w bv bb Tb) (hlw : Laid w) :
    Calls Tryz.prog 17 #[.pointer (some ⟨f, 0, none⟩), .string p, bv, .bool add] w fun e w' => OpPost w f S room (12, st, clock) e w' := by
  obtain ⟨ba, bc, hbv⟩ := hb.form
  subst hbv
  have hW : Below w.heap.size w (Box3 w f p (.slice ba bb.length bc)) := below_al (below_al (below_al (Below.refl _ _)))
  have hL := Lib.hid (look_root _ (h.below hW) hp hq hr)
  have kh := Lib.hid h
  have klw := Lib.hid hlw
  have hl0 := hlw.lt
  clear h hb hW hlw
  rw [root_empty hr, mk_empty'] at hL
  go_enter_defers Tryz.func17, Tryz.ntmps17
  go_wp2_with (first | (go_at_call 34; refine hL.out.mono ?_; rintro e w1 ⟨g, rfl, -, hb⟩; have kb1 := Lib.hid hb; clear hb; obtain ⟨e0, e1, e2, hsz, hb1⟩ := box3 w f p (.slice ba bb.length bc) kb1.out; obtain ⟨c0, g0⟩ := one_cell e0; obtain ⟨c1, g1⟩ := one_cell e1; obtain ⟨c2, g2⟩ := one_cell e2; have n0 : w.heap.size < w1.heap.size := (by omega); have n1 : w.heap.size + 1 < w1.heap.size := (by omega); have n2 : w.heap.size + 1 + 1 < w1.heap.size := (by omega); have n3 : w.heap.size < w1.heap.size + 1 := (by omega); have n4 : w.heap.size + 1 < w1.heap.size + 1 + 1 := (by omega); clear hsz; have kb := Lib.hid hb1; clear e0 e1 e2 hb1 g0 g2))
  refine ⟨_, results_tmp rfl _ _ _, ?_⟩
  exact OpPost.same kh.out rfl rfl (boxed_below (B := w.heap.size) kb.out (by omega))
set_option maxRecDepth 100000 in
set_option maxHeartbeats 4000000 in
theorem write_err (h : FsIn w f mb N S st clock room) (hp : p.size ≤ 2147483647) (hq : clean p.data.toList = q) (hr : lookQ st q = .err e0)
    (hb : BytesAt w bv bb Tb) (hlw : Laid w) :
    Calls Tryz.prog 17 #[.pointer (some ⟨f, 0, none⟩), .string p, bv, .bool add] w fun e w' => OpPost w f S room (e0, st, clock) e w' := by
  obtain ⟨ba, bc, hbv⟩ := hb.form
  subst hbv
  have hW : Below w.heap.size w (Box3 w f p (.slice ba bb.length bc)) := below_al (below_al (below_al (Below.refl _ _)))
  have hL := Lib.hid (look_err _ (h.below hW) hp hq hr)
  have kh := Lib.hid h
  have klw := Lib.hid hlw
  have hl0 := hlw.lt
  clear h hb hW hlw
  have hQe := mk_isEmpty (err_ne hr)
  generalize hQ : mk q = Q at *
  clear hQ
  go_enter_defers Tryz.func17, Tryz.ntmps17
  go_wp2_with (first | (go_at_call 34; refine hL.out.mono ?_; rintro e w1 ⟨rfl, hb⟩; have kb1 := Lib.hid hb; clear hb; obtain ⟨e0, e1, e2, hsz, hb1⟩ := box3 w f p (.slice ba bb.length bc) kb1.out; obtain ⟨c0, g0⟩ := one_cell e0; obtain ⟨c1, g1⟩ := one_cell e1; obtain ⟨c2, g2⟩ := one_cell e2; have n0 : w.heap.size < w1.heap.size := (by omega); have n1 : w.heap.size + 1 < w1.heap.size := (by omega); have n2 : w.heap.size + 1 + 1 < w1.heap.size := (by omega); have n3 : w.heap.size < w1.heap.size + 1 := (by omega); have n4 : w.heap.size + 1 < w1.heap.size + 1 + 1 := (by omega); clear hsz; have kb := Lib.hid hb1; clear e0 e1 e2 hb1 g0 g2) | (go_at_call 35; refine (number_calls Q e0 _ (klw.out.below hl0 (boxed_below (B := w.heap.size) kb.out (by omega)))).mono ?_; rintro e w4 ⟨rfl, hb4⟩; have kb4 := Lib.hid hb4; clear hb4))
  refine ⟨_, results_tmp rfl _ _ _, ?_⟩
  exact OpPost.same kh.out rfl rfl ((boxed_below (B := w.heap.size) kb.out (by omega)).trans (kb4.out.mono (boxed_below (B := w.heap.size) kb.out (by omega)).size))
set_option maxRecDepth 100000 in
set_option maxHeartbeats 4000000 in
theorem write_dir (h : FsIn w f mb N S st clock room) (hp : p.size ≤ 2147483647) (hq : clean p.data.toList = q) (hr : lookQ st q = .node n) (hnd : n.dir = true)
    (hb : BytesAt w bv bb Tb) (hlw : Laid w) :
    Calls Tryz.prog 17 #[.pointer (some ⟨f, 0, none⟩), .string p, bv, .bool add] w fun e w' => OpPost w f S room (12, st, clock) e w' := by
  obtain ⟨ba, bc, hbv⟩ := hb.form
  subst hbv
  have hW : Below w.heap.size w (Box3 w f p (.slice ba bb.length bc)) := below_al (below_al (below_al (Below.refl _ _)))
  have hL := Lib.hid (look_node _ (h.below hW) hp hq hr)
  have kh := Lib.hid h
  have klw := Lib.hid hlw
  have hl0 := hlw.lt
  clear h hb hW hlw
  obtain ⟨hNl0, hnode0⟩ := (kh.out.node q n (lookQ_find.2 n hr)).2
  have hNl := kh.out.lt _ hNl0
  obtain ⟨nv, hnb, hnv⟩ := hnode0
  rw [hnd] at hnb
  have knb := Lib.hid hnb
  clear hnb hnv hNl0
  have hQe := mk_isEmpty (lookQ_valid (Or.inr ⟨n, hr⟩)).2.1
  generalize hQ : mk q = Q at *
  clear hQ
  go_enter_defers Tryz.func17, Tryz.ntmps17
  go_wp2_with (first | (go_at_call 34; refine hL.out.mono ?_; rintro e w1 ⟨rfl, hb⟩; have kb1 := Lib.hid hb; clear hb; obtain ⟨e0, e1, e2, hsz, hb1⟩ := box3 w f p (.slice ba bb.length bc) kb1.out; obtain ⟨c0, g0⟩ := one_cell e0; obtain ⟨c1, g1⟩ := one_cell e1; obtain ⟨c2, g2⟩ := one_cell e2; have n0 : w.heap.size < w1.heap.size := (by omega); have n1 : w.heap.size + 1 < w1.heap.size := (by omega); have n2 : w.heap.size + 1 + 1 < w1.heap.size := (by omega); have n3 : w.heap.size < w1.heap.size + 1 := (by omega); have n4 : w.heap.size + 1 < w1.heap.size + 1 + 1 := (by omega); clear hsz; have kb := Lib.hid hb1; clear e0 e1 e2 hb1 g0 g2; obtain ⟨hd0, hd1, hd2, hdn⟩ := node_cells knb.out kb.out; have hdm : N q < w1.heap.size := (by omega); have hdm1 : N q < w1.heap.size + 1 := (by omega); have hdm2 : N q < w1.heap.size + 1 + 1 := (by omega); have hde : N q ≠ w.heap.size + 1 := (by omega); have hde2 : w.heap.size + 1 ≠ N q := (by omega)))
  refine ⟨_, results_tmp rfl _ _ _, ?_⟩
  exact OpPost.same kh.out rfl rfl (boxed_below (B := w.heap.size) kb.out (by omega))
set_option maxRecDepth 100000 in
set_option maxHeartbeats 4000000 in
theorem mkdir_root (h : FsIn w f mb N S st clock room) (hp : p.size ≤ 2147483647) (hq : clean p.data.toList = q) (hr : lookQ st q = .root) (hlw : Laid w) :
    Calls Tryz.prog 18 #[.pointer (some ⟨f, 0, none⟩), .string p] w fun e w' => OpPost w f S room (13, st, clock) e w' := by
  have hL := Lib.hid (look_root w h hp hq hr)
  have kh := Lib.hid h
  have klw := Lib.hid hlw
  have hl0 := hlw.lt
  clear h hlw
  rw [root_empty hr, mk_empty'] at hL
  go_enter Tryz.func18, Tryz.ntmps18
  go_wp2_with (first | (go_at_call 34; refine hL.out.mono ?_; rintro e w1 ⟨g, rfl, -, hb⟩; have kb := Lib.hid hb; clear hb))
  go_ret
  exact OpPost.same kh.out rfl rfl kb.out
set_option maxRecDepth 100000 in
set_option maxHeartbeats 4000000 in
theorem mkdir_err (h : FsIn w f mb N S st clock room) (hp : p.size ≤ 2147483647) (hq : clean p.data.toList = q) (hr : lookQ st q = .err e0) (hlw : Laid w) :
    Calls Tryz.prog 18 #[.pointer (some ⟨f, 0, none⟩), .string p] w fun e w' => OpPost w f S room (e0, st, clock) e w' := by
  have hL := Lib.hid (look_err w h hp hq hr)
  have kh := Lib.hid h
  have klw := Lib.hid hlw
  have hl0 := hlw.lt
  clear h hlw
  have hQe := mk_isEmpty (err_ne hr)
  generalize hQ : mk q = Q at *
  clear hQ
  go_enter Tryz.func18, Tryz.ntmps18
  go_wp2_with (first | (go_at_call 34; refine hL.out.mono ?_; rintro e w1 ⟨rfl, hb⟩; have kb := Lib.hid hb; clear hb) | (go_at_call 35; refine (number_calls Q e0 _ (klw.out.below hl0 kb.out)).mono ?_; rintro e w4 ⟨rfl, hb4⟩; have kb4 := Lib.hid hb4; clear hb4))
  go_ret
  exact OpPost.same kh.out rfl rfl (kb.out.trans (kb4.out.mono kb.out.size))
set_option maxRecDepth 100000 in
set_option maxHeartbeats 4000000 in
theorem touch_root (h : FsIn w f mb N S st clock room) (hp : p.size ≤ 2147483647) (hq : clean p.data.toList = q) (hr : lookQ st q = .root) (hlw : Laid w) :
    Calls Tryz.prog 21 #[.pointer (some ⟨f, 0, none⟩), .string p] w fun e w' => OpPost w f S room (0, st, clock) e w' := by
  have hL := Lib.hid (look_root w h hp hq hr)
  have kh := Lib.hid h
  have klw := Lib.hid hlw
  have hl0 := hlw.lt
  clear h hlw
  rw [root_empty hr, mk_empty'] at hL
  go_enter Tryz.func21, Tryz.ntmps21
  go_wp2_with (first | (go_at_call 34; refine hL.out.mono ?_; rintro e w1 ⟨g, rfl, -, hb⟩; have kb := Lib.hid hb; clear hb))
  go_ret
  exact OpPost.same kh.out rfl rfl kb.out
set_option maxRecDepth 100000 in
set_option maxHeartbeats 4000000 in
theorem touch_err (h : FsIn w f mb N S st clock room) (hp : p.size ≤ 2147483647) (hq : clean p.data.toList = q) (hr : lookQ st q = .err e0) (hlw : Laid w) :
    Calls Tryz.prog 21 #[.pointer (some ⟨f, 0, none⟩), .string p] w fun e w' => OpPost w f S room (e0, st, clock) e w' := by
  have hL := Lib.hid (look_err w h hp hq hr)
  have kh := Lib.hid h
  have klw := Lib.hid hlw
  have hl0 := hlw.lt
  clear h hlw
  have hQe := mk_isEmpty (err_ne hr)
  generalize hQ : mk q = Q at *
  clear hQ
  go_enter Tryz.func21, Tryz.ntmps21
  go_wp2_with (first | (go_at_call 34; refine hL.out.mono ?_; rintro e w1 ⟨rfl, hb⟩; have kb := Lib.hid hb; clear hb) | (go_at_call 35; refine (number_calls Q e0 _ (klw.out.below hl0 kb.out)).mono ?_; rintro e w4 ⟨rfl, hb4⟩; have kb4 := Lib.hid hb4; clear hb4))
  go_ret
  exact OpPost.same kh.out rfl rfl (kb.out.trans (kb4.out.mono kb.out.size))
set_option maxRecDepth 100000 in
set_option maxHeartbeats 4000000 in
theorem mkdir_node (h : FsIn w f mb N S st clock room) (hp : p.size ≤ 2147483647) (hq : clean p.data.toList = q) (hr : lookQ st q = .node n) (hlw : Laid w) :
    Calls Tryz.prog 18 #[.pointer (some ⟨f, 0, none⟩), .string p] w fun e w' => OpPost w f S room (13, st, clock) e w' := by
  have hL := Lib.hid (look_node w h hp hq hr)
  have kh := Lib.hid h
  have klw := Lib.hid hlw
  have hl0 := hlw.lt
  clear h hlw
  have hQe := mk_isEmpty (lookQ_valid (Or.inr ⟨n, hr⟩)).2.1
  generalize hQ : mk q = Q at *
  clear hQ
  go_enter Tryz.func18, Tryz.ntmps18
  go_wp2_with (first | (go_at_call 34; refine hL.out.mono ?_; rintro e w1 ⟨rfl, hb⟩; have kb := Lib.hid hb; clear hb))
  go_ret
  exact OpPost.same kh.out rfl rfl kb.out
theorem there_root (w : World) (h : FsIn w f mb N S st clock room) (hp : p.size ≤ 2147483647) (hq : clean p.data.toList = q) (hr : lookQ st q = .root) :
    Calls Tryz.prog 39 #[.pointer (some ⟨f, 0, none⟩), .string p] w fun e w' => ∃ g, e = .returned (.tuple #[.string (mk q), .pointer (some ⟨g, 0, none⟩), .nilIface]) ∧ (w.heap.size ≤ g ∧ w'.heap[g]? = some (.cells #[.bool true, .int .i64 0, .slice none 0 0] 61 (0, 0))) ∧ Below w.heap.size w w' := by
  refine (there_calls p w h hp).mono ?_
  rintro e w' ⟨pv, ev, rfl, hv, hb⟩
  rw [hq, hr] at hv
  obtain ⟨⟨g, h1, h2, rfl⟩, rfl⟩ := hv
  exact ⟨g, by rw [hq], ⟨h1, h2⟩, hb⟩
theorem there_err (w : World) (h : FsIn w f mb N S st clock room) (hp : p.size ≤ 2147483647) (hq : clean p.data.toList = q) (hr : lookQ st q = .err e0 ∨ lookQ st q = .none ∧ e0 = 10) :
    Calls Tryz.prog 39 #[.pointer (some ⟨f, 0, none⟩), .string p] w fun e w' => e = .returned (.tuple #[.string (mk q), .pointer none, .iface 94 (.agg #[.string (mk q), .iface 29 (.int .i64 e0)])]) ∧ Below w.heap.size w w' := by
  refine (there_calls p w h hp).mono ?_
  rintro e w' ⟨pv, ev, rfl, hv, hb⟩
  rw [hq] at hv
  have hv' : LookV N w.heap.size w' q (.err e0) pv ev := by
    rcases hr with hr | ⟨hr, rfl⟩
    · rw [hr] at hv; exact hv
    · rw [hr] at hv; exact hv
  obtain ⟨rfl, rfl⟩ := hv'
  exact ⟨by rw [hq]; rfl, hb⟩
theorem there_ne {st : St} {q : Bs} (h : lookQ st q = .err e0 ∨ lookQ st q = .none ∧ e0 = 10) : q ≠ [] := by
  rcases h with h | ⟨h, -⟩
  · exact err_ne h
  · exact (lookQ_valid (Or.inl h)).2.1
set_option maxRecDepth 100000 in
set_option maxHeartbeats 4000000 in
theorem remove_root (h : FsIn w f mb N S st clock room) (hp : p.size ≤ 2147483647) (hq : clean p.data.toList = q) (hr : lookQ st q = .root) (hlw : Laid w) :
    Calls Tryz.prog 19 #[.pointer (some ⟨f, 0, none⟩), .string p] w fun e w' => OpPost w f S room (12, st, clock) e w' := by
  have hL := Lib.hid (there_root w h hp hq hr)
  have kh := Lib.hid h
  have klw := Lib.hid hlw
  have hl0 := hlw.lt
  clear h hlw
  rw [root_empty hr, mk_empty'] at hL
  go_enter Tryz.func19, Tryz.ntmps19
  go_wp2_with (first | (go_at_call 39; refine hL.out.mono ?_; rintro e w1 ⟨g, rfl, -, hb⟩; have kb := Lib.hid hb; clear hb))
  go_ret
  exact OpPost.same kh.out rfl rfl kb.out
set_option maxRecDepth 100000 in
set_option maxHeartbeats 4000000 in
theorem remove_err (h : FsIn w f mb N S st clock room) (hp : p.size ≤ 2147483647) (hq : clean p.data.toList = q) (hr : lookQ st q = .err e0 ∨ lookQ st q = .none ∧ e0 = 10) (hlw : Laid w) :
    Calls Tryz.prog 19 #[.pointer (some ⟨f, 0, none⟩), .string p] w fun e w' => OpPost w f S room (e0, st, clock) e w' := by
  have hL := Lib.hid (there_err w h hp hq hr)
  have kh := Lib.hid h
  have klw := Lib.hid hlw
  have hl0 := hlw.lt
  clear h hlw
  have hQe := mk_isEmpty (there_ne hr)
  generalize hQ : mk q = Q at *
  clear hQ
  go_enter Tryz.func19, Tryz.ntmps19
  go_wp2_with (first | (go_at_call 39; refine hL.out.mono ?_; rintro e w1 ⟨rfl, hb⟩; have kb := Lib.hid hb; clear hb) | (go_at_call 35; refine (number_calls Q e0 _ (klw.out.below hl0 kb.out)).mono ?_; rintro e w4 ⟨rfl, hb4⟩; have kb4 := Lib.hid hb4; clear hb4))
  go_ret
  exact OpPost.same kh.out rfl rfl (kb.out.trans (kb4.out.mono kb.out.size))
end
end Go.Proofs.YtejofgdglpmlkaaGreatDoor
