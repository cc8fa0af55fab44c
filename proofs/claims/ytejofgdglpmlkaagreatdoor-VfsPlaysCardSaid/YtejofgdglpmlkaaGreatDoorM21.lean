/-
  Write, Mkdir, Remove, Touch, Rename where they answer an error and change nothing. Conditions: the library's variable is laid.
  Touch of what is there; Rename. Conditions: texts of at most 2^31 bytes; a weight of at most 2^40; a clock of at most 2^62; the library's variable is laid.
-/
import Derived.Test.YtejofgdglpmlkaaGreatDoorM20
import Derived.Test.YtejofgdglpmlkaaGreatDoorM19
namespace Go.Proofs.YtejofgdglpmlkaaGreatDoor
open Go.RowKit

section
variable {f mb : Nat} {N : Bs → Nat} {S Tb : Nat → Prop} {st : St} {clock room : Int} {p : ByteArray} {q bb : Bs} {bv : Value} {w : World} {n : PN} {add : Bool} {e0 : Int}
theorem mk_empty' : mk [] = ⟨#[]⟩ := rfl
theorem root_empty {st : St} {q : Bs} (h : lookQ st q = .root) : q = [] := by
  unfold lookQ at h
  split at h
  · cases h
  · split at h
    · assumption
    · unfold lookT at h
      split at h
      · cases h
      · split at h <;> cases h
theorem err_ne {st : St} {q : Bs} (h : lookQ st q = .err e0) : q ≠ [] := by
  intro e
  subst e
  unfold lookQ at h
  rw [if_neg (by decide), if_pos rfl] at h
  cases h
set_option maxRecDepth 100000 in
set_option maxHeartbeats 4000000 in
theorem write_root (h : FsIn w f mb N S st clock room) (hp : p.size ≤ 2147483647) (hq : clean p.data.toList = q) (hr : lookQ st q = .root)
    (hb : BytesAt w bv bb Tb) (hlw : Laid w) :
    Calls Tryz.prog 17 #[.pointer (some ⟨f, 0, none⟩), .string p, bv, .bool add] w fun e w' => OpPost w f S room (12, st, clock) e w' := by
  obtain ⟨ba, bc, hbv⟩ := hb.form
  subst hbv
  have hW : Below w.heap.size w (Box3 w f p (.slice ba bb.length bc)) := below_al (below_al (below_al (Below.refl _ _)))
  have hL := Lib.hid (look_root _ (h.below hW) hp hq hr)
  have kh := Lib.hid h
  have klw := Lib.hid hlw
  have hl0 := hlw.lt
  clear h hb hW hlw
  rw [root_empty hr, mk_empty'] at hL
  go_enter_defers Tryz.func17, Tryz.ntmps17
  go_wp2_with (first | (go_at_call 34; refine hL.out.mono ?_; rintro e w1 ⟨g, rfl, -, hb⟩; have kb1 := Lib.hid hb; clear hb; obtain ⟨e0, e1, e2, hsz, hb1⟩ := box3 w f p (.slice ba bb.length bc) kb1.out; obtain ⟨c0, g0⟩ := one_cell e0; obtain ⟨c1, g1⟩ := one_cell e1; obtain ⟨c2, g2⟩ := one_cell e2; have n0 : w.heap.size < w1.heap.size := (by omega); have n1 : w.heap.size + 1 < w1.heap.size := (by omega); have n2 : w.heap.size + 1 + 1 < w1.heap.size := (by omega); have n3 : w.heap.size < w1.heap.size + 1 := (by omega); have n4 : w.heap.size + 1 < w1.heap.size + 1 + 1 := (by omega); clear hsz; have kb := Lib.hid hb1; clear e0 e1 e2 hb1 g0 g2))
  refine ⟨_, results_tmp rfl _ _ _, ?_⟩
  exact OpPost.same kh.out rfl rfl (boxed_below (B := w.heap.size) kb.out (by omega))
set_option maxRecDepth 100000 in
set_option maxHeartbeats 4000000 in
theorem write_err (h : FsIn w f mb N S st clock room) (hp : p.size ≤ 2147483647) (hq : clean p.data.toList = q) (hr : lookQ st q = .err e0)
    (hb : BytesAt w bv bb Tb) (hlw : Laid w) :
    Calls Tryz.prog 17 #[.pointer (some ⟨f, 0, none⟩), .string p, bv, .bool add] w fun e w' => OpPost w f S room (e0, st, clock) e w' := by
  obtain ⟨ba, bc, hbv⟩ := hb.form
  subst hbv
  have hW : Below w.heap.size w (Box3 w f p (.slice ba bb.length bc)) := below_al (below_al (below_al (Below.refl _ _)))
  have hL := Lib.hid (look_err _ (h.below hW) hp hq hr)
  have kh := Lib.hid h
  have klw := Lib.hid hlw
  have hl0 := hlw.lt
  clear h hb hW hlw
  have hQe := mk_isEmpty (err_ne hr)
  generalize hQ : mk q = Q at *
  clear hQ
  go_enter_defers Tryz.func17, Tryz.ntmps17
  go_wp2_with (first | (go_at_call 34; refine hL.out.mono ?_; rintro e w1 ⟨rfl, hb⟩; have kb1 := Lib.hid hb; clear hb; obtain ⟨e0, e1, e2, hsz, hb1⟩ := box3 w f p (.slice ba bb.length bc) kb1.out; obtain ⟨c0, g0⟩ := one_cell e0; obtain ⟨c1, g1⟩ := one_cell e1; obtain ⟨c2, g2⟩ := one_cell e2; have n0 : w.heap.size < w1.heap.size := (by omega); have n1 : w.heap.size + 1 < w1.heap.size := (by omega); have n2 : w.heap.size + 1 + 1 < w1.heap.size := (by omega); have n3 : w.heap.size < w1.heap.size + 1 := (by omega); have n4 : w.heap.size + 1 < w1.heap.size + 1 + 1 := (by omega); clear hsz; have kb := Lib.hid hb1; clear e0 e1 e2 hb1 g0 g2) | (go_at_call 35; refine (number_calls Q e0 _ (klw.out.below hl0 (boxed_below (B := w.heap.size) kb.out (by omega)))).mono ?_; rintro e w4 ⟨rfl, hb4⟩; have kb4 := Lib.hid hb4; clear hb4))
  refine ⟨_, results_tmp rfl _ _ _, ?_⟩
  exact OpPost.same kh.out rfl rfl ((boxed_below (B := w.heap.size) kb.out (by omega)).trans (kb4.out.mono (boxed_below (B := w.heap.size) kb.out (by omega)).size))
set_option maxRecDepth 100000 in
set_option maxHeartbeats 4000000 in
theorem write_dir (h : FsIn w f mb N S st clock room) (hp : p.size ≤ 2147483647) (hq : clean p.data.toList = q) (hr : lookQ st q = .node n) (hnd : n.dir = true)
    (hb : BytesAt w bv bb Tb) (hlw : Laid w) :
    Calls Tryz.prog 17 #[.pointer (some ⟨f, 0, none⟩), .string p, bv, .bool add] w fun e w' => OpPost w f S room (12, st, clock) e w' := by
  obtain ⟨ba, bc, hbv⟩ := hb.form
  subst hbv
  have hW : Below w.heap.size w (Box3 w f p (.slice ba bb.length bc)) := below_al (below_al (below_al (Below.refl _ _)))
  have hL := Lib.hid (look_node _ (h.below hW) hp hq hr)
  have kh := Lib.hid h
  have klw := Lib.hid hlw
  have hl0 := hlw.lt
  clear h hb hW hlw
  obtain ⟨hNl0, hnode0⟩ := (kh.out.node q n (lookQ_find.2 n hr)).2
  have hNl := kh.out.lt _ hNl0
  obtain ⟨nv, hnb, hnv⟩ := hnode0
  rw [hnd] at hnb
  have knb := Lib.hid hnb
  clear hnb hnv hNl0
  have hQe := mk_isEmpty (lookQ_valid (Or.inr ⟨n, hr⟩)).2.1
  generalize hQ : mk q = Q at *
  clear hQ
  go_enter_defers Tryz.func17, Tryz.ntmps17
  go_wp2_with (first | (go_at_call 34; refine hL.out.mono ?_; rintro e w1 ⟨rfl, hb⟩; have kb1 := Lib.hid hb; clear hb; obtain ⟨e0, e1, e2, hsz, hb1⟩ := box3 w f p (.slice ba bb.length bc) kb1.out; obtain ⟨c0, g0⟩ := one_cell e0; obtain ⟨c1, g1⟩ := one_cell e1; obtain ⟨c2, g2⟩ := one_cell e2; have n0 : w.heap.size < w1.heap.size := (by omega); have n1 : w.heap.size + 1 < w1.heap.size := (by omega); have n2 : w.heap.size + 1 + 1 < w1.heap.size := (by omega); have n3 : w.heap.size < w1.heap.size + 1 := (by omega); have n4 : w.heap.size + 1 < w1.heap.size + 1 + 1 := (by omega); clear hsz; have kb := Lib.hid hb1; clear e0 e1 e2 hb1 g0 g2; obtain ⟨hd0, hd1, hd2, hdn⟩ := node_cells knb.out kb.out; have hdm : N q < w1.heap.size := (by omega); have hdm1 : N q < w1.heap.size + 1 := (by omega); have hdm2 : N q < w1.heap.size + 1 + 1 := (by omega); have hde : N q ≠ w.heap.size + 1 := (by omega); have hde2 : w.heap.size + 1 ≠ N q := (by omega)))
  refine ⟨_, results_tmp rfl _ _ _, ?_⟩
  exact OpPost.same kh.out rfl rfl (boxed_below (B := w.heap.size) kb.out (by omega))
set_option maxRecDepth 100000 in
set_option maxHeartbeats 4000000 in
theorem mkdir_root (h : FsIn w f mb N S st clock room) (hp : p.size ≤ 2147483647) (hq : clean p.data.toList = q) (hr : lookQ st q = .root) (hlw : Laid w) :
    Calls Tryz.prog 18 #[.pointer (some ⟨f, 0, none⟩), .string p] w fun e w' => OpPost w f S room (13, st, clock) e w' := by
  have hL := Lib.hid (look_root w h hp hq hr)
  have kh := Lib.hid h
  have klw := Lib.hid hlw
  have hl0 := hlw.lt
  clear h hlw
  rw [root_empty hr, mk_empty'] at hL
  go_enter Tryz.func18, Tryz.ntmps18
  go_wp2_with (first | (go_at_call 34; refine hL.out.mono ?_; rintro e w1 ⟨g, rfl, -, hb⟩; have kb := Lib.hid hb; clear hb))
  go_ret
  exact OpPost.same kh.out rfl rfl kb.out
set_option maxRecDepth 100000 in
set_option maxHeartbeats 4000000 in
theorem mkdir_err (h : FsIn w f mb N S st clock room) (hp : p.size ≤ 2147483647) (hq : clean p.data.toList = q) (hr : lookQ st q = .err e0) (hlw : Laid w) :
    Calls Tryz.prog 18 #[.pointer (some ⟨f, 0, none⟩), .string p] w fun e w' => OpPost w f S room (e0, st, clock) e w' := by
  have hL := Lib.hid (look_err w h hp hq hr)
  have kh := Lib.hid h
  have klw := Lib.hid hlw
  have hl0 := hlw.lt
  clear h hlw
  have hQe := mk_isEmpty (err_ne hr)
  generalize hQ : mk q = Q at *
  clear hQ
  go_enter Tryz.func18, Tryz.ntmps18
  go_wp2_with (first | (go_at_call 34; refine hL.out.mono ?_; rintro e w1 ⟨rfl, hb⟩; have kb := Lib.hid hb; clear hb) | (go_at_call 35; refine (number_calls Q e0 _ (klw.out.below hl0 kb.out)).mono ?_; rintro e w4 ⟨rfl, hb4⟩; have kb4 := Lib.hid hb4; clear hb4))
  go_ret
  exact OpPost.same kh.out rfl rfl (kb.out.trans (kb4.out.mono kb.out.size))
set_option maxRecDepth 100000 in
set_option maxHeartbeats 4000000 in
theorem touch_root (h : FsIn w f mb N S st clock room) (hp : p.size ≤ 2147483647) (hq : clean p.data.toList = q) (hr : lookQ st q = .root) (hlw : Laid w) :
    Calls Tryz.prog 21 #[.pointer (some ⟨f, 0, none⟩), .string p] w fun e w' => OpPost w f S room (0, st, clock) e w' := by
  have hL := Lib.hid (look_root w h hp hq hr)
  have kh := Lib.hid h
  have klw := Lib.hid hlw
  have hl0 := hlw.lt
  clear h hlw
  rw [root_empty hr, mk_empty'] at hL
  go_enter Tryz.func21, Tryz.ntmps21
  go_wp2_with (first | (go_at_call 34; refine hL.out.mono ?_; rintro e w1 ⟨g, rfl, -, hb⟩; have kb := Lib.hid hb; clear hb))
  go_ret
  exact OpPost.same kh.out rfl rfl kb.out
set_option maxRecDepth 100000 in
set_option maxHeartbeats 4000000 in
theorem touch_err (h : FsIn w f mb N S st clock room) (hp : p.size ≤ 2147483647) (hq : clean p.data.toList = q) (hr : lookQ st q = .err e0) (hlw : Laid w) :
    Calls Tryz.prog 21 #[.pointer (some ⟨f, 0, none⟩), .string p] w fun e w' => OpPost w f S room (e0, st, clock) e w' := by
  have hL := Lib.hid (look_err w h hp hq hr)
  have kh := Lib.hid h
  have klw := Lib.hid hlw
  have hl0 := hlw.lt
  clear h hlw
  have hQe := mk_isEmpty (err_ne hr)
  generalize hQ : mk q = Q at *
  clear hQ
  go_enter Tryz.func21, Tryz.ntmps21
  go_wp2_with (first | (go_at_call 34; refine hL.out.mono ?_; rintro e w1 ⟨rfl, hb⟩; have kb := Lib.hid hb; clear hb) | (go_at_call 35; refine (number_calls Q e0 _ (klw.out.below hl0 kb.out)).mono ?_; rintro e w4 ⟨rfl, hb4⟩; have kb4 := Lib.hid hb4; clear hb4))
  go_ret
  exact OpPost.same kh.out rfl rfl (kb.out.trans (kb4.out.mono kb.out.size))
set_option maxRecDepth 100000 in
set_option maxHeartbeats 4000000 in
theorem mkdir_node (h : FsIn w f mb N S st clock room) (hp : p.size ≤ 2147483647) (hq : clean p.data.toList = q) (hr : lookQ st q = .node n) (hlw : Laid w) :
    Calls Tryz.prog 18 #[.pointer (some ⟨f, 0, none⟩), .string p] w fun e w' => OpPost w f S room (13, st, clock) e w' := by
  have hL := Lib.hid (look_node w h hp hq hr)
  have kh := Lib.hid h
  have klw := Lib.hid hlw
  have hl0 := hlw.lt
  clear h hlw
  have hQe := mk_isEmpty (lookQ_valid (Or.inr ⟨n, hr⟩)).2.1
  generalize hQ : mk q = Q at *
  clear hQ
  go_enter Tryz.func18, Tryz.ntmps18
  go_wp2_with (first | (go_at_call 34; refine hL.out.mono ?_; rintro e w1 ⟨rfl, hb⟩; have kb := Lib.hid hb; clear hb))
  go_ret
  exact OpPost.same kh.out rfl rfl kb.out
theorem there_root (w : World) (h : FsIn w f mb N S st clock room) (hp : p.size ≤ 2147483647) (hq : clean p.data.toList = q) (hr : lookQ st q = .root) :
    Calls Tryz.prog 39 #[.pointer (some ⟨f, 0, none⟩), .string p] w fun e w' => ∃ g, e = .returned (.tuple #[.string (mk q), .pointer (some ⟨g, 0, none⟩), .nilIface]) ∧ (w.heap.size ≤ g ∧ w'.heap[g]? = some (.cells #[.bool true, .int .i64 0, .slice none 0 0] 61 (0, 0))) ∧ Below w.heap.size w w' := by
  refine (there_calls p w h hp).mono ?_
  rintro e w' ⟨pv, ev, rfl, hv, hb⟩
  rw [hq, hr] at hv
  obtain ⟨⟨g, h1, h2, rfl⟩, rfl⟩ := hv
  exact ⟨g, by rw [hq], ⟨h1, h2⟩, hb⟩
theorem there_err (w : World) (h : FsIn w f mb N S st clock room) (hp : p.size ≤ 2147483647) (hq : clean p.data.toList = q) (hr : lookQ st q = .err e0 ∨ lookQ st q = .none ∧ e0 = 10) :
    Calls Tryz.prog 39 #[.pointer (some ⟨f, 0, none⟩), .string p] w fun e w' => e = .returned (.tuple #[.string (mk q), .pointer none, .iface 94 (.agg #[.string (mk q), .iface 29 (.int .i64 e0)])]) ∧ Below w.heap.size w w' := by
  refine (there_calls p w h hp).mono ?_
  rintro e w' ⟨pv, ev, rfl, hv, hb⟩
  rw [hq] at hv
  have hv' : LookV N w.heap.size w' q (.err e0) pv ev := by
    rcases hr with hr | ⟨hr, rfl⟩
    · rw [hr] at hv; exact hv
    · rw [hr] at hv; exact hv
  obtain ⟨rfl, rfl⟩ := hv'
  exact ⟨by rw [hq]; rfl, hb⟩
theorem there_ne {st : St} {q : Bs} (h : lookQ st q = .err e0 ∨ lookQ st q = .none ∧ e0 = 10) : q ≠ [] := by
  rcases h with h | ⟨h, -⟩
  · exact err_ne h
  · exact (lookQ_valid (Or.inl h)).2.1
set_option maxRecDepth 100000 in
set_option maxHeartbeats 4000000 in
theorem remove_root (h : FsIn w f mb N S st clock room) (hp : p.size ≤ 2147483647) (hq : clean p.data.toList = q) (hr : lookQ st q = .root) (hlw : Laid w) :
    Calls Tryz.prog 19 #[.pointer (some ⟨f, 0, none⟩), .string p] w fun e w' => OpPost w f S room (12, st, clock) e w' := by
  have hL := Lib.hid (there_root w h hp hq hr)
  have kh := Lib.hid h
  have klw := Lib.hid hlw
  have hl0 := hlw.lt
  clear h hlw
  rw [root_empty hr, mk_empty'] at hL
  go_enter Tryz.func19, Tryz.ntmps19
  go_wp2_with (first | (go_at_call 39; refine hL.out.mono ?_; rintro e w1 ⟨g, rfl, -, hb⟩; have kb := Lib.hid hb; clear hb))
  go_ret
  exact OpPost.same kh.out rfl rfl kb.out
set_option maxRecDepth 100000 in
set_option maxHeartbeats 4000000 in
theorem remove_err (h : FsIn w f mb N S st clock room) (hp : p.size ≤ 2147483647) (hq : clean p.data.toList = q) (hr : lookQ st q = .err e0 ∨ lookQ st q = .none ∧ e0 = 10) (hlw : Laid w) :
    Calls Tryz.prog 19 #[.pointer (some ⟨f, 0, none⟩), .string p] w fun e w' => OpPost w f S room (e0, st, clock) e w' := by
  have hL := Lib.hid (there_err w h hp hq hr)
  have kh := Lib.hid h
  have klw := Lib.hid hlw
  have hl0 := hlw.lt
  clear h hlw
  have hQe := mk_isEmpty (there_ne hr)
  generalize hQ : mk q = Q at *
  clear hQ
  go_enter Tryz.func19, Tryz.ntmps19
  go_wp2_with (first | (go_at_call 39; refine hL.out.mono ?_; rintro e w1 ⟨rfl, hb⟩; have kb := Lib.hid hb; clear hb) | (go_at_call 35; refine (number_calls Q e0 _ (klw.out.below hl0 kb.out)).mono ?_; rintro e w4 ⟨rfl, hb4⟩; have kb4 := Lib.hid hb4; clear hb4))
  go_ret
  exact OpPost.same kh.out rfl rfl (kb.out.trans (kb4.out.mono kb.out.size))
end
end Go.Proofs.YtejofgdglpmlkaaGreatDoor
namespace Go.Proofs.YtejofgdglpmlkaaGreatDoor
open Go.RowKit

section
variable {f mb : Nat} {N : Bs → Nat} {S : Nat → Prop} {st : St} {clock room : Int} {p p2 : ByteArray} {q q2 : Bs} {w : World} {n m : PN} {e0 : Int}
set_option maxRecDepth 100000 in
set_option maxHeartbeats 4000000 in
theorem touch_node (h : FsIn w f mb N S st clock room) (hp : p.size ≤ 2147483647) (hq : clean p.data.toList = q) (hr : lookQ st q = .node n) (h0 : 0 ≤ clock) (h1 : clock ≤ 4611686018427387904) :
    Calls Tryz.prog 21 #[.pointer (some ⟨f, 0, none⟩), .string p] w fun e w' => OpPost w f S room (touchP st clock q n) e w' := by
  have hL := Lib.hid (look_node w h hp hq hr)
  have hQe := mk_isEmpty (lookQ_valid (Or.inr ⟨n, hr⟩)).2.1
  have kfind := Lib.hid (lookQ_find.2 n hr)
  have kh := Lib.hid h
  generalize mk q = Q at *
  clear h hr
  go_enter Tryz.func21, Tryz.ntmps21
  go_wp2_with (first
    | (go_at_call 34; refine hL.out.mono ?_; rintro e w1 ⟨rfl, hb⟩; have kb := Lib.hid hb; clear hb)
    | (go_at_call 38; refine (change_calls _ (kh.out.below kb.out) h0 h1).mono ?_; rintro e w3 ⟨rfl, hg3, hs3, hI3⟩; have kg3 := Lib.hid hg3; have kI3 := Lib.hid hI3; obtain ⟨nv, hnb, -⟩ := (hI3.node q n kfind.out).2.2; obtain ⟨-, d1, -, df⟩ := cells3 hnb; have df1 := df 1; have dl := heap_lt hnb; clear hg3 hs3 hI3 hnb df))
  go_ret
  refine ⟨rfl, S, ⟨mb, N, kI3.out.touch kfind.out⟩, fun k hk => Or.inl hk, ?_⟩
  exact Below.kept kb.out ((Kept.grown kg3.out (fun k e => by injection e with e; exact e ▸ kh.out.sf)).trans (S' := S) (Kept.grown (set_grown w3 (N q) 1 _) (fun k e => by injection e with e; exact e ▸ (kh.out.node q n kfind.out).2.1)) (fun k h => Or.inl h))
/-- Rename where its first path is wrong. -/
theorem rename_first (h : FsIn w f mb N S st clock room) (hp : p.size ≤ 2147483647) (hq : clean p.data.toList = q) (hr : lookQ st q = .root) :
    Calls Tryz.prog 20 #[.pointer (some ⟨f, 0, none⟩), .string p, .string p2] w fun e w' => OpPost w f S room (12, st, clock) e w' := by
  have hL := Lib.hid (there_root w h hp hq hr)
  have kh := Lib.hid h
  clear h
  rw [root_empty hr, mk_empty'] at hL
  go_enter Tryz.func20, Tryz.ntmps20
  go_wp2_with (go_at_call 39; refine hL.out.mono ?_; rintro e w1 ⟨g, rfl, -, hb⟩; have kb := Lib.hid hb; clear hb)
  go_ret
  exact OpPost.same kh.out rfl rfl kb.out
set_option maxRecDepth 100000 in
set_option maxHeartbeats 4000000 in
theorem rename_err (h : FsIn w f mb N S st clock room) (hp : p.size ≤ 2147483647) (hq : clean p.data.toList = q) (hr : lookQ st q = .err e0 ∨ lookQ st q = .none ∧ e0 = 10) (hlw : Laid w) :
    Calls Tryz.prog 20 #[.pointer (some ⟨f, 0, none⟩), .string p, .string p2] w fun e w' => OpPost w f S room (e0, st, clock) e w' := by
  have hL := Lib.hid (there_err w h hp hq hr)
  have kh := Lib.hid h
  have klw := Lib.hid hlw
  have hl0 := hlw.lt
  have hQe := mk_isEmpty (there_ne hr)
  clear h hlw
  generalize hQ : mk q = Q at *
  clear hQ
  go_enter Tryz.func20, Tryz.ntmps20
  go_wp2_with (first | (go_at_call 39; refine hL.out.mono ?_; rintro e w1 ⟨rfl, hb⟩; have kb := Lib.hid hb; clear hb) | (go_at_call 35; refine (number_calls Q e0 _ (klw.out.below hl0 kb.out)).mono ?_; rintro e w4 ⟨rfl, hb4⟩; have kb4 := Lib.hid hb4; clear hb4))
  go_ret
  exact OpPost.same kh.out rfl rfl (kb.out.trans (kb4.out.mono kb.out.size))
theorem node_block (h : FsIn w f mb N S st clock room) (hr : lookQ st q = .node n) : ∃ v, w.heap[N q]? = some (.cells #[.bool n.dir, .int .i64 n.time, v] 61 (0, 0)) ∧ N q < w.heap.size := by
  obtain ⟨v, h1, -⟩ := (h.node q n (lookQ_find.2 n hr)).2.2
  exact ⟨v, h1, heap_lt h1⟩
set_option maxRecDepth 100000 in
set_option maxHeartbeats 4000000 in
theorem rename_dir (h : FsIn w f mb N S st clock room) (hp : p.size ≤ 2147483647) (hq : clean p.data.toList = q) (hr : lookQ st q = .node n) (hnd : n.dir = true) :
    Calls Tryz.prog 20 #[.pointer (some ⟨f, 0, none⟩), .string p, .string p2] w fun e w' => OpPost w f S room (12, st, clock) e w' := by
  have hL := Lib.hid (there_node w h hp hq hr)
  have kh := Lib.hid h
  have hQe := mk_isEmpty (lookQ_valid (Or.inr ⟨n, hr⟩)).2.1
  obtain ⟨nv, hnb, hnl⟩ := node_block h hr
  rw [hnd] at hnb
  have knb := Lib.hid hnb
  clear h hnb
  generalize hQ : mk q = Q at *
  clear hQ
  go_enter Tryz.func20, Tryz.ntmps20
  go_wp2_with (go_at_call 39; refine hL.out.mono ?_; rintro e w1 ⟨rfl, hb⟩; have kb := Lib.hid hb; clear hb; obtain ⟨d0, -, -, -⟩ := node_cells knb.out kb.out)
  go_ret
  exact OpPost.same kh.out rfl rfl kb.out
/-- Behind the first path's look: a file is there; what the second path has. -/
theorem rename_second (h : FsIn w f mb N S st clock room) (hp : p.size ≤ 2147483647) (hq : clean p.data.toList = q) (hr : lookQ st q = .node n) (hnd : n.dir = false) (hp2 : p2.size ≤ 2147483647) (hq2 : clean p2.data.toList = q2) (hr2 : lookQ st q2 = .root) :
    Calls Tryz.prog 20 #[.pointer (some ⟨f, 0, none⟩), .string p, .string p2] w fun e w' => OpPost w f S room (12, st, clock) e w' := by
  have hL := Lib.hid (there_node w h hp hq hr)
  have hL2 := Lib.hid (fun (W : World) (hb : Below w.heap.size w W) => look_root W (h.below hb) hp2 hq2 hr2)
  have kh := Lib.hid h
  have hQe := mk_isEmpty (lookQ_valid (Or.inr ⟨n, hr⟩)).2.1
  obtain ⟨nv, hnb, hnl⟩ := node_block h hr
  rw [hnd] at hnb
  have knb := Lib.hid hnb
  clear h hnb
  rw [root_empty hr2, mk_empty'] at hL2
  generalize hQ : mk q = Q at *
  clear hQ
  go_enter Tryz.func20, Tryz.ntmps20
  go_wp2_with (first | (go_at_call 39; refine hL.out.mono ?_; rintro e w1 ⟨rfl, hb⟩; have kb := Lib.hid hb; clear hb; obtain ⟨d0, -, -, -⟩ := node_cells knb.out kb.out) | (go_at_call 34; refine (hL2.out _ kb.out).mono ?_; rintro e w2 ⟨g, rfl, -, hb2⟩; have kb2 := Lib.hid hb2; clear hb2))
  go_ret
  exact OpPost.same kh.out rfl rfl (kb.out.trans (kb2.out.mono kb.out.size))
set_option maxRecDepth 100000 in
set_option maxHeartbeats 4000000 in
theorem rename_err2 (h : FsIn w f mb N S st clock room) (hp : p.size ≤ 2147483647) (hq : clean p.data.toList = q) (hr : lookQ st q = .node n) (hnd : n.dir = false) (hp2 : p2.size ≤ 2147483647) (hq2 : clean p2.data.toList = q2) (hr2 : lookQ st q2 = .err e0) (hlw : Laid w) :
    Calls Tryz.prog 20 #[.pointer (some ⟨f, 0, none⟩), .string p, .string p2] w fun e w' => OpPost w f S room (e0, st, clock) e w' := by
  have hL := Lib.hid (there_node w h hp hq hr)
  have hL2 := Lib.hid (fun (W : World) (hb : Below w.heap.size w W) => look_err W (h.below hb) hp2 hq2 hr2)
  have kh := Lib.hid h
  have klw := Lib.hid hlw
  have hl0 := hlw.lt
  have hQe := mk_isEmpty (lookQ_valid (Or.inr ⟨n, hr⟩)).2.1
  have hQe2 := mk_isEmpty (err_ne hr2)
  obtain ⟨nv, hnb, hnl⟩ := node_block h hr
  rw [hnd] at hnb
  have knb := Lib.hid hnb
  clear h hnb hlw
  generalize hQ : mk q = Q at *
  generalize hQ2 : mk q2 = Q2 at *
  clear hQ hQ2
  go_enter Tryz.func20, Tryz.ntmps20
  go_wp2_with (first | (go_at_call 39; refine hL.out.mono ?_; rintro e w1 ⟨rfl, hb⟩; have kb := Lib.hid hb; clear hb; obtain ⟨d0, -, -, -⟩ := node_cells knb.out kb.out) | (go_at_call 34; refine (hL2.out _ kb.out).mono ?_; rintro e w2 ⟨rfl, hb2⟩; have kb2 := Lib.hid (kb.out.trans (hb2.mono kb.out.size)); clear hb2) | (go_at_call 35; refine (number_calls Q2 e0 _ (klw.out.below hl0 kb2.out)).mono ?_; rintro e w4 ⟨rfl, hb4⟩; have kb4 := Lib.hid hb4; clear hb4))
  go_ret
  exact OpPost.same kh.out rfl rfl (kb2.out.trans (kb4.out.mono kb2.out.size))
set_option maxRecDepth 100000 in
set_option maxHeartbeats 4000000 in
theorem rename_dir2 (h : FsIn w f mb N S st clock room) (hp : p.size ≤ 2147483647) (hq : clean p.data.toList = q) (hr : lookQ st q = .node n) (hnd : n.dir = false) (hp2 : p2.size ≤ 2147483647) (hq2 : clean p2.data.toList = q2) (hr2 : lookQ st q2 = .node m) (hmd : m.dir = true) :
    Calls Tryz.prog 20 #[.pointer (some ⟨f, 0, none⟩), .string p, .string p2] w fun e w' => OpPost w f S room (12, st, clock) e w' := by
  have hL := Lib.hid (there_node w h hp hq hr)
  have hL2 := Lib.hid (fun (W : World) (hb : Below w.heap.size w W) => look_node W (h.below hb) hp2 hq2 hr2)
  have kh := Lib.hid h
  have hQe := mk_isEmpty (lookQ_valid (Or.inr ⟨n, hr⟩)).2.1
  have hQe2 := mk_isEmpty (lookQ_valid (Or.inr ⟨m, hr2⟩)).2.1
  obtain ⟨nv, hnb, hnl⟩ := node_block h hr
  obtain ⟨mv, hmb, hml⟩ := node_block h hr2
  rw [hnd] at hnb
  rw [hmd] at hmb
  have knb := Lib.hid hnb
  have kmb := Lib.hid hmb
  clear h hnb hmb
  generalize hQ : mk q = Q at *
  generalize hQ2 : mk q2 = Q2 at *
  clear hQ hQ2
  go_enter Tryz.func20, Tryz.ntmps20
  go_wp2_with (first | (go_at_call 39; refine hL.out.mono ?_; rintro e w1 ⟨rfl, hb⟩; have kb := Lib.hid hb; clear hb; obtain ⟨d0, -, -, -⟩ := node_cells knb.out kb.out) | (go_at_call 34; refine (hL2.out _ kb.out).mono ?_; rintro e w2 ⟨rfl, hb2⟩; have kb2 := Lib.hid (kb.out.trans (hb2.mono kb.out.size)); obtain ⟨x0, -, -, -⟩ := node_cells kmb.out kb2.out; clear hb2 d0))
  go_ret
  exact OpPost.same kh.out rfl rfl kb2.out
set_option maxRecDepth 100000 in
set_option maxHeartbeats 4000000 in
theorem rename_same (h : FsIn w f mb N S st clock room) (hp : p.size ≤ 2147483647) (hq : clean p.data.toList = q) (hr : lookQ st q = .node n) (hnd : n.dir = false) (hp2 : p2.size ≤ 2147483647) (hq2 : clean p2.data.toList = q) :
    Calls Tryz.prog 20 #[.pointer (some ⟨f, 0, none⟩), .string p, .string p2] w fun e w' => OpPost w f S room (0, st, clock) e w' := by
  have hL := Lib.hid (there_node w h hp hq hr)
  have hL2 := Lib.hid (fun (W : World) (hb : Below w.heap.size w W) => look_node W (h.below hb) hp2 hq2 hr)
  have kh := Lib.hid h
  have hQe := mk_isEmpty (lookQ_valid (Or.inr ⟨n, hr⟩)).2.1
  obtain ⟨nv, hnb, hnl⟩ := node_block h hr
  rw [hnd] at hnb
  have knb := Lib.hid hnb
  clear h hnb
  generalize hQ : mk q = Q at *
  clear hQ
  go_enter Tryz.func20, Tryz.ntmps20
  go_wp2_with (first | (go_at_call 39; refine hL.out.mono ?_; rintro e w1 ⟨rfl, hb⟩; have kb := Lib.hid hb; clear hb; obtain ⟨d0, -, -, -⟩ := node_cells knb.out kb.out) | (go_at_call 34; refine (hL2.out _ kb.out).mono ?_; rintro e w2 ⟨rfl, hb2⟩; have kb2 := Lib.hid (kb.out.trans (hb2.mono kb.out.size)); clear d0; obtain ⟨d0, -, -, -⟩ := node_cells knb.out kb2.out; clear hb2))
  go_ret
  exact OpPost.same kh.out rfl rfl kb2.out
theorem move_wt (hr : Rising st) (hf : find st q = some n) (hne : q ≠ q2) : wt (delSt (putSt st q2 n) q) + own1 (find st q2) = wt st := by
  have h2 := wt_put q2 n hr
  have h4 := wt_del q (rising_put q2 n hr)
  rw [find_put, if_neg hne, hf] at h4
  simp only [own1] at h4
  omega
theorem rename_fs {w2 w6 w7 : World} {Q Q2 : ByteArray} (h : FsIn w2 f mb N S st clock room) (hf : find st q = some n) (hne : q ≠ q2) (hql : q2.length ≤ 1000) (hQ : Q.data.toList = q) (hQ2 : Q2.data.toList = q2) (hm : MapAt w7 mb (fun x => if x = Q2.data.toList then N q else N x) (delSt (putSt st Q2.data.toList n) Q.data.toList)) (hg6 : w2.grownBy w6 (some mb)) (hg7 : w6.grownBy w7 (some mb)) (hwt : wt (delSt (putSt st q2 n) q) = wt st) :
    FsIn w7 f mb (fun x => if x = q2 then N q else N x) S (delSt (putSt st q2 n) q) clock room ∧ Kept S w2 w7 := by
  rw [hQ, hQ2] at hm
  have hmf := h.ne_map
  have far : ∀ k, k < w2.heap.size → k ≠ mb → w7.heap[k]? = w2.heap[k]? := fun k hk h2 =>
    (hg7.block k (Nat.lt_of_lt_of_le hk hg6.size) (fun e => h2 (by injection e))).trans (hg6.block k hk (fun e => h2 (by injection e)))
  refine ⟨h.move hf hne hql hm (fun k hk _ h2 => far k hk h2) (Nat.le_trans hg6.size hg7.size) ?_, ⟨hg7.os.trans hg6.os, hg7.tape.trans hg6.tape, hg7.output.trans hg6.output, Nat.le_trans hg6.size hg7.size, fun k hk hn => far k hk (fun e => hn (e ▸ h.sm))⟩⟩
  rw [hwt]
  exact (far f (h.lt f h.sf) hmf).trans h.cells
set_option maxRecDepth 100000 in
set_option maxHeartbeats 4000000 in
theorem rename_new (h : FsIn w f mb N S st clock room) (hp : p.size ≤ 2147483647) (hq : clean p.data.toList = q) (hr : lookQ st q = .node n) (hnd : n.dir = false) (hp2 : p2.size ≤ 2147483647) (hq2 : clean p2.data.toList = q2) (hr2 : lookQ st q2 = .none) (hl : wt st ≤ 1099511627776) (h0 : 0 ≤ clock) (h1 : clock ≤ 4611686018427387904) :
    Calls Tryz.prog 20 #[.pointer (some ⟨f, 0, none⟩), .string p, .string p2] w fun e w' => OpPost w f S room (renameP st clock q q2 n) e w' := by
  have hne : q ≠ q2 := fun e => by rw [e, hr2] at hr; cases hr
  have hL := Lib.hid (there_node w h hp hq hr)
  have hL2 := Lib.hid (fun (W : World) (hb : Below w.heap.size w W) => look_none W (h.below hb) hp2 hq2 hr2)
  have kh := Lib.hid h
  have hQe := mk_isEmpty (lookQ_valid (Or.inr ⟨n, hr⟩)).2.1
  have hQe2 := mk_isEmpty (lookQ_valid (Or.inl hr2)).2.1
  have kql := Lib.hid (valid_len (lookQ_valid (Or.inr ⟨n, hr⟩)).1)
  have kql2 := Lib.hid (valid_len (lookQ_valid (Or.inl hr2)).1)
  have kfind := Lib.hid (lookQ_find.2 n hr)
  have kwt := Lib.hid (show wt (delSt (putSt st q2 n) q) = wt st by have := move_wt h.rising (lookQ_find.2 n hr) hne; rw [lookQ_find.1 hr2] at this; simpa [own1] using this)
  have kmax := Lib.hid (show (mk q).size ≤ maxLen by rw [mk_size]; have := kql.out; unfold maxLen; omega)
  have kmax2 := Lib.hid (show (mk q2).size ≤ maxLen by rw [mk_size]; have := kql2.out; unfold maxLen; omega)
  have kll := Lib.hid (show st.length < maxLen by have : st.length ≤ wt st := by unfold wt; omega
                                                  unfold maxLen; omega)
  obtain ⟨nv, hnb, hnl⟩ := node_block h hr
  rw [hnd] at hnb
  have knb := Lib.hid hnb
  have hPQ : ((mk q).toList == (mk q2).toList) = false := ba_ne (fun e => hne (mk_inj e))
  have kne := Lib.hid hne
  clear h hnb hne
  generalize hQ : mk q = Q at *
  generalize hQ2 : mk q2 = Q2 at *
  have kQ := Lib.hid (show Q.data.toList = q by rw [← hQ, mk_list])
  have kQ2 := Lib.hid (show Q2.data.toList = q2 by rw [← hQ2, mk_list])
  clear hQ hQ2
  go_enter Tryz.func20, Tryz.ntmps20
  go_wp2_with (first
    | (go_at_call 39; refine hL.out.mono ?_; rintro e w1 ⟨rfl, hb⟩; have kb := Lib.hid hb; clear hb; obtain ⟨d0, -, -, -⟩ := node_cells knb.out kb.out)
    | (go_at_call 34; refine (hL2.out _ kb.out).mono ?_; rintro e w2 ⟨rfl, hb2⟩; have kb2 := Lib.hid (kb.out.trans (hb2.mono kb.out.size)); clear d0 hb2; have kh2 := Lib.hid (kh.out.below kb2.out); obtain ⟨c0, -, -, -, -⟩ := cells4 kh2.out.cells; have cl := heap_lt kh2.out.cells; obtain ⟨w6, hrun6, hm6, hg6, hs6⟩ := kh2.out.map.put (nb := N q) kh2.out.rising Q2 kmax2.out kll.out n; have km6 := Lib.hid hm6; have kg6 := Lib.hid hg6; have kc6 := Lib.hid ((hg6.block f (heap_lt kh2.out.cells) (fun e => kh2.out.ne_map (by injection e))).trans kh2.out.cells); obtain ⟨c06, -, -, -, -⟩ := cells4 kc6.out; have cl6 := heap_lt kc6.out; clear hm6 hg6 hs6)
    | (at_delete; refine wpList_del _ rfl _ _ rfl rfl Q rfl km6.out (rising_put _ _ kh2.out.rising) kmax.out ?_; intro w7 hm7 hg7 hs7; have km7 := Lib.hid hm7; have kg7 := Lib.hid hg7; clear hm7 hg7 hs7; have kF7 := Lib.hid (rename_fs kh2.out kfind.out kne.out kql2.out kQ.out kQ2.out km7.out kg6.out kg7.out kwt.out))
    | (go_at_call 38; refine (change_calls _ kF7.out.1 h0 h1).mono ?_; rintro e w9 ⟨rfl, hg9, hs9, hI9⟩; have kg9 := Lib.hid hg9; have kI9 := Lib.hid hI9; clear hg9 hs9 hI9))
  go_ret
  refine ⟨rfl, S, ⟨mb, _, kI9.out⟩, fun k hk => Or.inl hk, Below.kept kb2.out (kF7.out.2.trans (S' := S) (Kept.grown kg9.out (fun k e => by injection e with e; exact e ▸ kh.out.sf)) (fun k h => Or.inl h))⟩
end
end Go.Proofs.YtejofgdglpmlkaaGreatDoor
