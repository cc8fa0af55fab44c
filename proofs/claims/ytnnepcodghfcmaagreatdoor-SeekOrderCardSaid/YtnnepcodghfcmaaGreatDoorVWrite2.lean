/-
  Write. Conditions: texts of at most 2^31 bytes; a weight of at most 2^40; a clock of at most 2^62.
-/
import Derived.Test.YtnnepcodghfcmaaGreatDoorVWrite
namespace Go.Proofs.YtnnepcodghfcmaaGreatDoor
open Go.RowKit

def OpPost (w : World) (f : Nat) (S : Nat → Prop) (room : Int) (r : Int × St × Int) (e : Ending) (w' : World) : Prop :=
  e = .returned (.int .i64 r.1) ∧ ∃ S', FsAt w' f S' r.2.1 r.2.2 room ∧ (∀ k, S' k → S k ∨ w.heap.size ≤ k) ∧ Kept S w w'
def writeTail (st : St) (clock room : Int) (q dat bb : Bs) (nodes more : Int) : Int × St × Int :=
  if 65536 < dat.length + bb.length then (2, st, clock) else if fitsB st room nodes more = false then (15, st, clock) else (0, putSt st q ⟨false, clock + 1, dat ++ bb⟩, clock + 1)
section
variable {f mb : Nat} {N : Bs → Nat} {S Tb : Nat → Prop} {st : St} {clock room : Int} {p : ByteArray} {q bb : Bs} {bv : Value} {w : World} {add : Bool}
theorem OpPost.same {w w' : World} {f mb : Nat} {N : Bs → Nat} {S : Nat → Prop} {st : St} {clock room c : Int} {r : Int × St × Int} {e : Ending} (h : FsIn w f mb N S st clock room) (hr : r = (c, st, clock)) (he : e = .returned (.int .i64 c)) (hb : Below w.heap.size w w') : OpPost w f S room r e w' := by
  subst hr
  exact ⟨he, S, ⟨mb, N, h.below hb⟩, fun k hk => Or.inl hk, Kept.of_below hb⟩
theorem OpPost.done {w w1 w' : World} {f mb : Nat} {N' : Bs → Nat} {S S' : Nat → Prop} {st' : St} {clock' room : Int} {r : Int × St × Int} (hr : r = (0, st', clock')) (hb : Below w.heap.size w w1) (h : FsIn w' f mb N' S' st' clock' room) (hS : ∀ k, S' k → S k ∨ w1.heap.size ≤ k) (hK : Kept S w1 w') : OpPost w f S room r (.returned (.int .i64 0)) w' := by
  subst hr
  exact ⟨rfl, S', ⟨mb, N', h⟩, fun k hk => (hS k hk).imp id fun h => Nat.le_trans hb.size h, Below.kept hb hK⟩
/-- Write's variables, laid behind look. -/
def Boxed (w1 : World) (B : Nat) (Q : ByteArray) (dv : Value) (more nodes : Int) : World := (((w1.setCell ⟨B + 1, 0, none⟩ (.string Q)).alloc (.cells #[dv] 39)).alloc (.cells #[.int .i64 more] 3)).alloc (.cells #[.int .i64 nodes] 3)
theorem boxed_below {w w1 : World} {B : Nat} {Q : ByteArray} {dv : Value} {more nodes : Int} (h : Below w.heap.size w w1) (hB : w.heap.size ≤ B + 1) : Below w.heap.size w (Boxed w1 B Q dv more nodes) :=
  below_al (below_al (below_al (h.setCell hB _)))
theorem Caps.drewN {w : World} {S : Nat → Prop} {f b0 b1 b2 b3 b4 b5 : Nat} {dv bv : Value} {Q : ByteArray} {nodes more : Int} (h : Caps w S f b0 b1 b2 b3 b4 b5 dv bv Q nodes more) (n : Nat) : Caps (w.drewN n) S f b0 b1 b2 b3 b4 b5 dv bv Q nodes more :=
  ⟨h.h0, h.h1, h.h2, h.h3, h.h4, h.h5, h.n0, h.n1, h.n2, h.n3, h.n4, h.n5⟩
theorem boxed_caps {w1 : World} {S : Nat → Prop} {f B : Nat} {p Q : ByteArray} {dv bv : Value} {more nodes : Int} (e0 : w1.heap[B]? = some (.cells #[.pointer (some ⟨f, 0, none⟩)] 23 (0, 0))) (e1 : w1.heap[B + 1]? = some (.cells #[.string p] 9 (0, 0))) (e2 : w1.heap[B + 1 + 1]? = some (.cells #[bv] 39 (0, 0))) (hS : ∀ k, S k → k < B) :
    Caps (Boxed w1 B Q dv more nodes) S f B w1.heap.size (B + 1 + 1) (B + 1) (w1.heap.size + 1 + 1) (w1.heap.size + 1) dv bv Q nodes more := by
  have l2 := heap_lt e2
  have old : ∀ k, k < w1.heap.size → k ≠ B + 1 → (Boxed w1 B Q dv more nodes).heap[k]? = w1.heap[k]? := fun k hk hne => by
    unfold Boxed
    rw [heap_alloc_old _ _ (by simp; omega), heap_alloc_old _ _ (by simp; omega), heap_alloc_old _ _ (by simpa using hk), Below.heap_setCell _ _ _ _ (by simpa using hne)]
  refine ⟨(old _ (by omega) (by omega)).trans e0, ?_, (old _ l2 (by omega)).trans e2, ?_, ?_, ?_, fun h => ?_, fun h => ?_, fun h => ?_, fun h => ?_, fun h => ?_, fun h => ?_⟩
  · unfold Boxed
    rw [heap_alloc_old _ _ (by simp; omega), heap_alloc_old _ _ (by simp)]
    have := heap_alloc_new (w1.setCell ⟨B + 1, 0, none⟩ (.string Q)) (.cells #[dv] 39)
    simpa using this
  · unfold Boxed
    rw [heap_alloc_old _ _ (by simp; omega), heap_alloc_old _ _ (by simp; omega), heap_alloc_old _ _ (by simp; omega)]
    exact one_setCell e1
  · unfold Boxed
    have := heap_alloc_new (((w1.setCell ⟨B + 1, 0, none⟩ (.string Q)).alloc (.cells #[dv] 39)).alloc (.cells #[.int .i64 more] 3)) (.cells #[.int .i64 nodes] 3)
    simpa using this
  · unfold Boxed
    rw [heap_alloc_old _ _ (by simp)]
    have := heap_alloc_new ((w1.setCell ⟨B + 1, 0, none⟩ (.string Q)).alloc (.cells #[dv] 39)) (.cells #[.int .i64 more] 3)
    simpa using this
  all_goals (have := hS _ h; omega)
/-- The three boxes of Write's parameters. -/
def Box3 (w : World) (f : Nat) (p : ByteArray) (bv : Value) : World := ((w.alloc (.cells #[.pointer (some ⟨f, 0, none⟩)] 23)).alloc (.cells #[.string p] 9)).alloc (.cells #[bv] 39)
theorem box3 (w : World) (f : Nat) (p : ByteArray) (bv : Value) {w1 : World} (hb : Below (Box3 w f p bv).heap.size (Box3 w f p bv) w1) :
    w1.heap[w.heap.size]? = some (.cells #[.pointer (some ⟨f, 0, none⟩)] 23 (0, 0)) ∧ w1.heap[w.heap.size + 1]? = some (.cells #[.string p] 9 (0, 0)) ∧ w1.heap[w.heap.size + 1 + 1]? = some (.cells #[bv] 39 (0, 0)) ∧ w.heap.size + 2 < w1.heap.size ∧ Below w.heap.size w w1 := by
  have hs : (Box3 w f p bv).heap.size = w.heap.size + 3 := by simp [Box3]
  have hsz := hb.size
  refine ⟨(hb.block _ (by omega)).trans ?_, (hb.block _ (by omega)).trans ?_, (hb.block _ (by omega)).trans ?_, by omega, ?_⟩
  · unfold Box3
    rw [heap_alloc_old _ _ (by simp; omega), heap_alloc_old _ _ (by simp)]; exact heap_alloc_new w _
  · unfold Box3
    rw [heap_alloc_old _ _ (by simp)]
    have := heap_alloc_new (w.alloc (.cells #[.pointer (some ⟨f, 0, none⟩)] 23)) (.cells #[.string p] 9)
    simpa using this
  · unfold Box3
    have := heap_alloc_new ((w.alloc (.cells #[.pointer (some ⟨f, 0, none⟩)] 23)).alloc (.cells #[.string p] 9)) (.cells #[bv] 39)
    simpa using this
  · exact (show Below w.heap.size w (Box3 w f p bv) from below_al (below_al (below_al (Below.refl _ _)))).trans (hb.mono (by omega))
set_option maxRecDepth 100000 in
set_option maxHeartbeats 8000000 in
theorem write_none (h : FsIn w f mb N S st clock room) (hp : p.size ≤ 2147483647) (hq : clean p.data.toList = q) (hr : lookQ st q = .none) (hl : wt st ≤ 1099511627776) (h0 : 0 ≤ clock) (h1 : clock ≤ 4611686018427387904)
    (hb : BytesAt w bv bb Tb) (hT : ∀ k, Tb k → ¬ S k ∧ k < w.heap.size) (hbl : bb.length ≤ 70368744177664) :
    Calls Tryz.prog 7 #[.pointer (some ⟨f, 0, none⟩), .string p, bv, .bool add] w fun e w' => OpPost w f S room (writeTail st clock room q [] bb 1 bb.length) e w' := by
  obtain ⟨ba, bc, hbv⟩ := hb.form
  subst hbv
  have hW : Below w.heap.size w (Box3 w f p (.slice ba bb.length bc)) := below_al (below_al (below_al (Below.refl _ _)))
  have hL := Lib.hid (look_none _ (h.below hW) hp hq hr)
  have kh := Lib.hid h
  clear h
  have kHb := Lib.hid hb
  have kT := Lib.hid hT
  clear hb hT hW
  have hQe := mk_isEmpty (lookQ_valid (Or.inl hr)).2.1
  have kfind := Lib.hid (lookQ_find.1 hr)
  have kql := Lib.hid (valid_len (lookQ_valid (Or.inl hr)).1)
  generalize hQ : mk q = Q at *
  have kQ := Lib.hid hQ
  clear hQ
  by_cases hlong : 65536 < bb.length
  · have hpost := Lib.hid (show writeTail st clock room q [] bb 1 bb.length = (2, st, clock) by unfold writeTail; rw [if_pos (by simp; omega)])
    go_enter_defers Tryz.func7, Tryz.ntmps7
    go_wp2_with (go_at_call 13; refine hL.out.mono ?_; rintro e w1 ⟨rfl, hb⟩; have kb1 := Lib.hid hb; clear hb; obtain ⟨e0, e1, e2, hsz, hb1⟩ := box3 w f p (.slice ba bb.length bc) kb1.out; obtain ⟨c0, g0⟩ := one_cell e0; obtain ⟨c1, g1⟩ := one_cell e1; obtain ⟨c2, g2⟩ := one_cell e2; have n0 : w.heap.size < w1.heap.size := (by omega); have n1 : w.heap.size + 1 < w1.heap.size := (by omega); have n2 : w.heap.size + 1 + 1 < w1.heap.size := (by omega); have n3 : w.heap.size < w1.heap.size + 1 := (by omega); have n4 : w.heap.size + 1 < w1.heap.size + 1 + 1 := (by omega); clear hsz; have ke0 := Lib.hid e0; have ke1 := Lib.hid e1; have ke2 := Lib.hid e2; have kb := Lib.hid hb1; clear e0 e1 e2 hb1 g0 g2)
    refine ⟨_, results_tmp rfl _ _ _, ?_⟩
    exact OpPost.same kh.out (hpost.out) rfl (boxed_below kb.out (by omega))
  · have hshort : bb.length ≤ 65536 := by omega
    clear hlong
    cases hfit : fitsB st room 1 bb.length with
    | false =>
      have hpost := Lib.hid (show writeTail st clock room q [] bb 1 bb.length = (15, st, clock) by unfold writeTail; rw [if_neg (by simp; omega), if_pos hfit])
      go_enter_defers Tryz.func7, Tryz.ntmps7
      go_wp2_with (go_at_call 13; refine hL.out.mono ?_; rintro e w1 ⟨rfl, hb⟩; have kb1 := Lib.hid hb; clear hb; obtain ⟨e0, e1, e2, hsz, hb1⟩ := box3 w f p (.slice ba bb.length bc) kb1.out; obtain ⟨c0, g0⟩ := one_cell e0; obtain ⟨c1, g1⟩ := one_cell e1; obtain ⟨c2, g2⟩ := one_cell e2; have n0 : w.heap.size < w1.heap.size := (by omega); have n1 : w.heap.size + 1 < w1.heap.size := (by omega); have n2 : w.heap.size + 1 + 1 < w1.heap.size := (by omega); have n3 : w.heap.size < w1.heap.size + 1 := (by omega); have n4 : w.heap.size + 1 < w1.heap.size + 1 + 1 := (by omega); clear hsz; have ke0 := Lib.hid e0; have ke1 := Lib.hid e1; have ke2 := Lib.hid e2; have kb := Lib.hid hb1; clear e0 e1 e2 hb1 g0 g2)
      have hF := Lib.hid (fits_no 1 bb.length (Boxed w1 w.heap.size Q (.slice none 0 0) bb.length 1) (kh.out.below (boxed_below kb.out (by omega))) (by omega) (by omega) hl hfit)
      go_wp2_with (go_at_call 15; refine hF.out.mono ?_; rintro e w2 ⟨rfl, n2, rfl⟩)
      refine ⟨_, results_tmp rfl _ _ _, ?_⟩
      exact OpPost.same kh.out (hpost.out) rfl (below_drewN' (boxed_below kb.out (by omega)) _)
    | true =>
      have hpost := Lib.hid (show writeTail st clock room q [] bb 1 bb.length = (0, putSt st q ⟨false, clock + 1, [] ++ bb⟩, clock + 1) by unfold writeTail; rw [if_neg (by simp; omega), if_neg (by rw [hfit]; simp)])
      go_enter_defers Tryz.func7, Tryz.ntmps7
      go_wp2_with (go_at_call 13; refine hL.out.mono ?_; rintro e w1 ⟨rfl, hb⟩; have kb1 := Lib.hid hb; clear hb; obtain ⟨e0, e1, e2, hsz, hb1⟩ := box3 w f p (.slice ba bb.length bc) kb1.out; obtain ⟨c0, g0⟩ := one_cell e0; obtain ⟨c1, g1⟩ := one_cell e1; obtain ⟨c2, g2⟩ := one_cell e2; have n0 : w.heap.size < w1.heap.size := (by omega); have n1 : w.heap.size + 1 < w1.heap.size := (by omega); have n2 : w.heap.size + 1 + 1 < w1.heap.size := (by omega); have n3 : w.heap.size < w1.heap.size + 1 := (by omega); have n4 : w.heap.size + 1 < w1.heap.size + 1 + 1 := (by omega); clear hsz; have ke0 := Lib.hid e0; have ke1 := Lib.hid e1; have ke2 := Lib.hid e2; have kb := Lib.hid hb1; clear e0 e1 e2 hb1 g0 g2)
      have hF := Lib.hid (fits_yes 1 bb.length (Boxed w1 w.heap.size Q (.slice none 0 0) bb.length 1) (kh.out.below (boxed_below kb.out (by omega))) (by omega) (by omega) hl hfit)
      go_wp2_with (go_at_call 15; refine hF.out.mono ?_; rintro e w2 ⟨rfl, n2, rfl⟩)
      have hC := (boxed_caps (S := S) (Q := Q) (dv := .slice none 0 0) (more := bb.length) (nodes := 1) ke0.out ke1.out ke2.out (fun k hk => kh.out.lt k hk)).drewN n2
      have hI := (kh.out.below (boxed_below (Q := Q) (dv := .slice none 0 0) (more := bb.length) (nodes := 1) kb.out (by omega : w.heap.size ≤ w.heap.size + 1))).of_heap (w' := (Boxed w1 w.heap.size Q (.slice none 0 0) bb.length 1).drewN n2) (fun _ _ => rfl)
      have hB5 := below_drewN' (boxed_below (Q := Q) (dv := .slice none 0 0) (more := bb.length) (nodes := 1) kb.out (by omega : w.heap.size ≤ w.heap.size + 1)) n2
      have hbb := kHb.out.of_heap (w' := (Boxed w1 w.heap.size Q (.slice none 0 0) bb.length 1).drewN n2) (fun k hk => hB5.block k (kT.out k hk).2) (fun _ h => h)
      have hQq : Q.data.toList = q := by rw [← kQ.out, mk_list]
      have hwt : ((wt st : Nat) : Int) + (1 + (bb.length : Int)) = wt (putSt st Q.data.toList ⟨false, clock + 1, [] ++ bb⟩) := by
        rw [hQq, wt_new kh.out.rising kfind.out]; simp
      refine leaves_cons (f := 17) (args := #[.pointer (some ⟨w.heap.size, 0, none⟩), .pointer (some ⟨w1.heap.size, 0, none⟩), .pointer (some ⟨w.heap.size + 1 + 1, 0, none⟩), .pointer (some ⟨w.heap.size + 1, 0, none⟩), .pointer (some ⟨w1.heap.size + 1 + 1, 0, none⟩), .pointer (some ⟨w1.heap.size + 1, 0, none⟩)]) (by simp) (by simp [go_sem]) ?_
      refine (writed_calls .returning hI hC (BytesAt.nil _ _) hbb (fun k hk => ⟨(kT.out k hk).1, Nat.lt_of_lt_of_le (kT.out k hk).2 hB5.size⟩) (by rw [hQq]; exact kql.out) hl h0 h1 (by simp) hshort (by omega) (by omega) hwt).mono ?_
      rintro e u' w'' ⟨rfl, rfl, N', S', g1, g2, g3⟩
      refine ⟨_, results_tmp rfl _ _ _, ?_⟩
      rw [hQq] at g1
      exact OpPost.done hpost.out hB5 g1 g2 g3
end
end Go.Proofs.YtnnepcodghfcmaaGreatDoor
