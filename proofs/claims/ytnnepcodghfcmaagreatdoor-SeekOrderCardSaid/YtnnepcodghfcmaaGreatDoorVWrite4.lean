/-
  Write upon a file that is there. Conditions: texts of at most 2^31 bytes; a weight of at most 2^40; a clock of at most 2^62.
-/
import Derived.Test.YtnnepcodghfcmaaGreatDoorVWrite3
namespace Go.Proofs.YtnnepcodghfcmaaGreatDoor
open Go.RowKit

section
variable {f mb : Nat} {N : Bs → Nat} {S Tb : Nat → Prop} {st : St} {clock room : Int} {p : ByteArray} {q bb : Bs} {bv : Value} {w : World} {n : PN}
set_option maxRecDepth 100000 in
set_option maxHeartbeats 8000000 in
theorem write_over (h : FsIn w f mb N S st clock room) (hp : p.size ≤ 2147483647) (hq : clean p.data.toList = q) (hr : lookQ st q = .node n) (hnd : n.dir = false) (hdl : n.data.length ≤ 65536) (hl : wt st ≤ 1099511627776) (h0 : 0 ≤ clock) (h1 : clock ≤ 4611686018427387904)
    (hb : BytesAt w bv bb Tb) (hT : ∀ k, Tb k → ¬ S k ∧ k < w.heap.size) (hbl : bb.length ≤ 70368744177664) :
    Calls Tryz.prog 7 #[.pointer (some ⟨f, 0, none⟩), .string p, bv, .bool false] w fun e w' => OpPost w f S room (writeTail st clock room q [] bb 0 ((bb.length : Int) - n.data.length)) e w' := by
  obtain ⟨ba, bc, hbv⟩ := hb.form
  subst hbv
  have hW : Below w.heap.size w (Box3 w f p (.slice ba bb.length bc)) := below_al (below_al (below_al (Below.refl _ _)))
  have hL := Lib.hid (look_node _ (h.below hW) hp hq hr)
  have kh := Lib.hid h
  clear h
  have kHb := Lib.hid hb
  have kT := Lib.hid hT
  clear hb hT hW
  have hnode0 := (kh.out.node q n (lookQ_find.2 n hr)).2.2
  have hNl := kh.out.lt _ (kh.out.node q n (lookQ_find.2 n hr)).2.1
  obtain ⟨nv, hnb, hnv⟩ := hnode0
  obtain ⟨na, nc, hnvf⟩ := hnv.form
  subst hnvf
  rw [hnd] at hnb
  have knb := Lib.hid hnb
  have knv := Lib.hid hnv
  clear hnb hnv
  have hQe := mk_isEmpty (lookQ_valid (Or.inr ⟨n, hr⟩)).2.1
  have kfind := Lib.hid (lookQ_find.2 n hr)
  have kql := Lib.hid (valid_len (lookQ_valid (Or.inr ⟨n, hr⟩)).1)
  generalize hQ : mk q = Q at *
  have kQ := Lib.hid hQ
  clear hQ
  by_cases hlong : 65536 < bb.length
  · have hpost := Lib.hid (show writeTail st clock room q [] bb 0 ((bb.length : Int) - n.data.length) = (2, st, clock) by unfold writeTail; rw [if_pos (by simp; omega)])
    go_enter_defers Tryz.func7, Tryz.ntmps7
    go_wp2_with (go_at_call 13; refine hL.out.mono ?_; rintro e w1 ⟨rfl, hb⟩; have kb1 := Lib.hid hb; clear hb; obtain ⟨e0, e1, e2, hsz, hb1⟩ := box3 w f p (.slice ba bb.length bc) kb1.out; obtain ⟨c0, g0⟩ := one_cell e0; obtain ⟨c1, g1⟩ := one_cell e1; obtain ⟨c2, g2⟩ := one_cell e2; have n0 : w.heap.size < w1.heap.size := (by omega); have n1 : w.heap.size + 1 < w1.heap.size := (by omega); have n2 : w.heap.size + 1 + 1 < w1.heap.size := (by omega); have n3 : w.heap.size < w1.heap.size + 1 := (by omega); have n4 : w.heap.size + 1 < w1.heap.size + 1 + 1 := (by omega); clear hsz; have ke0 := Lib.hid e0; have ke1 := Lib.hid e1; have ke2 := Lib.hid e2; have kb := Lib.hid hb1; clear e0 e1 e2 hb1 g0 g2; obtain ⟨hd0, hd1, hd2, hdn⟩ := node_cells knb.out kb.out; have hdm : N q < w1.heap.size := (by omega); have hdm1 : N q < w1.heap.size + 1 := (by omega); have hdm2 : N q < w1.heap.size + 1 + 1 := (by omega); have hde : N q ≠ w.heap.size + 1 := (by omega); have hde2 : w.heap.size + 1 ≠ N q := (by omega))
    go_region
    go_wp2_with fail
    refine ⟨_, results_tmp rfl _ _ _, ?_⟩
    exact OpPost.same kh.out (hpost.out) rfl (below_drewN' (boxed_below (B := w.heap.size) kb.out (by omega)) 1)
  · have hshort : bb.length ≤ 65536 := by omega
    clear hlong
    cases hfit : fitsB st room 0 ((bb.length : Int) - n.data.length) with
    | false =>
      have hpost := Lib.hid (show writeTail st clock room q [] bb 0 ((bb.length : Int) - n.data.length) = (15, st, clock) by unfold writeTail; rw [if_neg (by simp; omega), if_pos hfit])
      go_enter_defers Tryz.func7, Tryz.ntmps7
      go_wp2_with (go_at_call 13; refine hL.out.mono ?_; rintro e w1 ⟨rfl, hb⟩; have kb1 := Lib.hid hb; clear hb; obtain ⟨e0, e1, e2, hsz, hb1⟩ := box3 w f p (.slice ba bb.length bc) kb1.out; obtain ⟨c0, g0⟩ := one_cell e0; obtain ⟨c1, g1⟩ := one_cell e1; obtain ⟨c2, g2⟩ := one_cell e2; have n0 : w.heap.size < w1.heap.size := (by omega); have n1 : w.heap.size + 1 < w1.heap.size := (by omega); have n2 : w.heap.size + 1 + 1 < w1.heap.size := (by omega); have n3 : w.heap.size < w1.heap.size + 1 := (by omega); have n4 : w.heap.size + 1 < w1.heap.size + 1 + 1 := (by omega); clear hsz; have ke0 := Lib.hid e0; have ke1 := Lib.hid e1; have ke2 := Lib.hid e2; have kb := Lib.hid hb1; clear e0 e1 e2 hb1 g0 g2; obtain ⟨hd0, hd1, hd2, hdn⟩ := node_cells knb.out kb.out; have hdm : N q < w1.heap.size := (by omega); have hdm1 : N q < w1.heap.size + 1 := (by omega); have hdm2 : N q < w1.heap.size + 1 + 1 := (by omega); have hde : N q ≠ w.heap.size + 1 := (by omega); have hde2 : w.heap.size + 1 ≠ N q := (by omega))
      go_region
      go_wp2_with fail
      have hF := Lib.hid (fits_no 0 ((bb.length : Int) - n.data.length) (Boxed w1 w.heap.size Q (.slice none 0 0) ((bb.length : Int) - n.data.length) 0).drew ((kh.out.below (boxed_below kb.out (by omega))).of_heap (w' := (Boxed w1 w.heap.size Q (.slice none 0 0) ((bb.length : Int) - n.data.length) 0).drew) (fun _ _ => rfl)) (by omega) (by omega) hl hfit)
      go_wp2_with (go_at_call 15; refine hF.out.mono ?_; rintro e w2 ⟨rfl, n2, rfl⟩)
      refine ⟨_, results_tmp rfl _ _ _, ?_⟩
      exact OpPost.same kh.out (hpost.out) rfl (below_drewN' (boxed_below (B := w.heap.size) kb.out (by omega)) _)
    | true =>
      have hpost := Lib.hid (show writeTail st clock room q [] bb 0 ((bb.length : Int) - n.data.length) = (0, putSt st q ⟨false, clock + 1, [] ++ bb⟩, clock + 1) by unfold writeTail; rw [if_neg (by simp; omega), if_neg (by rw [hfit]; simp)])
      go_enter_defers Tryz.func7, Tryz.ntmps7
      go_wp2_with (go_at_call 13; refine hL.out.mono ?_; rintro e w1 ⟨rfl, hb⟩; have kb1 := Lib.hid hb; clear hb; obtain ⟨e0, e1, e2, hsz, hb1⟩ := box3 w f p (.slice ba bb.length bc) kb1.out; obtain ⟨c0, g0⟩ := one_cell e0; obtain ⟨c1, g1⟩ := one_cell e1; obtain ⟨c2, g2⟩ := one_cell e2; have n0 : w.heap.size < w1.heap.size := (by omega); have n1 : w.heap.size + 1 < w1.heap.size := (by omega); have n2 : w.heap.size + 1 + 1 < w1.heap.size := (by omega); have n3 : w.heap.size < w1.heap.size + 1 := (by omega); have n4 : w.heap.size + 1 < w1.heap.size + 1 + 1 := (by omega); clear hsz; have ke0 := Lib.hid e0; have ke1 := Lib.hid e1; have ke2 := Lib.hid e2; have kb := Lib.hid hb1; clear e0 e1 e2 hb1 g0 g2; obtain ⟨hd0, hd1, hd2, hdn⟩ := node_cells knb.out kb.out; have hdm : N q < w1.heap.size := (by omega); have hdm1 : N q < w1.heap.size + 1 := (by omega); have hdm2 : N q < w1.heap.size + 1 + 1 := (by omega); have hde : N q ≠ w.heap.size + 1 := (by omega); have hde2 : w.heap.size + 1 ≠ N q := (by omega))
      go_region
      go_wp2_with fail
      have hF := Lib.hid (fits_yes 0 ((bb.length : Int) - n.data.length) (Boxed w1 w.heap.size Q (.slice none 0 0) ((bb.length : Int) - n.data.length) 0).drew ((kh.out.below (boxed_below kb.out (by omega))).of_heap (w' := (Boxed w1 w.heap.size Q (.slice none 0 0) ((bb.length : Int) - n.data.length) 0).drew) (fun _ _ => rfl)) (by omega) (by omega) hl hfit)
      go_wp2_with (go_at_call 15; refine hF.out.mono ?_; rintro e w2 ⟨rfl, n2, rfl⟩)
      have hC := (boxed_caps (S := S) (Q := Q) (dv := .slice none 0 0) (more := ((bb.length : Int) - n.data.length)) (nodes := 0) ke0.out ke1.out ke2.out (fun k hk => kh.out.lt k hk)).drewN (1 + n2)
      have hI := (kh.out.below (boxed_below (Q := Q) (dv := .slice none 0 0) (more := ((bb.length : Int) - n.data.length)) (nodes := 0) kb.out (by omega : w.heap.size ≤ w.heap.size + 1))).of_heap (w' := (Boxed w1 w.heap.size Q (.slice none 0 0) ((bb.length : Int) - n.data.length) 0).drewN (1 + n2)) (fun _ _ => rfl)
      have hB5 := below_drewN' (boxed_below (Q := Q) (dv := .slice none 0 0) (more := ((bb.length : Int) - n.data.length)) (nodes := 0) kb.out (by omega : w.heap.size ≤ w.heap.size + 1)) (1 + n2)
      have hbb := kHb.out.of_heap (w' := (Boxed w1 w.heap.size Q (.slice none 0 0) ((bb.length : Int) - n.data.length) 0).drewN (1 + n2)) (fun k hk => hB5.block k (kT.out k hk).2) (fun _ h => h)
      have hQq : Q.data.toList = q := by rw [← kQ.out, mk_list]
      have hwt : ((wt st : Nat) : Int) + (0 + ((bb.length : Int) - n.data.length)) = wt (putSt st Q.data.toList ⟨false, clock + 1, [] ++ bb⟩) := by
        rw [hQq, wt_over kh.out.rising kfind.out]; simp
      refine leaves_cons (f := 17) (args := #[.pointer (some ⟨w.heap.size, 0, none⟩), .pointer (some ⟨w1.heap.size, 0, none⟩), .pointer (some ⟨w.heap.size + 1 + 1, 0, none⟩), .pointer (some ⟨w.heap.size + 1, 0, none⟩), .pointer (some ⟨w1.heap.size + 1 + 1, 0, none⟩), .pointer (some ⟨w1.heap.size + 1, 0, none⟩)]) (by simp) (by simp [go_sem]) ?_
      refine (writed_calls .returning hI hC (BytesAt.nil _ _) hbb (fun k hk => ⟨(kT.out k hk).1, Nat.lt_of_lt_of_le (kT.out k hk).2 hB5.size⟩) (by rw [hQq]; exact kql.out) hl h0 h1 (by simp) hshort (by omega) (by omega) hwt).mono ?_
      rintro e u' w'' ⟨rfl, rfl, N', S', g1, g2, g3⟩
      refine ⟨_, results_tmp rfl _ _ _, ?_⟩
      rw [hQq] at g1
      exact OpPost.done hpost.out hB5 g1 g2 g3
end
end Go.Proofs.YtnnepcodghfcmaaGreatDoor
