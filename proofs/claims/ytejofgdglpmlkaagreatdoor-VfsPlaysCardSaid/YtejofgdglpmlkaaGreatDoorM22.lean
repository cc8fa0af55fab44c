/-
  Rename upon a file that is there. Conditions: texts of at most 2^31 bytes; a weight of at most 2^40; a clock of at most 2^62.
  Write upon a file that is there. Conditions: texts of at most 2^31 bytes; a weight of at most 2^40; a clock of at most 2^62.
  Every call that changes a file system, at every path: what it answers, and leaves. Conditions: a tree that is right; the library's variable is laid.
-/
import Derived.Test.YtejofgdglpmlkaaGreatDoorM21
import Derived.Test.YtejofgdglpmlkaaGreatDoorM20
namespace Go.Proofs.YtejofgdglpmlkaaGreatDoor
open Go.RowKit

section
variable {f mb : Nat} {N : Bs → Nat} {S : Nat → Prop} {st : St} {clock room : Int} {p p2 : ByteArray} {q q2 : Bs} {w : World} {n m : PN}
theorem rename_fs2 {w2 w3 w6 w7 : World} {Q Q2 : ByteArray} {wv : Int} (h : FsIn w2 f mb N S st clock room) (hf : find st q = some n) (hne : q ≠ q2) (hql : q2.length ≤ 1000) (hQ : Q.data.toList = q) (hQ2 : Q2.data.toList = q2)
    (hc3 : w3.heap[f]? = some (.cells #[.map (some mb), .int .i64 clock, .int .i64 room, .int .i64 wv] 58 (0, 0))) (hg3 : w2.grownBy w3 (some f)) (hm : MapAt w7 mb (fun x => if x = Q2.data.toList then N q else N x) (delSt (putSt st Q2.data.toList n) Q.data.toList)) (hg6 : w3.grownBy w6 (some mb)) (hg7 : w6.grownBy w7 (some mb)) (hwt : (wt (delSt (putSt st q2 n) q) : Int) = wv) :
    FsIn w7 f mb (fun x => if x = q2 then N q else N x) S (delSt (putSt st q2 n) q) clock room ∧ Kept S w2 w7 := by
  rw [hQ, hQ2] at hm
  have hmf := h.ne_map
  have z3 := hg3.size
  have z6 := hg6.size
  have far7 : ∀ k, k < w3.heap.size → k ≠ mb → w7.heap[k]? = w3.heap[k]? := fun k hk h2 =>
    (hg7.block k (Nat.lt_of_lt_of_le hk hg6.size) (fun e => h2 (by injection e))).trans (hg6.block k hk (fun e => h2 (by injection e)))
  have far : ∀ k, k < w2.heap.size → k ≠ f → k ≠ mb → w7.heap[k]? = w2.heap[k]? := fun k hk h1 h2 => (far7 k (by omega) h2).trans (hg3.block k hk (fun e => h1 (by injection e)))
  have hsz : w2.heap.size ≤ w7.heap.size := by have := hg7.size; omega
  refine ⟨h.move hf hne hql hm far hsz ?_, ⟨(hg7.os.trans hg6.os).trans hg3.os, (hg7.tape.trans hg6.tape).trans hg3.tape, (hg7.output.trans hg6.output).trans hg3.output, hsz, fun k hk hn => far k hk (fun e => hn (e ▸ h.sf)) (fun e => hn (e ▸ h.sm))⟩⟩
  rw [hwt]
  exact (far7 f (heap_lt hc3) hmf).trans hc3
set_option maxRecDepth 100000 in
set_option maxHeartbeats 4000000 in
theorem rename_over (h : FsIn w f mb N S st clock room) (hp : p.size ≤ 2147483647) (hq : clean p.data.toList = q) (hr : lookQ st q = .node n) (hnd : n.dir = false) (hp2 : p2.size ≤ 2147483647) (hq2 : clean p2.data.toList = q2) (hr2 : lookQ st q2 = .node m) (hmd : m.dir = false) (hne : q ≠ q2) (hl : wt st ≤ 1099511627776) (h0 : 0 ≤ clock) (h1 : clock ≤ 4611686018427387904) :
    Calls Tryz.prog 20 #[.pointer (some ⟨f, 0, none⟩), .string p, .string p2] w fun e w' => OpPost w f S room (renameP st clock q q2 n) e w' := by
  have hL := Lib.hid (there_node w h hp hq hr)
  have hL2 := Lib.hid (fun (W : World) (hb : Below w.heap.size w W) => look_node W (h.below hb) hp2 hq2 hr2)
  have kh := Lib.hid h
  have hQe := mk_isEmpty (lookQ_valid (Or.inr ⟨n, hr⟩)).2.1
  have hQe2 := mk_isEmpty (lookQ_valid (Or.inr ⟨m, hr2⟩)).2.1
  have kql := Lib.hid (valid_len (lookQ_valid (Or.inr ⟨n, hr⟩)).1)
  have kql2 := Lib.hid (valid_len (lookQ_valid (Or.inr ⟨m, hr2⟩)).1)
  have kfind := Lib.hid (lookQ_find.2 n hr)
  have kfind2 := Lib.hid (lookQ_find.2 m hr2)
  have kwt := Lib.hid (show ((wt (delSt (putSt st q2 n) q) : Nat) : Int) = (wt st : Int) - (1 + (m.data.length : Int)) by have := move_wt h.rising (lookQ_find.2 n hr) hne; rw [lookQ_find.2 m hr2] at this; simp only [own1] at this; omega)
  have hml0 := find_len h.rising (lookQ_find.2 m hr2)
  have kmax := Lib.hid (show (mk q).size ≤ maxLen by rw [mk_size]; have := kql.out; unfold maxLen; omega)
  have kmax2 := Lib.hid (show (mk q2).size ≤ maxLen by rw [mk_size]; have := kql2.out; unfold maxLen; omega)
  have kll := Lib.hid (show st.length < maxLen by have : st.length ≤ wt st := by unfold wt; omega
                                                  unfold maxLen; omega)
  obtain ⟨nv, hnb, hnl⟩ := node_block h hr
  obtain ⟨mv, hmb, hmv⟩ := (h.node q2 m (lookQ_find.2 m hr2)).2.2
  have hml := heap_lt hmb
  obtain ⟨ma, mc, hmf⟩ := hmv.form
  subst hmf
  rw [hnd] at hnb
  rw [hmd] at hmb
  have knb := Lib.hid hnb
  have kmb := Lib.hid hmb
  have hPQ : ((mk q).toList == (mk q2).toList) = false := ba_ne (fun e => hne (mk_inj e))
  have kne := Lib.hid hne
  clear h hnb hmb hmv hne
  generalize hQ : mk q = Q at *
  generalize hQ2 : mk q2 = Q2 at *
  have kQ := Lib.hid (show Q.data.toList = q by rw [← hQ, mk_list])
  have kQ2 := Lib.hid (show Q2.data.toList = q2 by rw [← hQ2, mk_list])
  clear hQ hQ2
  go_enter Tryz.func20, Tryz.ntmps20
  go_upto_region 18 with (first
    | (go_at_call 39; refine hL.out.mono ?_; rintro e w1 ⟨rfl, hb⟩; have kb := Lib.hid hb; clear hb; obtain ⟨d0, -, -, -⟩ := node_cells knb.out kb.out)
    | (go_at_call 34; refine (hL2.out _ kb.out).mono ?_; rintro e w2 ⟨rfl, hb2⟩; have kb2 := Lib.hid (kb.out.trans (hb2.mono kb.out.size)); clear d0 hb2; have kh2 := Lib.hid (kh.out.below kb2.out); obtain ⟨x0, x1, x2, xl⟩ := node_cells kmb.out kb2.out; obtain ⟨c0, c1, c2, c3, cf⟩ := cells4 kh2.out.cells; have cf3 := cf 3; have cl := heap_lt kh2.out.cells; have xl2 := Nat.lt_of_lt_of_le xl kb2.out.size; clear cf c1 c2))
  have hs1 : IntKind.i64.wrap (1 + (m.data.length : Int)) = 1 + (m.data.length : Int) := IntWalk.i64_in _ (by omega)
  have hs2 : IntKind.i64.wrap ((wt st : Int) - (1 + (m.data.length : Int))) = (wt st : Int) - (1 + (m.data.length : Int)) := IntWalk.i64_in _ (by omega)
  go_region
  have kg3 := Lib.hid (show w2.grownBy (w2.setCell ⟨f, 3, none⟩ (.int .i64 ((wt st : Int) - (1 + (m.data.length : Int))))).drew (some f) from ⟨rfl, rfl, rfl, by simp, (set_grown w2 f 3 _).block⟩)
  have kc3 := Lib.hid (show (w2.setCell ⟨f, 3, none⟩ (.int .i64 ((wt st : Int) - (1 + (m.data.length : Int))))).drew.heap[f]? = some (.cells #[.map (some mb), .int .i64 clock, .int .i64 room, .int .i64 ((wt st : Int) - (1 + (m.data.length : Int)))] 58 (0, 0)) from set_heap kh2.out.cells 3 (.int .i64 ((wt st : Int) - (1 + (m.data.length : Int)))))
  clear c0 c3 cf3 x0 x1 x2 hs1 hs2
  generalize (w2.setCell ⟨f, 3, none⟩ (.int .i64 ((wt st : Int) - (1 + (m.data.length : Int))))).drew = w3 at *
  obtain ⟨w6, hrun6, hm6, hg6, hs6⟩ := (kh2.out.map.of_heap (w' := w3) (kg3.out.block mb kh2.out.map.lt (fun e => kh2.out.ne_map (by injection e with e; exact e.symm)))).put (nb := N q) kh2.out.rising Q2 kmax2.out kll.out n
  have km6 := Lib.hid hm6
  have kg6 := Lib.hid hg6
  obtain ⟨c0, -, -, -, -⟩ := cells4 kc3.out
  have cl3 := heap_lt kc3.out
  have kc6 := Lib.hid ((hg6.block f (heap_lt kc3.out) (fun e => kh2.out.ne_map (by injection e))).trans kc3.out)
  obtain ⟨c06, -, -, -, -⟩ := cells4 kc6.out
  have cl6 := heap_lt kc6.out
  clear hm6 hg6 hs6
  go_wp2_with (first
    | (at_delete; refine wpList_del _ rfl _ _ rfl rfl Q rfl km6.out (rising_put _ _ kh2.out.rising) kmax.out ?_; intro w7 hm7 hg7 hs7; have km7 := Lib.hid hm7; have kg7 := Lib.hid hg7; clear hm7 hg7 hs7; have kF7 := Lib.hid (rename_fs2 kh2.out kfind.out kne.out kql2.out kQ.out kQ2.out kc3.out kg3.out km7.out kg6.out kg7.out kwt.out))
    | (go_at_call 38; refine (change_calls _ kF7.out.1 h0 h1).mono ?_; rintro e w9 ⟨rfl, hg9, hs9, hI9⟩; have kg9 := Lib.hid hg9; have kI9 := Lib.hid hI9; clear hg9 hs9 hI9))
  go_ret
  refine ⟨rfl, S, ⟨mb, _, kI9.out⟩, fun k hk => Or.inl hk, Below.kept kb2.out (kF7.out.2.trans (S' := S) (Kept.grown kg9.out (fun k e => by injection e with e; exact e ▸ kh.out.sf)) (fun k h => Or.inl h))⟩
end
end Go.Proofs.YtejofgdglpmlkaaGreatDoor
namespace Go.Proofs.YtejofgdglpmlkaaGreatDoor
open Go.RowKit

section
variable {f mb : Nat} {N : Bs → Nat} {S Tb : Nat → Prop} {st : St} {clock room : Int} {p : ByteArray} {q bb : Bs} {bv : Value} {w : World} {n : PN}
set_option maxRecDepth 100000 in
set_option maxHeartbeats 8000000 in
theorem write_over (h : FsIn w f mb N S st clock room) (hp : p.size ≤ 2147483647) (hq : clean p.data.toList = q) (hr : lookQ st q = .node n) (hnd : n.dir = false) (hdl : n.data.length ≤ 65536) (hl : wt st ≤ 1099511627776) (h0 : 0 ≤ clock) (h1 : clock ≤ 4611686018427387904)
    (hb : BytesAt w bv bb Tb) (hT : ∀ k, Tb k → ¬ S k ∧ k < w.heap.size) (hbl : bb.length ≤ 70368744177664) :
    Calls Tryz.prog 17 #[.pointer (some ⟨f, 0, none⟩), .string p, bv, .bool false] w fun e w' => OpPost w f S room (writeTail st clock room q [] bb 0 ((bb.length : Int) - n.data.length)) e w' := by
  obtain ⟨ba, bc, hbv⟩ := hb.form
  subst hbv
  have hW : Below w.heap.size w (Box3 w f p (.slice ba bb.length bc)) := below_al (below_al (below_al (Below.refl _ _)))
  have hL := Lib.hid (look_node _ (h.below hW) hp hq hr)
  have kh := Lib.hid h
  clear h
  have kHb := Lib.hid hb
  have kT := Lib.hid hT
  clear hb hT hW
  have hnode0 := (kh.out.node q n (lookQ_find.2 n hr)).2.2
  have hNl := kh.out.lt _ (kh.out.node q n (lookQ_find.2 n hr)).2.1
  obtain ⟨nv, hnb, hnv⟩ := hnode0
  obtain ⟨na, nc, hnvf⟩ := hnv.form
  subst hnvf
  rw [hnd] at hnb
  have knb := Lib.hid hnb
  have knv := Lib.hid hnv
  clear hnb hnv
  have hQe := mk_isEmpty (lookQ_valid (Or.inr ⟨n, hr⟩)).2.1
  have kfind := Lib.hid (lookQ_find.2 n hr)
  have kql := Lib.hid (valid_len (lookQ_valid (Or.inr ⟨n, hr⟩)).1)
  generalize hQ : mk q = Q at *
  have kQ := Lib.hid hQ
  clear hQ
  by_cases hlong : 65536 < bb.length
  · have hpost := Lib.hid (show writeTail st clock room q [] bb 0 ((bb.length : Int) - n.data.length) = (2, st, clock) by unfold writeTail; rw [if_pos (by simp; omega)])
    go_enter_defers Tryz.func17, Tryz.ntmps17
    go_wp2_with (go_at_call 34; refine hL.out.mono ?_; rintro e w1 ⟨rfl, hb⟩; have kb1 := Lib.hid hb; clear hb; obtain ⟨e0, e1, e2, hsz, hb1⟩ := box3 w f p (.slice ba bb.length bc) kb1.out; obtain ⟨c0, g0⟩ := one_cell e0; obtain ⟨c1, g1⟩ := one_cell e1; obtain ⟨c2, g2⟩ := one_cell e2; have n0 : w.heap.size < w1.heap.size := (by omega); have n1 : w.heap.size + 1 < w1.heap.size := (by omega); have n2 : w.heap.size + 1 + 1 < w1.heap.size := (by omega); have n3 : w.heap.size < w1.heap.size + 1 := (by omega); have n4 : w.heap.size + 1 < w1.heap.size + 1 + 1 := (by omega); clear hsz; have ke0 := Lib.hid e0; have ke1 := Lib.hid e1; have ke2 := Lib.hid e2; have kb := Lib.hid hb1; clear e0 e1 e2 hb1 g0 g2; obtain ⟨hd0, hd1, hd2, hdn⟩ := node_cells knb.out kb.out; have hdm : N q < w1.heap.size := (by omega); have hdm1 : N q < w1.heap.size + 1 := (by omega); have hdm2 : N q < w1.heap.size + 1 + 1 := (by omega); have hde : N q ≠ w.heap.size + 1 := (by omega); have hde2 : w.heap.size + 1 ≠ N q := (by omega))
    go_region
    go_wp2_with fail
    refine ⟨_, results_tmp rfl _ _ _, ?_⟩
    exact OpPost.same kh.out (hpost.out) rfl (below_drewN' (boxed_below (B := w.heap.size) kb.out (by omega)) 1)
  · have hshort : bb.length ≤ 65536 := by omega
    clear hlong
    cases hfit : fitsB st room 0 ((bb.length : Int) - n.data.length) with
    | false =>
      have hpost := Lib.hid (show writeTail st clock room q [] bb 0 ((bb.length : Int) - n.data.length) = (15, st, clock) by unfold writeTail; rw [if_neg (by simp; omega), if_pos hfit])
      go_enter_defers Tryz.func17, Tryz.ntmps17
      go_wp2_with (go_at_call 34; refine hL.out.mono ?_; rintro e w1 ⟨rfl, hb⟩; have kb1 := Lib.hid hb; clear hb; obtain ⟨e0, e1, e2, hsz, hb1⟩ := box3 w f p (.slice ba bb.length bc) kb1.out; obtain ⟨c0, g0⟩ := one_cell e0; obtain ⟨c1, g1⟩ := one_cell e1; obtain ⟨c2, g2⟩ := one_cell e2; have n0 : w.heap.size < w1.heap.size := (by omega); have n1 : w.heap.size + 1 < w1.heap.size := (by omega); have n2 : w.heap.size + 1 + 1 < w1.heap.size := (by omega); have n3 : w.heap.size < w1.heap.size + 1 := (by omega); have n4 : w.heap.size + 1 < w1.heap.size + 1 + 1 := (by omega); clear hsz; have ke0 := Lib.hid e0; have ke1 := Lib.hid e1; have ke2 := Lib.hid e2; have kb := Lib.hid hb1; clear e0 e1 e2 hb1 g0 g2; obtain ⟨hd0, hd1, hd2, hdn⟩ := node_cells knb.out kb.out; have hdm : N q < w1.heap.size := (by omega); have hdm1 : N q < w1.heap.size + 1 := (by omega); have hdm2 : N q < w1.heap.size + 1 + 1 := (by omega); have hde : N q ≠ w.heap.size + 1 := (by omega); have hde2 : w.heap.size + 1 ≠ N q := (by omega))
      go_region
      go_wp2_with fail
      have hF := Lib.hid (fits_no 0 ((bb.length : Int) - n.data.length) (Boxed w1 w.heap.size Q (.slice none 0 0) ((bb.length : Int) - n.data.length) 0).drew ((kh.out.below (boxed_below kb.out (by omega))).of_heap (w' := (Boxed w1 w.heap.size Q (.slice none 0 0) ((bb.length : Int) - n.data.length) 0).drew) (fun _ _ => rfl)) (by omega) (by omega) hl hfit)
      go_wp2_with (go_at_call 36; refine hF.out.mono ?_; rintro e w2 ⟨rfl, n2, rfl⟩)
      refine ⟨_, results_tmp rfl _ _ _, ?_⟩
      exact OpPost.same kh.out (hpost.out) rfl (below_drewN' (boxed_below (B := w.heap.size) kb.out (by omega)) _)
    | true =>
      have hpost := Lib.hid (show writeTail st clock room q [] bb 0 ((bb.length : Int) - n.data.length) = (0, putSt st q ⟨false, clock + 1, [] ++ bb⟩, clock + 1) by unfold writeTail; rw [if_neg (by simp; omega), if_neg (by rw [hfit]; simp)])
      go_enter_defers Tryz.func17, Tryz.ntmps17
      go_wp2_with (go_at_call 34; refine hL.out.mono ?_; rintro e w1 ⟨rfl, hb⟩; have kb1 := Lib.hid hb; clear hb; obtain ⟨e0, e1, e2, hsz, hb1⟩ := box3 w f p (.slice ba bb.length bc) kb1.out; obtain ⟨c0, g0⟩ := one_cell e0; obtain ⟨c1, g1⟩ := one_cell e1; obtain ⟨c2, g2⟩ := one_cell e2; have n0 : w.heap.size < w1.heap.size := (by omega); have n1 : w.heap.size + 1 < w1.heap.size := (by omega); have n2 : w.heap.size + 1 + 1 < w1.heap.size := (by omega); have n3 : w.heap.size < w1.heap.size + 1 := (by omega); have n4 : w.heap.size + 1 < w1.heap.size + 1 + 1 := (by omega); clear hsz; have ke0 := Lib.hid e0; have ke1 := Lib.hid e1; have ke2 := Lib.hid e2; have kb := Lib.hid hb1; clear e0 e1 e2 hb1 g0 g2; obtain ⟨hd0, hd1, hd2, hdn⟩ := node_cells knb.out kb.out; have hdm : N q < w1.heap.size := (by omega); have hdm1 : N q < w1.heap.size + 1 := (by omega); have hdm2 : N q < w1.heap.size + 1 + 1 := (by omega); have hde : N q ≠ w.heap.size + 1 := (by omega); have hde2 : w.heap.size + 1 ≠ N q := (by omega))
      go_region
      go_wp2_with fail
      have hF := Lib.hid (fits_yes 0 ((bb.length : Int) - n.data.length) (Boxed w1 w.heap.size Q (.slice none 0 0) ((bb.length : Int) - n.data.length) 0).drew ((kh.out.below (boxed_below kb.out (by omega))).of_heap (w' := (Boxed w1 w.heap.size Q (.slice none 0 0) ((bb.length : Int) - n.data.length) 0).drew) (fun _ _ => rfl)) (by omega) (by omega) hl hfit)
      go_wp2_with (go_at_call 36; refine hF.out.mono ?_; rintro e w2 ⟨rfl, n2, rfl⟩)
      have hC := (boxed_caps (S := S) (Q := Q) (dv := .slice none 0 0) (more := ((bb.length : Int) - n.data.length)) (nodes := 0) ke0.out ke1.out ke2.out (fun k hk => kh.out.lt k hk)).drewN (1 + n2)
      have hI := (kh.out.below (boxed_below (Q := Q) (dv := .slice none 0 0) (more := ((bb.length : Int) - n.data.length)) (nodes := 0) kb.out (by omega : w.heap.size ≤ w.heap.size + 1))).of_heap (w' := (Boxed w1 w.heap.size Q (.slice none 0 0) ((bb.length : Int) - n.data.length) 0).drewN (1 + n2)) (fun _ _ => rfl)
      have hB5 := below_drewN' (boxed_below (Q := Q) (dv := .slice none 0 0) (more := ((bb.length : Int) - n.data.length)) (nodes := 0) kb.out (by omega : w.heap.size ≤ w.heap.size + 1)) (1 + n2)
      have hbb := kHb.out.of_heap (w' := (Boxed w1 w.heap.size Q (.slice none 0 0) ((bb.length : Int) - n.data.length) 0).drewN (1 + n2)) (fun k hk => hB5.block k (kT.out k hk).2) (fun _ h => h)
      have hQq : Q.data.toList = q := by rw [← kQ.out, mk_list]
      have hwt : ((wt st : Nat) : Int) + (0 + ((bb.length : Int) - n.data.length)) = wt (putSt st Q.data.toList ⟨false, clock + 1, [] ++ bb⟩) := by
        rw [hQq, wt_over kh.out.rising kfind.out]; simp
      refine leaves_cons (f := 37) (args := #[.pointer (some ⟨w.heap.size, 0, none⟩), .pointer (some ⟨w1.heap.size, 0, none⟩), .pointer (some ⟨w.heap.size + 1 + 1, 0, none⟩), .pointer (some ⟨w.heap.size + 1, 0, none⟩), .pointer (some ⟨w1.heap.size + 1 + 1, 0, none⟩), .pointer (some ⟨w1.heap.size + 1, 0, none⟩)]) (by simp) (by simp [go_sem]) ?_
      refine (writed_calls .returning hI hC (BytesAt.nil _ _) hbb (fun k hk => ⟨(kT.out k hk).1, Nat.lt_of_lt_of_le (kT.out k hk).2 hB5.size⟩) (by rw [hQq]; exact kql.out) hl h0 h1 (by simp) hshort (by omega) (by omega) hwt).mono ?_
      rintro e u' w'' ⟨rfl, rfl, N', S', g1, g2, g3⟩
      refine ⟨_, results_tmp rfl _ _ _, ?_⟩
      rw [hQq] at g1
      exact OpPost.done hpost.out hB5 g1 g2 g3
end
end Go.Proofs.YtejofgdglpmlkaaGreatDoor
namespace Go.Proofs.YtejofgdglpmlkaaGreatDoor
open Go.RowKit

def writeRes (st : St) (clock room : Int) (q b : Bs) (add : Bool) : Res := match lookQ st q with
  | .root => (12, st, clock)
  | .err e => (e, st, clock)
  | .none => writeTail st clock room q [] b 1 b.length
  | .node n => if n.dir = true then (12, st, clock) else if add = true then writeTail st clock room q n.data b 0 (b.length : Int) else writeTail st clock room q [] b 0 ((b.length : Int) - n.data.length)
def mkdirRes (st : St) (clock room : Int) (q : Bs) : Res := match lookQ st q with
  | .root => (13, st, clock)
  | .err e => (e, st, clock)
  | .none => newP st clock room q true
  | .node _ => (13, st, clock)
def removeRes (st : St) (clock : Int) (q : Bs) : Res := match lookQ st q with
  | .root => (12, st, clock)
  | .err e => (e, st, clock)
  | .none => (10, st, clock)
  | .node n => removeP st clock q n
def touchRes (st : St) (clock room : Int) (q : Bs) : Res := match lookQ st q with
  | .root => (0, st, clock)
  | .err e => (e, st, clock)
  | .none => newP st clock room q false
  | .node n => touchP st clock q n
def renameRes (st : St) (clock : Int) (p q : Bs) : Res := match lookQ st p with
  | .root => (12, st, clock)
  | .err e => (e, st, clock)
  | .none => (10, st, clock)
  | .node n => if n.dir = true then (12, st, clock) else match lookQ st q with
    | .root => (12, st, clock)
    | .err e => (e, st, clock)
    | .none => renameP st clock p q n
    | .node m => if m.dir = true then (12, st, clock) else if p = q then (0, st, clock) else renameP st clock p q n
section
variable {st : St} {clock room : Int}
theorem writeRes_step (q b : Bs) (add : Bool) : Step st clock room (writeRes st clock room q b add) := by
  unfold writeRes
  cases h : lookQ st q with
  | root => exact Step.stay rfl
  | err e => exact Step.stay rfl
  | none => exact write_step h
  | node n =>
    show Step st clock room (if n.dir = true then (12, st, clock) else if add = true then _ else _)
    split
    · exact Step.stay rfl
    · rename_i hd
      have hd' : n.dir = false := by simpa using hd
      split
      · exact add_step h hd'
      · exact over_step h hd'
theorem mkdirRes_step (q : Bs) : Step st clock room (mkdirRes st clock room q) := by
  unfold mkdirRes
  cases h : lookQ st q with
  | root => exact Step.stay rfl
  | err e => exact Step.stay rfl
  | none => exact new_step h
  | node n => exact Step.stay rfl
theorem removeRes_step (q : Bs) : Step st clock room (removeRes st clock q) := by
  unfold removeRes
  cases h : lookQ st q with
  | root => exact Step.stay rfl
  | err e => exact Step.stay rfl
  | none => exact Step.stay rfl
  | node n => exact remove_step h
theorem touchRes_step (q : Bs) : Step st clock room (touchRes st clock room q) := by
  unfold touchRes
  cases h : lookQ st q with
  | root => exact Step.stay rfl
  | err e => exact Step.stay rfl
  | none => exact new_step h
  | node n => exact touch_step h
theorem renameRes_step (p q : Bs) : Step st clock room (renameRes st clock p q) := by
  unfold renameRes
  cases h : lookQ st p with
  | root => exact Step.stay rfl
  | err e => exact Step.stay rfl
  | none => exact Step.stay rfl
  | node n =>
    show Step st clock room (if n.dir = true then (12, st, clock) else _)
    split
    · exact Step.stay rfl
    · rename_i hd
      have hd' : n.dir = false := by simpa using hd
      cases h2 : lookQ st q with
      | root => exact Step.stay rfl
      | err e => exact Step.stay rfl
      | none => exact rename_step h hd' (Or.inl h2) (fun e => by rw [e, h2] at h; cases h)
      | node m =>
        show Step st clock room (if m.dir = true then (12, st, clock) else if p = q then (0, st, clock) else renameP st clock p q n)
        split
        · exact Step.stay rfl
        · rename_i hm
          split
          · exact Step.stay rfl
          · rename_i hne
            exact rename_step h hd' (Or.inr ⟨m, h2, by simpa using hm⟩) hne
end
section
variable {f mb : Nat} {N : Bs → Nat} {S Tb : Nat → Prop} {st : St} {clock room : Int} {p p2 : ByteArray} {q q2 bb : Bs} {bv : Value} {w : World} {add : Bool}
theorem wf_small (h : Wf st clock room) : wt st ≤ 1099511627776 ∧ 0 ≤ clock ∧ clock ≤ 4611686018427387904 := by
  have := h.wt; have := h.rm; have := h.clk
  omega
theorem write_all (h : FsIn w f mb N S st clock room) (hw : Wf st clock room) (hp : p.size ≤ 2147483647) (hq : clean p.data.toList = q) (hb : BytesAt w bv bb Tb) (hT : ∀ k, Tb k → ¬ S k ∧ k < w.heap.size) (hbl : bb.length ≤ 70368744177664) (hlw : Laid w) :
    Calls Tryz.prog 17 #[.pointer (some ⟨f, 0, none⟩), .string p, bv, .bool add] w fun e w' => OpPost w f S room (writeRes st clock room q bb add) e w' := by
  obtain ⟨hl, h0, h1⟩ := wf_small hw
  unfold writeRes
  cases hr : lookQ st q with
  | root => exact write_root h hp hq hr hb hlw
  | err e => exact write_err h hp hq hr hb hlw
  | none => exact write_none h hp hq hr hl h0 h1 hb hT hbl
  | node n =>
    show Calls Tryz.prog 17 #[.pointer (some ⟨f, 0, none⟩), .string p, bv, .bool add] w fun e w' => OpPost w f S room (if n.dir = true then (12, st, clock) else if add = true then writeTail st clock room q n.data bb 0 (bb.length : Int) else writeTail st clock room q [] bb 0 ((bb.length : Int) - n.data.length)) e w'
    cases hd : n.dir with
    | true => rw [if_pos rfl]; exact write_dir h hp hq hr hd hb hlw
    | false =>
      rw [if_neg (by simp)]
      have hdl := (hw.node q n (lookQ_find.2 n hr)).2.2.2.2.1 hd
      cases add with
      | true => rw [if_pos rfl]; exact write_add h hp hq hr hd hdl hl h0 h1 hb hT hbl
      | false => rw [if_neg (by simp)]; exact write_over h hp hq hr hd hdl hl h0 h1 hb hT hbl
theorem mkdir_all (h : FsIn w f mb N S st clock room) (hw : Wf st clock room) (hp : p.size ≤ 2147483647) (hq : clean p.data.toList = q) (hlw : Laid w) :
    Calls Tryz.prog 18 #[.pointer (some ⟨f, 0, none⟩), .string p] w fun e w' => OpPost w f S room (mkdirRes st clock room q) e w' := by
  obtain ⟨hl, h0, h1⟩ := wf_small hw
  unfold mkdirRes
  cases hr : lookQ st q with
  | root => exact mkdir_root h hp hq hr hlw
  | err e => exact mkdir_err h hp hq hr hlw
  | none => exact mkdir_at w h hp hq hr hl h0 h1
  | node n => exact mkdir_node h hp hq hr hlw
theorem touch_all (h : FsIn w f mb N S st clock room) (hw : Wf st clock room) (hp : p.size ≤ 2147483647) (hq : clean p.data.toList = q) (hlw : Laid w) :
    Calls Tryz.prog 21 #[.pointer (some ⟨f, 0, none⟩), .string p] w fun e w' => OpPost w f S room (touchRes st clock room q) e w' := by
  obtain ⟨hl, h0, h1⟩ := wf_small hw
  unfold touchRes
  cases hr : lookQ st q with
  | root => exact touch_root h hp hq hr hlw
  | err e => exact touch_err h hp hq hr hlw
  | none => exact touch_none w h hp hq hr hl h0 h1
  | node n => exact touch_node h hp hq hr h0 h1
theorem remove_all (h : FsIn w f mb N S st clock room) (hw : Wf st clock room) (hp : p.size ≤ 2147483647) (hq : clean p.data.toList = q) (hlw : Laid w) :
    Calls Tryz.prog 19 #[.pointer (some ⟨f, 0, none⟩), .string p] w fun e w' => OpPost w f S room (removeRes st clock q) e w' := by
  obtain ⟨hl, h0, h1⟩ := wf_small hw
  unfold removeRes
  cases hr : lookQ st q with
  | root => exact remove_root h hp hq hr hlw
  | err e => exact remove_err h hp hq (Or.inl hr) hlw
  | none => exact remove_err h hp hq (Or.inr ⟨hr, rfl⟩) hlw
  | node n =>
    cases hd : n.dir with
    | true => exact remove_dir h hp hq hr hd hl h0 h1
    | false => exact remove_file h hp hq hr hd hl h0 h1
theorem rename_all (h : FsIn w f mb N S st clock room) (hw : Wf st clock room) (hp : p.size ≤ 2147483647) (hq : clean p.data.toList = q) (hp2 : p2.size ≤ 2147483647) (hq2 : clean p2.data.toList = q2) (hlw : Laid w) :
    Calls Tryz.prog 20 #[.pointer (some ⟨f, 0, none⟩), .string p, .string p2] w fun e w' => OpPost w f S room (renameRes st clock q q2) e w' := by
  obtain ⟨hl, h0, h1⟩ := wf_small hw
  unfold renameRes
  cases hr : lookQ st q with
  | root => exact rename_first h hp hq hr
  | err e => exact rename_err h hp hq (Or.inl hr) hlw
  | none => exact rename_err h hp hq (Or.inr ⟨hr, rfl⟩) hlw
  | node n =>
    cases hd : n.dir with
    | true =>
      show Calls Tryz.prog 20 #[.pointer (some ⟨f, 0, none⟩), .string p, .string p2] w fun e w' => OpPost w f S room (if n.dir = true then (12, st, clock) else _) e w'
      rw [if_pos hd]; exact rename_dir h hp hq hr hd
    | false =>
      show Calls Tryz.prog 20 #[.pointer (some ⟨f, 0, none⟩), .string p, .string p2] w fun e w' => OpPost w f S room (if n.dir = true then (12, st, clock) else _) e w'
      rw [if_neg (by rw [hd]; simp)]
      cases hr2 : lookQ st q2 with
      | root => exact rename_second h hp hq hr hd hp2 hq2 hr2
      | err e => exact rename_err2 h hp hq hr hd hp2 hq2 hr2 hlw
      | none => exact rename_new h hp hq hr hd hp2 hq2 hr2 hl h0 h1
      | node m =>
        show Calls Tryz.prog 20 #[.pointer (some ⟨f, 0, none⟩), .string p, .string p2] w fun e w' => OpPost w f S room (if m.dir = true then (12, st, clock) else if q = q2 then (0, st, clock) else renameP st clock q q2 n) e w'
        cases hmd : m.dir with
        | true => rw [if_pos rfl]; exact rename_dir2 h hp hq hr hd hp2 hq2 hr2 hmd
        | false =>
          rw [if_neg (by simp)]
          by_cases hne : q = q2
          · rw [if_pos hne]
            exact rename_same h hp hq hr hd hp2 (hq2.trans hne.symm)
          · rw [if_neg hne]
            exact rename_over h hp hq hr hd hp2 hq2 hr2 hmd hne hl h0 h1
end
end Go.Proofs.YtejofgdglpmlkaaGreatDoor
