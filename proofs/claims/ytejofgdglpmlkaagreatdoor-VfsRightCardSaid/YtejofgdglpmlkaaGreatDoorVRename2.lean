/-
  Rename upon a file that is there. Conditions: texts of at most 2^31 bytes; a weight of at most 2^40; a clock of at most 2^62.
-/
import Derived.Test.YtejofgdglpmlkaaGreatDoorVRename
namespace Go.Proofs.YtejofgdglpmlkaaGreatDoor
open Go.RowKit

section
variable {f mb : Nat} {N : Bs → Nat} {S : Nat → Prop} {st : St} {clock room : Int} {p p2 : ByteArray} {q q2 : Bs} {w : World} {n m : PN}
theorem rename_fs2 {w2 w3 w6 w7 : World} {Q Q2 : ByteArray} {wv : Int} (h : FsIn w2 f mb N S st clock room) (hf : find st q = some n) (hne : q ≠ q2) (hql : q2.length ≤ 1000) (hQ : Q.data.toList = q) (hQ2 : Q2.data.toList = q2)
    (hc3 : w3.heap[f]? = some (.cells #[.map (some mb), .int .i64 clock, .int .i64 room, .int .i64 wv] 58 (0, 0))) (hg3 : w2.grownBy w3 (some f)) (hm : MapAt w7 mb (fun x => if x = Q2.data.toList then N q else N x) (delSt (putSt st Q2.data.toList n) Q.data.toList)) (hg6 : w3.grownBy w6 (some mb)) (hg7 : w6.grownBy w7 (some mb)) (hwt : (wt (delSt (putSt st q2 n) q) : Int) = wv) :
    FsIn w7 f mb (fun x => if x = q2 then N q else N x) S (delSt (putSt st q2 n) q) clock room ∧ Kept S w2 w7 := by
  rw [hQ, hQ2] at hm
  have hmf := h.ne_map
  have z3 := hg3.size
  have z6 := hg6.size
  have far7 : ∀ k, k < w3.heap.size → k ≠ mb → w7.heap[k]? = w3.heap[k]? := fun k hk h2 =>
    (hg7.block k (Nat.lt_of_lt_of_le hk hg6.size) (fun e => h2 (by injection e))).trans (hg6.block k hk (fun e => h2 (by injection e)))
  have far : ∀ k, k < w2.heap.size → k ≠ f → k ≠ mb → w7.heap[k]? = w2.heap[k]? := fun k hk h1 h2 => (far7 k (by omega) h2).trans (hg3.block k hk (fun e => h1 (by injection e)))
  have hsz : w2.heap.size ≤ w7.heap.size := by have := hg7.size; omega
  refine ⟨h.move hf hne hql hm far hsz ?_, ⟨(hg7.os.trans hg6.os).trans hg3.os, (hg7.tape.trans hg6.tape).trans hg3.tape, (hg7.output.trans hg6.output).trans hg3.output, hsz, fun k hk hn => far k hk (fun e => hn (e ▸ h.sf)) (fun e => hn (e ▸ h.sm))⟩⟩
  rw [hwt]
  exact (far7 f (heap_lt hc3) hmf).trans hc3
set_option maxRecDepth 100000 in
set_option maxHeartbeats 4000000 in
theorem rename_over (h : FsIn w f mb N S st clock room) (hp : p.size ≤ 2147483647) (hq : clean p.data.toList = q) (hr : lookQ st q = .node n) (hnd : n.dir = false) (hp2 : p2.size ≤ 2147483647) (hq2 : clean p2.data.toList = q2) (hr2 : lookQ st q2 = .node m) (hmd : m.dir = false) (hne : q ≠ q2) (hl : wt st ≤ 1099511627776) (h0 : 0 ≤ clock) (h1 : clock ≤ 4611686018427387904) :
    Calls Tryz.prog 20 #[.pointer (some ⟨f, 0, none⟩), .string p, .string p2] w fun e w' => OpPost w f S room (renameP st clock q q2 n) e w' := by
  have hL := Lib.hid (there_node w h hp hq hr)
  have hL2 := Lib.hid (fun (W : World) (hb : Below w.heap.size w W) => look_node W (h.below hb) hp2 hq2 hr2)
  have kh := Lib.hid h
  have hQe := mk_isEmpty (lookQ_valid (Or.inr ⟨n, hr⟩)).2.1
  have hQe2 := mk_isEmpty (lookQ_valid (Or.inr ⟨m, hr2⟩)).2.1
  have kql := Lib.hid (valid_len (lookQ_valid (Or.inr ⟨n, hr⟩)).1)
  have kql2 := Lib.hid (valid_len (lookQ_valid (Or.inr ⟨m, hr2⟩)).1)
  have kfind := Lib.hid (lookQ_find.2 n hr)
  have kfind2 := Lib.hid (lookQ_find.2 m hr2)
  have kwt := Lib.hid (show ((wt (delSt (putSt st q2 n) q) : Nat) : Int) = (wt st : Int) - (1 + (m.data.length : Int)) by have := move_wt h.rising (lookQ_find.2 n hr) hne; rw [lookQ_find.2 m hr2] at this; simp only [own1] at this; omega)
  have hml0 := find_len h.rising (lookQ_find.2 m hr2)
  have kmax := Lib.hid (show (mk q).size ≤ maxLen by rw [mk_size]; have := kql.out; unfold maxLen; omega)
  have kmax2 := Lib.hid (show (mk q2).size ≤ maxLen by rw [mk_size]; have := kql2.out; unfold maxLen; omega)
  have kll := Lib.hid (show st.length < maxLen by have : st.length ≤ wt st := by unfold wt; omega
                                                  unfold maxLen; omega)
  obtain ⟨nv, hnb, hnl⟩ := node_block h hr
  obtain ⟨mv, hmb, hmv⟩ := (h.node q2 m (lookQ_find.2 m hr2)).2.2
  have hml := heap_lt hmb
  obtain ⟨ma, mc, hmf⟩ := hmv.form
  subst hmf
  rw [hnd] at hnb
  rw [hmd] at hmb
  have knb := Lib.hid hnb
  have kmb := Lib.hid hmb
  have hPQ : ((mk q).toList == (mk q2).toList) = false := ba_ne (fun e => hne (mk_inj e))
  have kne := Lib.hid hne
  clear h hnb hmb hmv hne
  generalize hQ : mk q = Q at *
  generalize hQ2 : mk q2 = Q2 at *
  have kQ := Lib.hid (show Q.data.toList = q by rw [← hQ, mk_list])
  have kQ2 := Lib.hid (show Q2.data.toList = q2 by rw [← hQ2, mk_list])
  clear hQ hQ2
  go_enter Tryz.func20, Tryz.ntmps20
  go_upto_region 18 with (first
    | (go_at_call 39; refine hL.out.mono ?_; rintro e w1 ⟨rfl, hb⟩; have kb := Lib.hid hb; clear hb; obtain ⟨d0, -, -, -⟩ := node_cells knb.out kb.out)
    | (go_at_call 34; refine (hL2.out _ kb.out).mono ?_; rintro e w2 ⟨rfl, hb2⟩; have kb2 := Lib.hid (kb.out.trans (hb2.mono kb.out.size)); clear d0 hb2; have kh2 := Lib.hid (kh.out.below kb2.out); obtain ⟨x0, x1, x2, xl⟩ := node_cells kmb.out kb2.out; obtain ⟨c0, c1, c2, c3, cf⟩ := cells4 kh2.out.cells; have cf3 := cf 3; have cl := heap_lt kh2.out.cells; have xl2 := Nat.lt_of_lt_of_le xl kb2.out.size; clear cf c1 c2))
  have hs1 : IntKind.i64.wrap (1 + (m.data.length : Int)) = 1 + (m.data.length : Int) := IntWalk.i64_in _ (by omega)
  have hs2 : IntKind.i64.wrap ((wt st : Int) - (1 + (m.data.length : Int))) = (wt st : Int) - (1 + (m.data.length : Int)) := IntWalk.i64_in _ (by omega)
  go_region
  have kg3 := Lib.hid (show w2.grownBy (w2.setCell ⟨f, 3, none⟩ (.int .i64 ((wt st : Int) - (1 + (m.data.length : Int))))).drew (some f) from ⟨rfl, rfl, rfl, by simp, (set_grown w2 f 3 _).block⟩)
  have kc3 := Lib.hid (show (w2.setCell ⟨f, 3, none⟩ (.int .i64 ((wt st : Int) - (1 + (m.data.length : Int))))).drew.heap[f]? = some (.cells #[.map (some mb), .int .i64 clock, .int .i64 room, .int .i64 ((wt st : Int) - (1 + (m.data.length : Int)))] 58 (0, 0)) from set_heap kh2.out.cells 3 (.int .i64 ((wt st : Int) - (1 + (m.data.length : Int)))))
  clear c0 c3 cf3 x0 x1 x2 hs1 hs2
  generalize (w2.setCell ⟨f, 3, none⟩ (.int .i64 ((wt st : Int) - (1 + (m.data.length : Int))))).drew = w3 at *
  obtain ⟨w6, hrun6, hm6, hg6, hs6⟩ := (kh2.out.map.of_heap (w' := w3) (kg3.out.block mb kh2.out.map.lt (fun e => kh2.out.ne_map (by injection e with e; exact e.symm)))).put (nb := N q) kh2.out.rising Q2 kmax2.out kll.out n
  have km6 := Lib.hid hm6
  have kg6 := Lib.hid hg6
  obtain ⟨c0, -, -, -, -⟩ := cells4 kc3.out
  have cl3 := heap_lt kc3.out
  have kc6 := Lib.hid ((hg6.block f (heap_lt kc3.out) (fun e => kh2.out.ne_map (by injection e))).trans kc3.out)
  obtain ⟨c06, -, -, -, -⟩ := cells4 kc6.out
  have cl6 := heap_lt kc6.out
  clear hm6 hg6 hs6
  go_wp2_with (first
    | (at_delete; refine wpList_del _ rfl _ _ rfl rfl Q rfl km6.out (rising_put _ _ kh2.out.rising) kmax.out ?_; intro w7 hm7 hg7 hs7; have km7 := Lib.hid hm7; have kg7 := Lib.hid hg7; clear hm7 hg7 hs7; have kF7 := Lib.hid (rename_fs2 kh2.out kfind.out kne.out kql2.out kQ.out kQ2.out kc3.out kg3.out km7.out kg6.out kg7.out kwt.out))
    | (go_at_call 38; refine (change_calls _ kF7.out.1 h0 h1).mono ?_; rintro e w9 ⟨rfl, hg9, hs9, hI9⟩; have kg9 := Lib.hid hg9; have kI9 := Lib.hid hI9; clear hg9 hs9 hI9))
  go_ret
  refine ⟨rfl, S, ⟨mb, _, kI9.out⟩, fun k hk => Or.inl hk, Below.kept kb2.out (kF7.out.2.trans (S' := S) (Kept.grown kg9.out (fun k e => by injection e with e; exact e ▸ kh.out.sf)) (fun k h => Or.inl h))⟩
end
end Go.Proofs.YtejofgdglpmlkaaGreatDoor
