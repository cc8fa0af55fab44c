/-
  List of a file system, at every path. Conditions: a tree that is right, texts of at most 2^31 bytes; the library's variable is laid.
-/
import Derived.Test.YtejofgdglpmlkaaGreatDoorM28
namespace Go.Proofs.YtejofgdglpmlkaaGreatDoor
open Go.RowKit

/-- Names in a row of one's own. -/
def NamesAt (w : World) (B : Nat) (v : Value) (l : List Bs) : Prop := LooseS w B v l
section
variable {f mb : Nat} {N : Bs → Nat} {S : Nat → Prop} {st : St} {clock room : Int} {p : ByteArray} {q : Bs} {w : World} {D : DataW Unit} {n : PN} {e0 : Int}
def ListInv (w : World) (f mb : Nat) (D : DataW Unit) (N : Bs → Nat) (S : Nat → Prop) (st : St) (clock room : Int) (q : Bs) (lv : Value) (wr : World) : Prop :=
  ∃ (left : Lit → Bool) (cnt : Nat) (ss : List Bs), wr.ranges Tryz.prog 9 ptrElem mb w.heap.size (Maps.size D) D left cnt ∧ FsIn wr f mb N S st clock room ∧ Below w.heap.size w wr ∧ Collected D left ss ∧ LooseS wr (w.heap.size + 1) lv (subs q ss) ∧ ss.length + cnt ≤ st.length
theorem ListInv.start {w0 : World} (h : FsIn w f mb N S st clock room) (hsz : Maps.size D = st.length) (hrg : w0.ranges Tryz.prog 9 ptrElem mb w.heap.size (Maps.size D) D (Maps.has D) (Maps.size D)) (hg : w.grownBy w0 none) : ListInv w f mb D N S st clock room q (.slice none 0 0) w0 :=
  ⟨_, _, [], hrg, h.of_heap fun k hk => hg.block k (h.lt k hk) (by simp), ⟨hg.os, hg.tape, hg.output, hg.size, fun k hk => hg.block k hk (by simp)⟩, Collected.start D, LooseS.nil _ _, by simp [hsz]⟩
theorem ListInv.step {lv' : Value} {ss : List Bs} {wr w2 w3 : World} {row : Option Nat} {left : Lit → Bool} {cnt : Nat} (hF : FsIn wr f mb N S st clock room) (hB : Below w.heap.size w wr) (hS : ∀ k, S k → k < w.heap.size) (hmb : mb < w.heap.size)
    (hrg : w2.ranges Tryz.prog 9 ptrElem mb w.heap.size (Maps.size D) D left cnt) (hg2 : wr.grownBy w2 (some w.heap.size)) (hg3 : w2.grownBy w3 row) (hrow : ∀ g, row = some g → w.heap.size + 1 ≤ g) (hC : Collected D left ss) (hL : LooseS w3 (w.heap.size + 1) lv' (subs q ss)) (hl : ss.length + cnt ≤ st.length) :
    ListInv w f mb D N S st clock room q lv' w3 ∧ w3.rangeLeft mb w.heap.size = cnt := by
  have hr3 : w3.ranges Tryz.prog 9 ptrElem mb w.heap.size (Maps.size D) D left cnt := hrg.kept hg3 (fun e => by have := hrow mb e.symm; omega) (fun e => by have := hrow _ e.symm; omega)
  have far : ∀ k, k < wr.heap.size → k < w.heap.size → w3.heap[k]? = wr.heap[k]? := fun k hk hk' => by
    have h2 := hg2.size
    rw [hg3.block k (by omega) (fun e => by have := hrow k e.symm; omega), hg2.block k hk (fun e => by injection e with e; omega)]
  refine ⟨⟨left, cnt, ss, hr3, hF.of_heap fun k hk => far k (hF.lt k hk) (hS k hk), ?_, hC, hL, hl⟩, hr3.left_eq⟩
  have h2 := hg2.size
  have h3 := hg3.size
  have h1 := hB.size
  exact ⟨(hg3.os.trans hg2.os).trans hB.os, (hg3.tape.trans hg2.tape).trans hB.tape, (hg3.output.trans hg2.output).trans hB.output, by omega, fun k hk => (far k (by omega) hk).trans (hB.block k hk)⟩
theorem below_grown {w w' : World} (h : Below w.heap.size w w') : w.grownBy w' none := ⟨h.os, h.tape, h.output, h.size, fun k hk _ => h.block k hk⟩
theorem grown_app {w w1 w2 : World} {o : Obj} {row : Option Nat} (h : Below w.heap.size w w1) (hg : (w1.alloc o).grownBy w2 row) : w.grownBy w2 row := by
  have h1 := h.size
  have h2 := hg.size
  refine ⟨hg.os.trans h.os, hg.tape.trans h.tape, hg.output.trans h.output, by simp at h2; omega, fun k hk hne => (hg.block k (by simp; omega) hne).trans ((heap_alloc_old _ _ (by omega)).trans (h.block k hk))⟩
theorem loose_below {w w' : World} {B : Nat} {v : Value} {l : List Bs} (h : LooseS w B v l) (hb : Below w.heap.size w w') : LooseS w' B v l := h.kept fun g hg => hb.block g (h.lt g hg).2
/-- What the sort leaves: a row of one's own still. -/
theorem sort_loose {v : Value} {ss : List Bs} {wr : World} {B : Nat} (h : LooseS wr B v ss) (hB : w.heap.size ≤ B) (hb : Below w.heap.size w wr) (hl : ss.length ≤ 1099511627776) :
    Calls Tryz.prog 58 #[v] wr fun e w' => e = .returned (.tuple #[]) ∧ LooseS w' B v (ss.mergeSort fun x y => decide (x ≤ y)) ∧ Below w.heap.size w w' := by
  rcases h with ⟨rfl, rfl⟩ | ⟨g, cap, cur, rfl, hbg, hg, hn, hm, hcs, ht⟩
  · refine (Tryz.slices_Sort_string_none none 0 wr).mono ?_
    rintro e w' ⟨rfl, rfl⟩
    exact ⟨rfl, Or.inl ⟨rfl, by simp⟩, hb⟩
  · refine (Tryz.slices_Sort_string g 0 cap ss wr (holds_of_block hg ht) (heap_lt hg) (by omega)).mono ?_
    rintro e w' ⟨rfl, n, os, rfl⟩
    have hl2 : (ss.mergeSort fun x y => decide (x ≤ y)).length = ss.length := List.length_mergeSort _
    have hgr := grownBy_sorted (w := wr) (g := g) (n := n) (os := os) (ss.mergeSort fun x y => decide (x ≤ y)).toArray
    have h1 := take_putCells cur (ss.mergeSort fun x y => decide (x ≤ y)) (by omega)
    refine ⟨rfl, Or.inr ⟨g, cap, _, by rw [hl2], hbg, heap_sorted _ hg, by omega, hm, ?_, by rw [hl2] at h1 ⊢; exact h1⟩, ⟨hgr.os.trans hb.os, hgr.tape.trans hb.tape, hgr.output.trans hb.output, Nat.le_trans hb.size hgr.size, fun k hk => (hgr.block k (Nat.lt_of_lt_of_le hk hb.size) (fun e => by injection e with e; omega)).trans (hb.block k hk)⟩⟩
    simp [Go.Sort.putCells]; omega
theorem list_end {left : Lit → Bool} {ss : List Bs} (hw : Wf st clock room) (hF : FsIn w f mb N S st clock room) (hown : w.ownsMap Tryz.prog 9 ptrElem mb (Maps.size D) D)
    (hD : ∀ x : Bs, x.length ≤ maxLen → Maps.has D (.string x) = (find st x).isSome) (hC : Collected D left ss) (hl : ∀ kl, left kl = false) : (subs q ss).mergeSort (fun x y => decide (x ≤ y)) = kids st q := by
  have hp : ss.Perm (st.map Prod.fst) := by
    have h1 := hC.perm hown lawS Tryz.underlying9 hl
    refine (List.perm_ext_iff_of_nodup hC.1 (rising_nodup hF.rising)).2 fun x => ?_
    rw [mem_paths]
    constructor
    · intro hx
      rw [← hD x (strKeys_le hown Tryz.underlying9 x (h1.mem_iff.1 hx))]
      exact ((hC.2 x).1 hx).1
    · intro hx
      obtain ⟨y, hy⟩ := Option.isSome_iff_exists.1 hx
      have := (hF.node x y hy).1
      exact (hC.2 x).2 ⟨by rw [hD x (by unfold maxLen; omega)]; exact hx, hl _⟩
  exact sort_rising (kids_rising hw q) (subs_perm q hp)
theorem names_cells {w : World} {B : Nat} {v : Value} {l : List Bs} (h : LooseS w B v l) : ∃ a c, v = .slice a l.length c := by
  rcases h with ⟨rfl, rfl⟩ | ⟨g, cap, cur, rfl, _⟩
  · exact ⟨none, 0, rfl⟩
  · exact ⟨_, _, rfl⟩
set_option maxRecDepth 100000 in
set_option maxHeartbeats 8000000 in
theorem list_dir (h : FsIn w f mb N S st clock room) (hw : Wf st clock room)
    (hL0 : (Calls Tryz.prog 39 #[.pointer (some ⟨f, 0, none⟩), .string p] w fun e w' => ∃ nb t v, e = .returned (.tuple #[.string (mk q), .pointer (some ⟨nb, 0, none⟩), .nilIface]) ∧ w'.heap[nb]? = some (.cells #[.bool true, .int .i64 t, v] 61 (0, 0)) ∧ Below w.heap.size w w')) :
    Calls Tryz.prog 48 #[.pointer (some ⟨f, 0, none⟩), .string p] w fun e w' => ∃ v, e = .returned (.tuple #[v, .int .i64 0]) ∧ LooseS w' w.heap.size v (kids st q) ∧ Below w.heap.size w w' := by
  have kh := Lib.hid h
  have kw := Lib.hid hw
  have hl : st.length ≤ 1000 := hw.len
  have hL := Lib.hid hL0
  clear h hw hL0
  go_enter Tryz.func48, Tryz.ntmps48
  go_upto_region 7 with (go_at_call 39; refine hL.out.mono ?_; rintro e w1 ⟨nb, t, v, rfl, hn, hb⟩; have kb := Lib.hid hb; obtain ⟨n0, -, -, -⟩ := cells3 hn; have hnl := heap_lt hn; clear hb hn)
  clear n0 hnl
  have kh1 := Lib.hid (kh.out.below kb.out)
  have hc0 := (cells4 kh1.out.cells).1
  obtain ⟨D, hown, hsz, hD⟩ := kh1.out.map
  have kD := Lib.hid (fun x hx => (hD x hx).2)
  have kown := Lib.hid hown
  have ksz := Lib.hid hsz
  have hfl := kh1.out.lt f kh1.out.sf
  clear hD hsz hown
  go_wp2_with (at_range; refine wpList_range_own _ rfl _ 56 rfl 9 59 lawS Tryz.underlying56 ptrElem mb (Maps.size D) D rfl kown.out ?_; intro w0 hrg0 hg0 hs0; have kI0 := Lib.hid (ListInv.start (q := q) kh1.out ksz.out hrg0 hg0); clear hrg0 hg0 hs0)
  go_frame
  go_loopw [8, 9] (fun lv _ wr => ListInv w1 f mb D N S st clock room q lv wr) (fun _ _ wr => wr.rangeLeft mb w1.heap.size)
  case atStart => exact kI0.out
  case round =>
    have kI := Lib.hid hrel
    clear hrel
    obtain ⟨left, cnt, ss, hrg, hF, hB, hC, hLo, hcnt⟩ := kI.out
    have krg := Lib.hid hrg
    have kF := Lib.hid hF
    have kB := Lib.hid hB
    have kC := Lib.hid hC
    have kL := Lib.hid hLo
    have hsl := subs_len q ss
    clear hrg hF hB hC hLo
    go_wp2_with (at_next; refine wpList_next_ranges _ rfl _ rfl 9 lawS ptrElem Go.Proofs.encStr mkP inv_str inv_ptr mb w1.heap.size (Maps.size D) D left cnt rfl krg.out ?_ ?_)
    · intro _ hl0
      have kl0 := Lib.hid hl0
      clear hl0
      have hSo := Lib.hid (sort_loose (w := w1) kL.out (Nat.le_succ _) kB.out (by omega))
      have kend := Lib.hid (list_end (q := q) kw.out kh1.out kown.out kD.out kC.out kl0.out)
      rw [kend.out] at hSo
      go_wp2_with (go_at_call 58; refine hSo.out.mono ?_; rintro e w3 ⟨rfl, hP, hb3⟩; have kP := Lib.hid hP; have kb3 := Lib.hid hb3; clear hP hb3)
      go_ret2
      exact ⟨_, rfl, kP.out.mono (by have := kb.out.size; omega), kb.out.trans (kb3.out.mono kb.out.size)⟩
    · intro x c kl yd yp w2 cnt2 hkey hlk hv hat hrg2 hlt hg2 hs2 hen
      clear hs2
      obtain ⟨x', ex, rfl, hxl⟩ := Maps.keyOf_str Tryz.underlying9 hkey
      obtain rfl : x = x' := encStr_inj ex
      have kst := Lib.hid (hC2 kC.out hlk hat)
      have krg2 := Lib.hid hrg2
      have kg2 := Lib.hid hg2
      have kL2 := Lib.hid (kL.out.grown hg2 (fun g e => by injection e with e; omega))
      have hlt2 := hlt
      have hx2 : w1.heap.size < w2.heap.size := by have := hg2.size; have := krg.out.lt; omega
      clear ex hkey hv hlk hat hrg2 hg2
      have hxs : (find st x).isSome = true := by rw [← kD.out x hxl]; exact ((kst.out.2 x).1 (by simp)).1
      obtain ⟨nd, hnd⟩ := Option.isSome_iff_exists.1 hxs
      have hxlen := (kh1.out.node x nd hnd).1
      have hP := Lib.hid (fun w => parent_calls (mk x) w (by rw [mk_size]; omega))
      have hLa := Lib.hid (fun w => last_calls (mk x) w (by rw [mk_size]; omega))
      rw [mk_list] at hP hLa
      clear hnd hxs
      by_cases he : parentP x = q
      · rw [he] at hP
        have ksub := Lib.hid (show subs q (ss ++ [x]) = subs q ss ++ [lastP x] by rw [subs_snoc, if_pos he])
        clear he
        go_wp2_with (first | (go_at_call 53; refine (hP.out _).mono ?_; rintro e w3 ⟨rfl, hb3⟩; have kb3 := Lib.hid hb3; clear hb3) | (go_at_call 66; refine (hLa.out _).mono ?_; rintro e w4 ⟨rfl, hb4⟩; have kb4 := Lib.hid hb4; have kLa := Lib.hid ((loose_below (loose_below kL2.out kb3.out) hb4).grown (row := none) (World.grownBy_alloc _ (.cells #[Go.Proofs.encStr (lastP x)] 9) _) (fun _ e => by cases e)); have hcell : (w4.alloc (.cells #[Go.Proofs.encStr (lastP x)] 9)).cell? ⟨w4.heap.size, 0, none⟩ = some (.string (mk (lastP x))) := (one_cell (heap_alloc_new _ _)).1; have kcell := Lib.hid hcell; clear hb4 hcell) | (at_builtin; refine wpList_append_loose _ rfl _ _ rfl (w1.heap.size + 1) u8 rfl (subs q ss) kLa.out ⟨w4.heap.size, 0, none⟩ 1 (mk (lastP x)) rfl kcell.out (addr_lit _ _ _) (by omega) (by have h1 := kb3.out.size; have h2 := kb4.out.size; exact Nat.le_trans (show w1.heap.size + 1 ≤ w4.heap.size by omega) (below_al (Below.refl _ _)).size) ?_; intro g cap w5 hL5 hg5 hat5; have kL5 := Lib.hid hL5; have kg5 := Lib.hid hg5; clear hL5 hg5 hat5))
        have hstep := ListInv.step kF.out kB.out kh1.out.lt (kh1.out.lt mb kh1.out.sm) krg2.out kg2.out (grown_app (w := w2) (kb3.out.trans (kb4.out.mono kb3.out.size)) kg5.out) (fun g e => (kL.out.lt g e).1) kst.out (by rw [ksub.out]; have := kL5.out; rwa [mk_list] at this) (by simp; omega)
        exact ⟨hstep.1, by rw [hstep.2, krg.out.left_eq]; exact hlt2⟩
      · have hne := mk_ne he
        have ksub := Lib.hid (show subs q (ss ++ [x]) = subs q ss by rw [subs_snoc, if_neg he])
        clear he
        go_wp2_with (go_at_call 53; refine (hP.out _).mono ?_; rintro e w3 ⟨rfl, hb3⟩; have kb3 := Lib.hid hb3; clear hb3)
        have hstep := ListInv.step kF.out kB.out kh1.out.lt (kh1.out.lt mb kh1.out.sm) krg2.out kg2.out (below_grown kb3.out) (fun g e => by cases e) kst.out (by rw [ksub.out]; exact loose_below kL2.out kb3.out) (by simp; omega)
        exact ⟨hstep.1, by rw [hstep.2, krg.out.left_eq]; exact hlt2⟩
set_option maxRecDepth 100000 in
set_option maxHeartbeats 4000000 in
theorem list_calls (h : FsIn w f mb N S st clock room) (hw : Wf st clock room) (hp : p.size ≤ 2147483647) (hq : clean p.data.toList = q) (hlw : Laid w) :
    Calls Tryz.prog 48 #[.pointer (some ⟨f, 0, none⟩), .string p] w fun e w' => ∃ v, e = .returned (.tuple #[v, .int .i64 (listP st q).2]) ∧ LooseS w' w.heap.size v (listP st q).1 ∧ Below w.heap.size w w' := by
  have kbad : ∀ e0, (lookQ st q = .err e0 ∨ lookQ st q = .none ∧ e0 = 10) → listP st q = ([], e0) → Calls Tryz.prog 48 #[.pointer (some ⟨f, 0, none⟩), .string p] w fun e w' => ∃ v, e = .returned (.tuple #[v, .int .i64 (listP st q).2]) ∧ LooseS w' w.heap.size v (listP st q).1 ∧ Below w.heap.size w w' := fun e0 hr hf => by
    have hL := Lib.hid (there_err w h hp hq hr)
    have klw := Lib.hid hlw
    have hl0 := hlw.lt
    have kf := Lib.hid hf
    generalize hQ : mk q = Q at *
    clear h hw hlw hq hr hf hQ
    go_enter Tryz.func48, Tryz.ntmps48
    go_wp2_with (first | (go_at_call 39; refine hL.out.mono ?_; rintro e w1 ⟨rfl, hb⟩; have kb := Lib.hid hb; clear hb) | (go_at_call 35; refine (number_calls Q e0 _ (klw.out.below hl0 (kb.out.mono (by omega)))).mono ?_; rintro e w2 ⟨rfl, hb⟩; have kb2 := Lib.hid hb; clear hb))
    go_ret2
    exact ⟨.slice none 0 0, by rw [kf.out]; rfl, by rw [kf.out]; exact LooseS.nil _ _, kb.out.trans (kb2.out.mono kb.out.size)⟩
  cases hr : lookQ st q with
  | err e0 => exact kbad e0 (Or.inl hr) (by unfold listP; rw [hr])
  | none => exact kbad 10 (Or.inr ⟨hr, rfl⟩) (by unfold listP; rw [hr])
  | root =>
    rw [show listP st q = (kids st q, 0) by unfold listP; rw [hr]]
    exact list_dir h hw ((there_root w h hp hq hr).mono (by rintro e w' ⟨g, rfl, ⟨-, h2⟩, hb⟩; exact ⟨g, 0, _, rfl, h2, hb⟩))
  | node n =>
    obtain ⟨nv, hnb, hnv⟩ := (h.node q n (lookQ_find.2 n hr)).2.2
    cases hd : n.dir with
    | true =>
      rw [hd] at hnb
      rw [show listP st q = (kids st q, 0) by unfold listP; rw [hr]; simp [hd]]
      exact list_dir h hw ((there_node w h hp hq hr).mono (by rintro e w' ⟨rfl, hb⟩; exact ⟨_, _, _, rfl, (hb.block _ (heap_lt hnb)).trans hnb, hb⟩))
    | false =>
      rw [hd] at hnb
      have hL := Lib.hid (there_node w h hp hq hr)
      have knb := Lib.hid hnb
      have kf := Lib.hid (show listP st q = ([], 11) by unfold listP; rw [hr]; simp [hd])
      clear kbad h hw hlw hq hr hnb hnv hd
      go_enter Tryz.func48, Tryz.ntmps48
      go_wp2_with (first | (go_at_call 39; refine hL.out.mono ?_; rintro e w1 ⟨rfl, hb⟩; have kb := Lib.hid hb; have hnb1 := (hb.block _ (heap_lt knb.out)).trans knb.out; obtain ⟨n0, n1, n2, -⟩ := cells3 hnb1; have hnl := heap_lt hnb1; clear hb hnb1))
      go_ret2
      exact ⟨.slice none 0 0, by rw [kf.out]; rfl, by rw [kf.out]; exact LooseS.nil _ _, kb.out⟩
end
end Go.Proofs.YtejofgdglpmlkaaGreatDoor
