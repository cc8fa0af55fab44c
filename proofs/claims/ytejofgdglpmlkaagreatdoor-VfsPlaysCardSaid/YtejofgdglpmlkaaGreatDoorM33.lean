/-
  The reference's Sort of a list that rises. Conditions: at most 2^20 texts.
  The reference's List at every path. Conditions: a tree that is right, texts of at most 2^31 bytes.
-/
import Derived.Test.YtejofgdglpmlkaaGreatDoorM29
import Derived.Test.YtejofgdglpmlkaaGreatDoorM14
import Derived.Test.YtejofgdglpmlkaaGreatDoorM32
import Derived.Laws.IdiomCopy
import Derived.Test.YtejofgdglpmlkaaGreatDoorM28
namespace Go.Proofs.YtejofgdglpmlkaaGreatDoor
open Go.RowKit

theorem loose_set {w : World} {B g cap n m : Nat} {l : List Bs} {y x : Bs} (hn : l.length = n) (h : LooseS w B (.slice (some ⟨g, 0, none⟩) m cap) (l ++ [y])) : LooseS (w.setCell ⟨g, n, none⟩ (.string (mk x))) B (.slice (some ⟨g, 0, none⟩) m cap) (l ++ [x]) := by
  subst hn
  rcases h with ⟨e, _⟩ | ⟨g', cap', cur, e, hb, hg, hn, hm, hcs, ht⟩
  · cases e
  · injection e with e1 e2 e3
    injection e1 with e1; injection e1 with e1
    subst e1 e2 e3
    refine Or.inr ⟨g, cap, cur.setIfInBounds l.length (.string (mk x)), by simp, hb, set_heap hg _ _, by simpa using hn, hm, by simpa using hcs, ?_⟩
    rw [Array.toList_setIfInBounds, show (l ++ [x]).length = (l ++ [y]).length by simp, List.take_set, ht]
    simp [bcells]
theorem loose_caps {w : World} {B n c : Nat} {a : Option Addr} {l : List Bs} (h : LooseS w B (.slice a n c) l) : (n : Int) ≤ (c : Int) ∧ (c : Int) ≤ 9223372036854775807 := by
  rcases h with ⟨e, _⟩ | ⟨g', cap', cur, e, hb, hg, hn, hm, hcs, ht⟩
  · injection e with e1 e2 e3; omega
  · injection e with e1 e2 e3; unfold maxLen at hm; omega
theorem loose_frozen {w : World} {B g n c : Nat} {l : List Bs} (h : LooseS w B (.slice (some ⟨g, 0, none⟩) n c) l) (o : Nat) : w.frozen? ⟨g, o, none⟩ = false := by
  rcases h with ⟨e, _⟩ | ⟨g', cap', cur, e, hb, hg, hn, hm, hcs, ht⟩
  · cases e
  · injection e with e1 e2 e3
    injection e1 with e1; injection e1 with e1
    subst e1
    simp [World.frozen?, hg]
section
variable {w : World} {B : Nat} {v : Value} {l : List Bs}
set_option maxRecDepth 100000 in
set_option maxHeartbeats 8000000 in
theorem refSort_calls (h : LooseS w B v l) (hr : l.Pairwise (· < ·)) (hl : l.length ≤ 1048576) :
    Calls Tryz.prog 68 #[v] w fun e w' => ∃ v', e = .returned v' ∧ LooseS w' w.heap.size v' l ∧ Below w.heap.size w w' := by
  obtain ⟨va, vc, hvf⟩ := names_cells h
  subst hvf
  have kh := Lib.hid h
  have kr := Lib.hid hr
  clear h hr
  go_enter Tryz.func68, Tryz.ntmps68
  go_wp2
  go_loopw [3, 4, 5, 6, 7] (fun ov iv _ _ _ wr => ∃ i : Nat, i ≤ l.length ∧ iv = .int .i64 i ∧ LooseS wr w.heap.size ov (l.take i) ∧ Below w.heap.size w wr) (fun _ iv _ _ _ _ => l.length - (intOf iv).toNat)
  case atStart => exact ⟨0, Nat.zero_le _, rfl, LooseS.nil _ _, Below.refl _ _⟩
  case round =>
    obtain ⟨i, hi, rfl, hO, hB⟩ := hrel
    obtain ⟨oa, oc, hof⟩ := names_cells hO
    have hti : (l.take i).length = i := by rw [List.length_take]; omega
    rw [hti] at hof
    subst hof
    have kO := Lib.hid hO
    have kB := Lib.hid hB
    have kti := Lib.hid hti
    clear hO hB hti
    by_cases hlt : i < l.length
    · obtain ⟨x, hx⟩ : ∃ x, l[i]? = some x := ⟨_, List.getElem?_eq_getElem hlt⟩
      have kx := Lib.hid hx
      obtain ⟨g, cap, e, -, hgl, hgc⟩ := (loose_below kh.out kB.out).cells hx
      injection e with e1 e2 e3
      subst e1 e3
      have kgc := Lib.hid hgc
      clear hx e2
      go_wp2
      go_loopw [5, 6, 7] (fun av bv _ wr2 => ∃ a : Nat, a ≤ i ∧ av = .int .i64 a ∧ bv = .int .i64 i ∧ ∃ n, wr2 = wr.drewN n) (fun av _ _ _ => i - (intOf av).toNat)
      case atStart => exact ⟨0, Nat.zero_le _, rfl, rfl, 0, rfl⟩
      case round =>
        obtain ⟨a, ha, rfl, rfl, n2, rfl⟩ := hrel
        by_cases hai : a < i
        · have hhalf := half (a := a) (b := i)
          obtain ⟨m, hm⟩ : ∃ m, m = (a + i) / 2 := ⟨_, rfl⟩
          have hm1 : a ≤ m := by omega
          have hm2 : m < i := by omega
          rw [← hm] at hhalf
          clear hm
          obtain ⟨y, hy⟩ : ∃ y, l[m]? = some y := ⟨_, List.getElem?_eq_getElem (by omega)⟩
          obtain ⟨go, co, e, -, hgl2, hgc2⟩ := kO.out.cells (k := m) (x := y) (by rw [List.getElem?_take_of_lt hm2]; exact hy)
          injection e with e1 e2 e3
          subst e1 e3
          have hyx : y < x := by
            obtain ⟨h1, h2⟩ := List.getElem?_eq_some_iff.1 hy
            obtain ⟨h3, h4⟩ := List.getElem?_eq_some_iff.1 kx.out
            rw [← h2, ← h4]
            exact (List.pairwise_iff_getElem.1 kr.out) m i h1 h3 hm2
          have hq := less_mk hyx
          have hgc1 := kgc.out
          have z1 : (m : Int) < (i : Int) := by omega
          have z2 : (i : Int) < (l.length : Int) := by omega
          have z3 : (a : Int) < (i : Int) := by omega
          have z4 : (0 : Int) ≤ (m : Int) := by omega
          clear hy hyx e2
          go_wp2_with fail
          go_quiet (fail)
          go_wp2
          go_roundw
          case rel => exact ⟨m + 1, by omega, by go_num, rfl, _, rfl⟩
          case measure => simp [intOf]; omega
        · obtain rfl : a = i := by omega
          have z2 : (a : Int) < (l.length : Int) := by omega
          have z3 : ¬ (a : Int) < (a : Int) := by omega
          have hd3 : decide ((a : Int) < (a : Int)) = false := decide_eq_false z3
          go_wp2_with fail
          go_quiet (fail)
          have kD := Lib.hid (below_drewN' (below_drewN' (Below.refl wr.heap.size wr) n2) nq)
          generalize (wr.drewN n2).drewN nq = W at *
          have kO2 := Lib.hid (loose_below kO.out kD.out)
          have kB2 := Lib.hid (kB.out.trans (kD.out.mono kB.out.size))
          have kLa := Lib.hid (kO2.out.grown (row := none) (World.grownBy_alloc W (.cells #[.string ⟨#[]⟩] 9) _) (fun _ e => by cases e))
          have hcell : (W.alloc (.cells #[.string ⟨#[]⟩] 9)).cell? ⟨W.heap.size, 0, none⟩ = some (.string ⟨#[]⟩) := (one_cell (heap_alloc_new _ _)).1
          have kcell := Lib.hid hcell
          obtain ⟨a1, ha1⟩ : ∃ a1, a + 1 = a1 := ⟨_, rfl⟩
          have hwa : IntKind.i64.wrap ((a : Int) + 1) = (a1 : Int) := by rw [IntWalk.i64_in _ (by omega)]; omega
          have z5 : (0 : Int) ≤ (a1 : Int) := by omega
          have ka1 := Lib.hid ha1
          clear hcell hgc ha1 hgl
          go_upto_region 14 with (at_builtin; go_loud (refine wpList_append_loose _ rfl _ _ rfl w.heap.size (.slice oa a oc) rfl (l.take a) kLa.out ⟨W.heap.size, 0, none⟩ 1 ⟨#[]⟩ rfl kcell.out (addr_lit _ _ _) (by rw [kti.out]; omega) (Nat.le_trans kB2.out.size (below_al (Below.refl _ _)).size) ?_; intro g5 cap5 w5 hL5 hg5 hat5; rw [kti.out, ka1.out] at hL5 ⊢; have kL5 := Lib.hid hL5; have kB5 := Lib.hid (lent_row kB2.out kB2.out.size hg5 (fun g e => (kO2.out.lt g e).1)); clear hL5 hg5 hat5))
          obtain ⟨c1, c2⟩ := loose_caps kL5.out
          have z7 : (0 : Int) ≤ (a : Int) := by omega
          have z8 : (a : Int) ≤ (a1 : Int) := by have := ka1.out; omega
          have z9 : (a : Int) < (a1 : Int) := by have := ka1.out; omega
          have hz5 : Go.Value.ownBlock (.slice (some ⟨g5, 0, none⟩) a1 cap5) = some g5 := rfl
          obtain ⟨ha5, hg5l⟩ := kL5.out.lt g5 rfl
          clear hz5
          have hcp := fun (d e : Option Addr) (dc sl sc : Nat) => run_copy_none (P := Tryz.prog) w5.drew 67 67 3 9 d e 0 dc sl sc Tryz.underlying67 (by kernel_rfl) (Nat.min_zero sl)
          go_region
          obtain ⟨g', cap', e, -, hgl3, hgc3⟩ := (loose_below kh.out kB5.out).cells kx.out
          injection e with e1 e2 e3
          injection e1 with e1; injection e1 with e1
          subst e1 e3
          obtain ⟨g6, cap6, e, -, -, hc5⟩ := kL5.out.cells (k := a) (x := []) (by rw [List.getElem?_append_right (by rw [kti.out]; exact Nat.le_refl _), kti.out, Nat.sub_self]; rfl)
          injection e with e1 e4 e3
          injection e1 with e1; injection e1 with e1
          subst e1 e3
          have hf5 := loose_frozen kL5.out a
          have kL6 := Lib.hid (loose_set (x := x) kti.out (loose_below kL5.out (below_drewN' (Below.refl w5.heap.size w5) 1)))
          have kB6 := Lib.hid (((below_drewN' kB5.out 1)).setCell (p := ⟨g5, a, none⟩) ha5 (.string (mk x)))
          clear e2 e4 hcp
          go_wp2_with fail
          refine ⟨⟨a1, by have := ka1.out; omega, rfl, ?_, kB6.out⟩, by simp [intOf]; have := ka1.out; omega⟩
          have h6 := kL6.out
          rw [show l.take a ++ [x] = l.take a1 by rw [← ka1.out, List.take_add_one, kx.out]; rfl] at h6
          exact h6
    · have z1 : ¬ (i : Int) < (l.length : Int) := by omega
      have hil : i = l.length := by omega
      have kO3 := Lib.hid (show LooseS wr w.heap.size (.slice oa i oc) l by have := kO.out; rwa [hil, List.take_length, ← hil] at this)
      clear hil
      go_wp2_with fail
      go_ret
      exact ⟨_, rfl, kO3.out, kB.out⟩
end
end Go.Proofs.YtejofgdglpmlkaaGreatDoor
namespace Go.Proofs.YtejofgdglpmlkaaGreatDoor
open Go.RowKit

section
variable {w w' w1 : World} {fb : Nat} {fv fv' : Value} {L L' : List NV} {R R' Tb : Nat → Prop} {l l' : St} {clock clock' room : Int} {p p2 : ByteArray} {q q2 : Bs} {n : PN}
theorem take_paths {i : Nat} {y : Bs × PN} (h : l[i]? = some y) : (l.map Prod.fst).take (i + 1) = (l.map Prod.fst).take i ++ [y.1] := by
  rw [List.take_add_one, List.getElem?_map, h]; rfl
set_option maxRecDepth 100000 in
set_option maxHeartbeats 16000000 in
theorem refList_calls (h : RefIn w fb fv L R l clock room) (hw : Wf l clock room) (hp : p.size ≤ 2147483647) (hq : clean p.data.toList = q) :
    Calls Tryz.prog 49 #[.pointer (some ⟨fb, 0, none⟩), .string p] w fun e w' => ∃ v, e = .returned (.tuple #[v, .int .i64 (listP l q).2]) ∧ LooseS w' w.heap.size v (listP l q).1 ∧ Below w.heap.size w w' := by
  have kl := Lib.hid (reflook_calls h hw.rising hw.len p hp)
  rw [hq] at kl
  clear hq
  have kw := Lib.hid hw
  have hll := hw.len
  cases hr2 : lookQ l q with
  | err c =>
    have kr := Lib.hid hr2
    have kf := Lib.hid (show listP l q = ([], c) by unfold listP; rw [hr2])
    clear h hw hr2
    go_enter Tryz.func49, Tryz.ntmps49
    go_wp2_with (go_at_call 63; refine (kl.out).mono ?_; rintro e w1 ⟨k, y, rfl, hl, hb⟩; have kb := Lib.hid hb; obtain ⟨rfl, rfl, hc⟩ := rlook_err kr.out hl; obtain ⟨hc0, hc1⟩ := err_nz hc; clear hl hb)
    go_ret2
    exact ⟨.slice none 0 0, by rw [kf.out]; rfl, by rw [kf.out]; exact LooseS.nil _ _, kb.out⟩
  | none =>
    have kr := Lib.hid hr2
    have kf := Lib.hid (show listP l q = ([], 10) by unfold listP; rw [hr2])
    clear h hw hr2
    go_enter Tryz.func49, Tryz.ntmps49
    go_wp2_with (go_at_call 63; refine (kl.out).mono ?_; rintro e w1 ⟨k, y, rfl, hl, hb⟩; have kb := Lib.hid hb; obtain ⟨rfl, rfl⟩ := rlook_none kr.out hl; clear hl hb)
    go_ret2
    exact ⟨.slice none 0 0, by rw [kf.out]; rfl, by rw [kf.out]; exact LooseS.nil _ _, kb.out⟩
  | root =>
    obtain ⟨fa, fc, hfv⟩ := h.form
    subst hfv
    have kh := Lib.hid h
    have kr := Lib.hid hr2
    have kf := Lib.hid (show listP l q = (kids l q, 0) by unfold listP; rw [hr2])
    clear h hw hr2
    go_enter Tryz.func49, Tryz.ntmps49
    go_wp2_with (go_at_call 63; refine (kl.out).mono ?_; rintro e w1 ⟨k, y, rfl, hl, hb⟩; have kb := Lib.hid hb; obtain ⟨rfl, rfl⟩ := rlook_root kr.out hl; clear hl hb)
    have kh1 := Lib.hid (kh.out.below kb.out)
    go_loopw [9, 10] (fun ov iv wr => ∃ i : Nat, i ≤ l.length ∧ iv = .int .i64 i ∧ LooseS wr w1.heap.size ov (subs q ((l.map Prod.fst).take i)) ∧ Below w1.heap.size w1 wr) (fun _ iv _ => l.length - (intOf iv).toNat)
    case atStart => exact ⟨0, Nat.zero_le _, rfl, LooseS.nil _ _, Below.refl _ _⟩
    case round =>
      obtain ⟨i, hi, rfl, hO, hB⟩ := hrel
      obtain ⟨oa, oc, hof⟩ := names_cells hO
      subst hof
      have kO := Lib.hid hO
      have kB := Lib.hid hB
      have hbw := kb.out.size
      have hBw := kB.out.size
      have hsl := subs_len q ((l.map Prod.fst).take i)
      rw [List.length_take, List.length_map] at hsl
      have kh2 := Lib.hid (kh1.out.below kB.out)
      obtain ⟨f0, f1, f2, -⟩ := cells3 kh2.out.hc
      have hfl := heap_lt kh2.out.hc
      clear hO hB
      by_cases hlt : i < l.length
      · obtain ⟨y, hy⟩ : ∃ y, l[i]? = some y := ⟨_, List.getElem?_eq_getElem hlt⟩
        have ky := Lib.hid hy
        obtain ⟨bb, off, dv, hta, -, hbl, hd0, -, -, -, -⟩ := kh2.out.tree.at hy
        subst hta
        have hvl := valid_len (kw.out.node y.1 y.2 (kw.out.mem (List.mem_of_getElem? hy))).1
        have hP := Lib.hid (fun w => refParent_calls (mk y.1) w (by rw [mk_size]; omega))
        have hT := Lib.hid (fun w => refTail_calls (mk y.1) w (by rw [mk_size]; omega))
        rw [mk_list] at hP hT
        have z1 : (i : Int) < (l.length : Int) := by omega
        have z2 : (0 : Int) ≤ (i : Int) := by omega
        clear hy
        by_cases he : parentP y.1 = q
        · have ksub := Lib.hid (show subs q ((l.map Prod.fst).take (i + 1)) = subs q ((l.map Prod.fst).take i) ++ [lastP y.1] by rw [take_paths ky.out, subs_snoc, if_pos he])
          rw [he] at hP
          clear he
          go_wp2_with (first | (go_at_call 30; refine (hP.out _).mono ?_; rintro e w3 ⟨rfl, hb3⟩; have kb3 := Lib.hid hb3; have kh3 := Lib.hid (kh2.out.below hb3); clear f0 f1 f2 hfl hd0 hbl hb3; obtain ⟨f0, f1, f2, -⟩ := cells3 kh3.out.hc; have hfl := heap_lt kh3.out.hc; obtain ⟨bb', off', dv', hta, -, hbl, hd0, -, -, -, -⟩ := kh3.out.tree.at ky.out; injection hta with e1; injection e1 with e1 e4; subst e1 e4; try rw [Nat.zero_add] at hd0) | (go_at_call 67; refine (hT.out _).mono ?_; rintro e w4 ⟨rfl, hb4⟩; have kb4 := Lib.hid hb4; have kLa := Lib.hid ((loose_below (loose_below kO.out kb3.out) hb4).grown (row := none) (World.grownBy_alloc _ (.cells #[Go.Proofs.encStr (lastP y.1)] 9) _) (fun _ e => by cases e)); have hcell : (w4.alloc (.cells #[Go.Proofs.encStr (lastP y.1)] 9)).cell? ⟨w4.heap.size, 0, none⟩ = some (.string (mk (lastP y.1))) := (one_cell (heap_alloc_new _ _)).1; have kcell := Lib.hid hcell; have hz4 := hb4.size; have hz3 := kb3.out.size; clear hb4 hcell) | (at_builtin; go_loud (refine wpList_append_loose _ rfl _ _ rfl w1.heap.size (.slice oa (subs q ((l.map Prod.fst).take i)).length oc) rfl (subs q ((l.map Prod.fst).take i)) kLa.out ⟨w4.heap.size, 0, none⟩ 1 (mk (lastP y.1)) rfl kcell.out (addr_lit _ _ _) (by omega) (Nat.le_trans (show w1.heap.size ≤ w4.heap.size by omega) (below_al (Below.refl _ _)).size) ?_; intro g5 cap5 w5 hL5 hg5 hat5; have kL5 := Lib.hid hL5; have kg5 := Lib.hid hg5; clear hL5 hg5 hat5)))
          have hB5 : Below w1.heap.size w1 w5 := lent_row (kB.out.trans ((kb3.out.trans (kb4.out.mono kb3.out.size)).mono kB.out.size)) (by omega) kg5.out (fun g e => (kO.out.lt g e).1)
          refine ⟨⟨i + 1, by omega, by go_num, by rw [ksub.out]; have := kL5.out; rwa [mk_list] at this, hB5⟩, by simp [intOf]; omega⟩
        · have hne := mk_ne he
          have ksub := Lib.hid (show subs q ((l.map Prod.fst).take (i + 1)) = subs q ((l.map Prod.fst).take i) by rw [take_paths ky.out, subs_snoc, if_neg he])
          clear he
          go_wp2_with (go_at_call 30; refine (hP.out _).mono ?_; rintro e w3 ⟨rfl, hb3⟩; have kb3 := Lib.hid hb3; clear hb3)
          refine ⟨⟨i + 1, by omega, by go_num, by rw [ksub.out]; exact loose_below kO.out kb3.out, kB.out.trans (kb3.out.mono kB.out.size)⟩, by simp [intOf]; omega⟩
      · have z1 : ¬ (i : Int) < (l.length : Int) := by omega
        have hkd : subs q ((l.map Prod.fst).take i) = kids l q := by rw [List.take_of_length_le (by rw [List.length_map]; omega)]; rfl
        rw [hkd] at kO hsl
        have hS := Lib.hid (refSort_calls kO.out (kids_rising kw.out q) (by omega))
        rw [hkd]
        go_wp2_with (go_at_call 68; refine (hS.out).mono ?_; rintro e w3 ⟨v3, rfl, hl3, hb3⟩; have kl3 := Lib.hid hl3; have kb3 := Lib.hid hb3; clear hl3 hb3)
        go_ret2
        exact ⟨_, by rw [kf.out]; rfl, by rw [kf.out]; exact kl3.out.mono (by omega), (kb.out.trans (kB.out.mono kb.out.size)).trans (kb3.out.mono (by omega))⟩

  | node n =>
    have kr := Lib.hid hr2
    obtain ⟨j, hj, hj0, hj1⟩ := find_get (lookQ_find.2 n hr2)
    obtain ⟨g, c, x, rfl, hx, hxn, -⟩ := h.node hj
    obtain ⟨y1, ⟨yd, yt, ydat⟩, y3⟩ := x
    obtain ⟨rfl, rfl⟩ : y1 = q ∧ n = ⟨yd, yt, ydat⟩ := by injection hxn with e1 e2; exact ⟨e1, e2.symm⟩
    have kj := Lib.hid hj
    have kx := Lib.hid hx
    have hj2 := nat_ne2 j
    have hjm := nat_ne1 j
    have hj3 : ¬ ((j : Int) < 0) := by omega
    have hj4 : (0 : Int) ≤ (j : Int) := by omega
    have kh := Lib.hid h
    cases yd with
    | false =>
      have kf := Lib.hid (show listP l y1 = ([], 11) by unfold listP; rw [hr2]; rfl)
      clear h hw hr2 hj hx hxn
      go_enter Tryz.func49, Tryz.ntmps49
      go_wp2_with (go_at_call 63; refine (kl.out).mono ?_; rintro e w1 ⟨k, y, rfl, hl, hb⟩; have kb := Lib.hid hb; obtain ⟨j', rfl, rfl, hj', -, -⟩ := rlook_node kr.out hl; obtain rfl := st_index kw.out.rising kj.out hj'; clear hj'; have kh1 := Lib.hid (kh.out.below kb.out); obtain ⟨f0, f1, f2, ff⟩ := cells3 kh1.out.hc; have hfl := heap_lt kh1.out.hc; obtain ⟨g', c', x', e, hx', -, hgl, -, hgc⟩ := kh1.out.node kj.out; injection e with e1 e2 e3; injection e1 with e1; injection e1 with e1; subst e1 e3; rw [kx.out] at hx'; injection hx' with hx'; subst hx'; have hgc1 := hgc 1 _ (by omega) rfl; clear hl hb)
      go_ret2
      exact ⟨.slice none 0 0, by rw [kf.out]; rfl, by rw [kf.out]; exact LooseS.nil _ _, kb.out⟩
    | true =>
      have kf := Lib.hid (show listP l y1 = (kids l y1, 0) by unfold listP; rw [hr2]; rfl)
      clear h hw hr2 hj hx hxn
      go_enter Tryz.func49, Tryz.ntmps49
      go_wp2_with (go_at_call 63; refine (kl.out).mono ?_; rintro e w1 ⟨k, y, rfl, hl, hb⟩; have kb := Lib.hid hb; obtain ⟨j', rfl, rfl, hj', -, -⟩ := rlook_node kr.out hl; obtain rfl := st_index kw.out.rising kj.out hj'; clear hj'; have kh1 := Lib.hid (kh.out.below kb.out); obtain ⟨f0, f1, f2, ff⟩ := cells3 kh1.out.hc; have hfl := heap_lt kh1.out.hc; obtain ⟨g', c', x', e, hx', -, hgl, -, hgc⟩ := kh1.out.node kj.out; injection e with e1 e2 e3; injection e1 with e1; injection e1 with e1; subst e1 e3; rw [kx.out] at hx'; injection hx' with hx'; subst hx'; have hgc1 := hgc 1 _ (by omega) rfl; clear hl hb)
      clear f0 f1 f2 ff hfl hgc hgc1 hgl
      have kh1 := Lib.hid (kh.out.below kb.out)
      go_loopw [9, 10] (fun ov iv wr => ∃ i : Nat, i ≤ l.length ∧ iv = .int .i64 i ∧ LooseS wr w1.heap.size ov (subs y1 ((l.map Prod.fst).take i)) ∧ Below w1.heap.size w1 wr) (fun _ iv _ => l.length - (intOf iv).toNat)
      case atStart => exact ⟨0, Nat.zero_le _, rfl, LooseS.nil _ _, Below.refl _ _⟩
      case round =>
        obtain ⟨i, hi, rfl, hO, hB⟩ := hrel
        obtain ⟨oa, oc, hof⟩ := names_cells hO
        subst hof
        have kO := Lib.hid hO
        have kB := Lib.hid hB
        have hbw := kb.out.size
        have hBw := kB.out.size
        have hsl := subs_len y1 ((l.map Prod.fst).take i)
        rw [List.length_take, List.length_map] at hsl
        have kh2 := Lib.hid (kh1.out.below kB.out)
        obtain ⟨f0, f1, f2, -⟩ := cells3 kh2.out.hc
        have hfl := heap_lt kh2.out.hc
        clear hO hB
        by_cases hlt : i < l.length
        · obtain ⟨y, hy⟩ : ∃ y, l[i]? = some y := ⟨_, List.getElem?_eq_getElem hlt⟩
          have ky := Lib.hid hy
          obtain ⟨bb, off, dv, hta, -, hbl, hd0, -, -, -, -⟩ := kh2.out.tree.at hy
          injection hta with e1; injection e1 with e1 e4; subst e1 e4; rw [Nat.zero_add] at hd0
          have hvl := valid_len (kw.out.node y.1 y.2 (kw.out.mem (List.mem_of_getElem? hy))).1
          have hP := Lib.hid (fun w => refParent_calls (mk y.1) w (by rw [mk_size]; omega))
          have hT := Lib.hid (fun w => refTail_calls (mk y.1) w (by rw [mk_size]; omega))
          rw [mk_list] at hP hT
          have z1 : (i : Int) < (l.length : Int) := by omega
          have z2 : (0 : Int) ≤ (i : Int) := by omega
          clear hy
          by_cases he : parentP y.1 = y1
          · have ksub := Lib.hid (show subs y1 ((l.map Prod.fst).take (i + 1)) = subs y1 ((l.map Prod.fst).take i) ++ [lastP y.1] by rw [take_paths ky.out, subs_snoc, if_pos he])
            rw [he] at hP
            clear he
            go_wp2_with (first | (go_at_call 30; refine (hP.out _).mono ?_; rintro e w3 ⟨rfl, hb3⟩; have kb3 := Lib.hid hb3; have kh3 := Lib.hid (kh2.out.below hb3); clear f0 f1 f2 hfl hd0 hbl hb3; obtain ⟨f0, f1, f2, -⟩ := cells3 kh3.out.hc; have hfl := heap_lt kh3.out.hc; obtain ⟨bb', off', dv', hta, -, hbl, hd0, -, -, -, -⟩ := kh3.out.tree.at ky.out; injection hta with e1; injection e1 with e1 e4; subst e1 e4; try rw [Nat.zero_add] at hd0) | (go_at_call 67; refine (hT.out _).mono ?_; rintro e w4 ⟨rfl, hb4⟩; have kb4 := Lib.hid hb4; have kLa := Lib.hid ((loose_below (loose_below kO.out kb3.out) hb4).grown (row := none) (World.grownBy_alloc _ (.cells #[Go.Proofs.encStr (lastP y.1)] 9) _) (fun _ e => by cases e)); have hcell : (w4.alloc (.cells #[Go.Proofs.encStr (lastP y.1)] 9)).cell? ⟨w4.heap.size, 0, none⟩ = some (.string (mk (lastP y.1))) := (one_cell (heap_alloc_new _ _)).1; have kcell := Lib.hid hcell; have hz4 := hb4.size; have hz3 := kb3.out.size; clear hb4 hcell) | (at_builtin; go_loud (refine wpList_append_loose _ rfl _ _ rfl w1.heap.size (.slice oa (subs y1 ((l.map Prod.fst).take i)).length oc) rfl (subs y1 ((l.map Prod.fst).take i)) kLa.out ⟨w4.heap.size, 0, none⟩ 1 (mk (lastP y.1)) rfl kcell.out (addr_lit _ _ _) (by omega) (Nat.le_trans (show w1.heap.size ≤ w4.heap.size by omega) (below_al (Below.refl _ _)).size) ?_; intro g5 cap5 w5 hL5 hg5 hat5; have kL5 := Lib.hid hL5; have kg5 := Lib.hid hg5; clear hL5 hg5 hat5)))
            have hB5 : Below w1.heap.size w1 w5 := lent_row (kB.out.trans ((kb3.out.trans (kb4.out.mono kb3.out.size)).mono kB.out.size)) (by omega) kg5.out (fun g e => (kO.out.lt g e).1)
            refine ⟨⟨i + 1, by omega, by go_num, by rw [ksub.out]; have := kL5.out; rwa [mk_list] at this, hB5⟩, by simp [intOf]; omega⟩
          · have hne := mk_ne he
            have ksub := Lib.hid (show subs y1 ((l.map Prod.fst).take (i + 1)) = subs y1 ((l.map Prod.fst).take i) by rw [take_paths ky.out, subs_snoc, if_neg he])
            clear he
            go_wp2_with (go_at_call 30; refine (hP.out _).mono ?_; rintro e w3 ⟨rfl, hb3⟩; have kb3 := Lib.hid hb3; clear hb3)
            refine ⟨⟨i + 1, by omega, by go_num, by rw [ksub.out]; exact loose_below kO.out kb3.out, kB.out.trans (kb3.out.mono kB.out.size)⟩, by simp [intOf]; omega⟩
        · have z1 : ¬ (i : Int) < (l.length : Int) := by omega
          have hkd : subs y1 ((l.map Prod.fst).take i) = kids l y1 := by rw [List.take_of_length_le (by rw [List.length_map]; omega)]; rfl
          rw [hkd] at kO hsl
          have hS := Lib.hid (refSort_calls kO.out (kids_rising kw.out y1) (by omega))
          rw [hkd]
          go_wp2_with (go_at_call 68; refine (hS.out).mono ?_; rintro e w3 ⟨v3, rfl, hl3, hb3⟩; have kl3 := Lib.hid hl3; have kb3 := Lib.hid hb3; clear hl3 hb3)
          go_ret2
          exact ⟨_, by rw [kf.out]; rfl, by rw [kf.out]; exact kl3.out.mono (by omega), (kb.out.trans (kB.out.mono kb.out.size)).trans (kb3.out.mono (by omega))⟩

end
end Go.Proofs.YtejofgdglpmlkaaGreatDoor
