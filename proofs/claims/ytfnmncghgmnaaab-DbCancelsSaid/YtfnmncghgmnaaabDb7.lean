/-
  The suffixes of a list of rules (21). Conditions: lists of at most a million strings.
-/
import Derived.Test.YtfnmncghgmnaaabDb6
namespace Go.Proofs.Ytfnmncghgmnaaab
open Go.RowKit

set_option maxHeartbeats 1000000 in
theorem suffixes_calls (v : Value) (xs : List Pl) (plain : Bool) (w : World) (h : RulesAt w v xs) (hs : preW (xs.map Pl.r) ≤ 1000000) :
    Calls Try.prog 21 #[v, .bool plain] w fun e w' => ∃ v', e = .returned v' ∧ w'.ownsRow w.heap.size 9 1 v' (sufs plain (xs.map Pl.r)).length (scells (sufs plain (xs.map Pl.r))) ∧ Below w.heap.size w w' := by
  obtain ⟨i0, hi, hz0, hz1, hz2⟩ := info_parts info9
  obtain ⟨⟨a, n, c, rfl, hn0, hc, hm, hrow0, _⟩, hat0⟩ := h
  unfold maxLen at hm
  have hrow := Lib.hid hrow0
  have hat := Lib.hid hat0
  have hn := Lib.hid hn0
  clear hrow0 hat0 hn0
  have hlen := Lib.hid (sufs_len plain (xs.map Pl.r))
  have hpw : ∀ (k : Nat) (x : Pl), xs[k]? = some x → x.r.prereqs.length ≤ 1000000 := fun k x hx => Nat.le_trans (preW_mem (List.mem_map_of_mem (List.mem_of_getElem? hx))) hs
  have hall : (xs.map Pl.r).take n = xs.map Pl.r := List.take_of_length_le (by rw [hn.out]; simp)
  have hall' := Lib.hid hall
  clear hall
  go_enter Try.func21, Try.ntmps21
  cases plain
  · go_wp2_with fail
    go_loopw [5, 13] (fun lv i wr => ∃ k : Nat, k ≤ n ∧ i = .int .i64 k ∧ wr.ownsRow w.heap.size 9 1 lv (sufs false ((xs.map Pl.r).take k)).length (scells (sufs false ((xs.map Pl.r).take k))) ∧ Below w.heap.size w wr) (fun _ i _ => n - (intOf i).toNat)
    case atStart => exact ⟨0, Nat.zero_le _, rfl, (World.ownsRow_lit w _ 5 (Nat.le_refl _) (by unfold maxLen; omega) rfl), below_al (Below.refl _ _)⟩
    case round =>
      obtain ⟨k, hk, rfl, hown, hB⟩ := hrel
      by_cases hlt : k < n
      · obtain ⟨x, hx⟩ : ∃ x, xs[k]? = some x := ⟨_, List.getElem?_eq_getElem (by rw [← hn.out]; exact hlt)⟩
        obtain ⟨b, off, rfl, hb, hcells⟩ := hrow.out (by omega)
        obtain ⟨c0, c1, c2, c3, c4, c5, c6, c7, c8, c9, c10⟩ := range11 (w := wr) (x := x) (fun j v hj => (hB.cell (p := ⟨b, off + k * 11 + j, none⟩) hb).trans (hcells k x hx j v hj))
        have hmore := Lib.hid (sufs_more (plain := false) (rs := xs.map Pl.r) (k := k) (r := x.r) (by simp [hx]))
        have hxa0 := RuAt.below (hat.out x (List.mem_of_getElem? hx)) hB
        have y1 : (0 : Int) ≤ (k : Int) := by omega
        have y2 : (k : Int) < (n : Int) := by omega
        have hl5 := hlen.out k
        clear hcells
        obtain ⟨⟨T, P, O, b1, pat, b3, s1, R, b4, s2, b5⟩, t, p, o, rc⟩ := x
        dsimp only [Pl.at] at hxa0 c0 c1 c2 c3 c4 c5 c6 c7 c8 c9 c10 hmore
        obtain ⟨⟨ta, tn, tc, rfl⟩, ⟨pa, pn, pc, rfl⟩, ⟨oa, on, oc, rfl⟩, ⟨ra, rn, rc2, rfl⟩⟩ := hxa0.slices
        have hxa := Lib.hid hxa0
        clear hxa0
        generalize hL : sufs false ((xs.map Pl.r).take k) = L at hown hmore hl5
        clear hL
        have hB1 := Lib.hid (below_al (o := .cells #[Value.slice ta tn tc, Value.slice pa pn pc, Value.slice oa on oc, .bool b1, .bool pat, .bool b3, .string s1, .slice ra rn rc2, .bool b4, .string s2, .bool b5] 43) hB)
        have hpre := Lib.hid (hpw k _ hx)
        clear hx
        have hxb := Lib.hid (hxa.out.below (w' := wr.alloc (.cells #[Value.slice ta tn tc, Value.slice pa pn pc, Value.slice oa on oc, .bool b1, .bool pat, .bool b3, .string s1, .slice ra rn rc2, .bool b4, .string s2, .bool b5] 43)) (below_al (Below.refl _ _)))
        cases pat
        · go_wp2_with fail
          refine (contains_calls _ T suffixName _ hxb.out.1).mono ?_
          rintro e w' ⟨rfl, rfl⟩
          cases hin : inL suffixName T
          · go_wp2
            exact ⟨⟨k + 1, by omega, by go_num, by rw [hmore.out]; simpa [sufStep, hin] using hown.alloc _, hB1.out⟩, by simp [intOf]; omega⟩
          · obtain ⟨hp1', hp2, hp3, hp4⟩ := hxb.out.2.1.len
            have hp1 := Lib.hid (show pn = P.length from hp1')
            clear hp1'
            have hmore' := hmore.out
            simp only [sufStep, hin, Bool.not_true, Bool.or_false, Bool.false_eq_true, if_false] at hmore'
            have hm2 := Lib.hid hmore'
            clear hmore hmore' hin
            have hpre' : P.length ≤ 1000000 := hpre.out
            by_cases h0 : pn = 0
            · subst h0
              have hP : P = [] := List.length_eq_zero_iff.1 hp1.out.symm
              subst hP
              clear hp1 hpre' hp4
              cases pa with
              | none =>
                obtain rfl : pc = 0 := (hp2 rfl).2
                clear hp2 hp3
                go_wp2
                exact ⟨⟨k + 1, by omega, by go_num, by rw [hm2.out]; exact World.ownsRow_nil _ _ _ _, hB1.out⟩, by simp [intOf]; omega⟩
              | some ad =>
                clear hp2
                obtain ⟨e1, e2, e3⟩ := hxb.out.2.1.news
                have e2' := Lib.hid e2
                have e3' := Lib.hid e3
                clear e1 e2 e3
                unfold maxLen at hp3
                go_wp2_with (at_builtin; refine wpList_append_own _ rfl (.tmp 29) (.tmp 31) 25 rfl w.heap.size 9 i0 _ 1 16 Try.underlying25 hi hz0 hz1 hz2 rfl (by decide) _ _ _ rfl (World.ownsRow_nil _ _ _ _) ad 0 pc (scells []) rfl e2'.out e3'.out (scells_one _) (by unfold maxLen; omega) (by omega) (by have := hB.size; simp; omega) ?_; intro v' w2 hown' hgrow _; have hB2 := Lib.hid (hB1.out.grown hgrow (by have := hB.size; simp; omega) (fun k e => by cases e)); clear hgrow)
                exact ⟨⟨k + 1, by omega, by go_num, by rw [hm2.out]; exact hown', hB2.out⟩, by simp [intOf]; omega⟩
            · have h0' : P.length ≠ 0 := by rw [← hp1.out]; exact h0
              simp only [if_neg h0'] at hm2
              cases pa with
              | none => exact absurd (hp2 rfl).1 h0
              | some ad =>
                clear hp2
                obtain ⟨e1, e2, e3⟩ := hxb.out.2.1.news
                have e2' := Lib.hid e2
                have e3' := Lib.hid e3
                have y3 : ((pn : Int) = 0) = False := by simp; exact h0
                clear e1 e2 e3
                unfold maxLen at hp3
                have hpz : pn ≤ 1000000 := by rw [hp1.out]; exact hpre'
                have f1 : (L.length + pn) * 16 ≤ 140737488355328 := by omega
                have f2 : L.length + pn ≤ maxLen := by unfold maxLen; omega
                go_wp2_with (at_builtin; refine wpList_append_own _ rfl (.tmp 29) (.tmp 31) 25 rfl w.heap.size 9 i0 _ 1 16 Try.underlying25 hi hz0 hz1 hz2 rfl (by decide) _ _ _ rfl (hown.alloc _) ad pn pc (scells P) rfl e2'.out e3'.out (scells_one _) f2 f1 (by have := hB.size; simp; omega) ?_; intro v' w2 hown' hgrow _; have hB2 := Lib.hid (hB1.out.grown hgrow (by have := hB.size; simp; omega) (fun j e => (hown.lt j e).1)); clear hgrow)
                exact ⟨⟨k + 1, by omega, by go_num, by rw [hm2.out, List.length_append]; rw [hp1.out] at hown'; simpa [scells] using hown', hB2.out⟩, by simp [intOf]; omega⟩
        · go_wp2
          exact ⟨⟨k + 1, by omega, by go_num, by rw [hmore.out]; simpa [sufStep] using hown.alloc _, hB1.out⟩, by simp [intOf]; omega⟩
      · obtain rfl : k = n := by omega
        rw [hall'.out] at hown
        go_wp2
        go_ret
        exact ⟨_, rfl, hown, hB⟩
  · go_wp2_with fail
    go_loopw [5, 13] (fun lv i wr => ∃ k : Nat, k ≤ n ∧ i = .int .i64 k ∧ wr.ownsRow w.heap.size 9 1 lv (sufs true ((xs.map Pl.r).take k)).length (scells (sufs true ((xs.map Pl.r).take k))) ∧ Below w.heap.size w wr) (fun _ i _ => n - (intOf i).toNat)
    case atStart => exact ⟨0, Nat.zero_le _, rfl, World.ownsRow_nil _ _ _ _, Below.refl _ _⟩
    case round =>
      obtain ⟨k, hk, rfl, hown, hB⟩ := hrel
      by_cases hlt : k < n
      · obtain ⟨x, hx⟩ : ∃ x, xs[k]? = some x := ⟨_, List.getElem?_eq_getElem (by rw [← hn.out]; exact hlt)⟩
        obtain ⟨b, off, rfl, hb, hcells⟩ := hrow.out (by omega)
        obtain ⟨c0, c1, c2, c3, c4, c5, c6, c7, c8, c9, c10⟩ := range11 (w := wr) (x := x) (fun j v hj => (hB.cell (p := ⟨b, off + k * 11 + j, none⟩) hb).trans (hcells k x hx j v hj))
        have hmore := Lib.hid (sufs_more (plain := true) (rs := xs.map Pl.r) (k := k) (r := x.r) (by simp [hx]))
        have hxa0 := RuAt.below (hat.out x (List.mem_of_getElem? hx)) hB
        have y1 : (0 : Int) ≤ (k : Int) := by omega
        have y2 : (k : Int) < (n : Int) := by omega
        have hl5 := hlen.out k
        clear hcells
        obtain ⟨⟨T, P, O, b1, pat, b3, s1, R, b4, s2, b5⟩, t, p, o, rc⟩ := x
        dsimp only [Pl.at] at hxa0 c0 c1 c2 c3 c4 c5 c6 c7 c8 c9 c10 hmore
        obtain ⟨⟨ta, tn, tc, rfl⟩, ⟨pa, pn, pc, rfl⟩, ⟨oa, on, oc, rfl⟩, ⟨ra, rn, rc2, rfl⟩⟩ := hxa0.slices
        have hxa := Lib.hid hxa0
        clear hxa0
        generalize hL : sufs true ((xs.map Pl.r).take k) = L at hown hmore hl5
        clear hL
        have hB1 := Lib.hid (below_al (o := .cells #[Value.slice ta tn tc, Value.slice pa pn pc, Value.slice oa on oc, .bool b1, .bool pat, .bool b3, .string s1, .slice ra rn rc2, .bool b4, .string s2, .bool b5] 43) hB)
        have hpre := Lib.hid (hpw k _ hx)
        clear hx
        have hxb := Lib.hid (hxa.out.below (w' := wr.alloc (.cells #[Value.slice ta tn tc, Value.slice pa pn pc, Value.slice oa on oc, .bool b1, .bool pat, .bool b3, .string s1, .slice ra rn rc2, .bool b4, .string s2, .bool b5] 43)) (below_al (Below.refl _ _)))
        cases pat
        · go_wp2_with fail
          refine (contains_calls _ T suffixName _ hxb.out.1).mono ?_
          rintro e w' ⟨rfl, rfl⟩
          cases hin : inL suffixName T
          · go_wp2
            exact ⟨⟨k + 1, by omega, by go_num, by rw [hmore.out]; simpa [sufStep, hin] using hown.alloc _, hB1.out⟩, by simp [intOf]; omega⟩
          · obtain ⟨hp1', hp2, hp3, hp4⟩ := hxb.out.2.1.len
            have hp1 := Lib.hid (show pn = P.length from hp1')
            clear hp1'
            have hmore' := hmore.out
            simp only [sufStep, hin, Bool.not_true, Bool.or_false, Bool.false_eq_true, if_false] at hmore'
            have hm2 := Lib.hid hmore'
            clear hmore hmore' hin
            have hpre' : P.length ≤ 1000000 := hpre.out
            by_cases h0 : pn = 0
            · subst h0
              have hP : P = [] := List.length_eq_zero_iff.1 hp1.out.symm
              subst hP
              clear hp1 hpre' hp4
              cases pa with
              | none =>
                obtain rfl : pc = 0 := (hp2 rfl).2
                clear hp2 hp3
                go_wp2
                exact ⟨⟨k + 1, by omega, by go_num, by rw [hm2.out]; exact World.ownsRow_nil _ _ _ _, hB1.out⟩, by simp [intOf]; omega⟩
              | some ad =>
                clear hp2
                obtain ⟨e1, e2, e3⟩ := hxb.out.2.1.news
                have e2' := Lib.hid e2
                have e3' := Lib.hid e3
                clear e1 e2 e3
                unfold maxLen at hp3
                go_wp2_with (at_builtin; refine wpList_append_own _ rfl (.tmp 29) (.tmp 31) 25 rfl w.heap.size 9 i0 _ 1 16 Try.underlying25 hi hz0 hz1 hz2 rfl (by decide) _ _ _ rfl (World.ownsRow_nil _ _ _ _) ad 0 pc (scells []) rfl e2'.out e3'.out (scells_one _) (by unfold maxLen; omega) (by omega) (by have := hB.size; simp; omega) ?_; intro v' w2 hown' hgrow _; have hB2 := Lib.hid (hB1.out.grown hgrow (by have := hB.size; simp; omega) (fun k e => by cases e)); clear hgrow)
                exact ⟨⟨k + 1, by omega, by go_num, by rw [hm2.out]; exact hown', hB2.out⟩, by simp [intOf]; omega⟩
            · have h0' : P.length ≠ 0 := by rw [← hp1.out]; exact h0
              simp only [if_neg h0'] at hm2
              cases pa with
              | none => exact absurd (hp2 rfl).1 h0
              | some ad =>
                clear hp2
                obtain ⟨e1, e2, e3⟩ := hxb.out.2.1.news
                have e2' := Lib.hid e2
                have e3' := Lib.hid e3
                have y3 : ((pn : Int) = 0) = False := by simp; exact h0
                clear e1 e2 e3
                unfold maxLen at hp3
                have hpz : pn ≤ 1000000 := by rw [hp1.out]; exact hpre'
                have f1 : (L.length + pn) * 16 ≤ 140737488355328 := by omega
                have f2 : L.length + pn ≤ maxLen := by unfold maxLen; omega
                go_wp2_with (at_builtin; refine wpList_append_own _ rfl (.tmp 29) (.tmp 31) 25 rfl w.heap.size 9 i0 _ 1 16 Try.underlying25 hi hz0 hz1 hz2 rfl (by decide) _ _ _ rfl (hown.alloc _) ad pn pc (scells P) rfl e2'.out e3'.out (scells_one _) f2 f1 (by have := hB.size; simp; omega) ?_; intro v' w2 hown' hgrow _; have hB2 := Lib.hid (hB1.out.grown hgrow (by have := hB.size; simp; omega) (fun j e => (hown.lt j e).1)); clear hgrow)
                exact ⟨⟨k + 1, by omega, by go_num, by rw [hm2.out, List.length_append]; rw [hp1.out] at hown'; simpa [scells] using hown', hB2.out⟩, by simp [intOf]; omega⟩
        · go_wp2
          exact ⟨⟨k + 1, by omega, by go_num, by rw [hmore.out]; simpa [sufStep] using hown.alloc _, hB1.out⟩, by simp [intOf]; omega⟩
      · obtain rfl : k = n := by omega
        rw [hall'.out] at hown
        go_wp2
        go_ret
        exact ⟨_, rfl, hown, hB⟩
end Go.Proofs.Ytfnmncghgmnaaab
