/-
  A suffix rule as a pattern (23), where it may be one. Conditions: lists of at most a million strings.
-/
import Derived.Test.YtfnmncghgmnaaabDb8
namespace Go.Proofs.Ytfnmncghgmnaaab
open Go.RowKit

def big : Nat := 1152921504606846976
theorem bcut_size (t s : ByteArray) : (bcut t s).size ≤ t.size := by
  unfold bcut Lib.trimPrefix
  split
  · rw [ByteArray.size, List.size_toArray, Go.Lib.size_eq, List.length_drop]; omega
  · rw [ByteArray.size, List.size_toArray, ← Go.Lib.size_eq]; exact Nat.le_refl _
theorem findSuf_step {t s : ByteArray} {all l : List ByteArray} {k : Nat} (h : l[k]? = some s) :
    findSuf t all (l.drop k) = if bhas t s && decide (s ≠ ⟨#[]⟩) && inL (bcut t s) all then some s else findSuf t all (l.drop (k + 1)) := by
  rw [getElem_split h]; rfl

set_option maxHeartbeats 2000000 in
theorem turned_main (r : Ru) (t p o rc v : Value) (l : List ByteArray) (w : World) (h : RuAt w r t p o rc) (hl : StrsAt w v l) (hyes : plainSuf r = true) (hsz : ∀ s ∈ l, s.size ≤ big) (hsz' : ∀ s ∈ r.targets, s.size ≤ big) :
    Calls Try.prog 23 #[.agg (rcells r t p o rc), v] w (TurnOut r l t p o rc w) := by
  obtain ⟨⟨ta, tn, tc, rfl⟩, ⟨pa, pn, pc, rfl⟩, ⟨oa, on, oc, rfl⟩, ⟨ra, rn, rc2, rfl⟩⟩ := h.slices
  have hxa := Lib.hid h
  have hq0 : turnedR r l = turnT r (r.targets.headD ⟨#[]⟩) l := by unfold turnedR; rw [if_pos hyes]
  obtain ⟨T, P, O, b1, pat, b3, s1, R, b4, s2, b5⟩ := r
  have hT : tn = T.length := h.1.len.1
  have hP : pn = P.length := h.2.1.len.1
  have hO : on = O.length := h.2.2.1.len.1
  simp only [plainSuf, Bool.and_eq_true, Bool.not_eq_true', decide_eq_true_eq] at hyes
  obtain ⟨⟨⟨⟨⟨⟨rfl, rfl⟩, h1⟩, h2⟩, rfl⟩, rfl⟩, rfl⟩ := hyes
  obtain rfl : tn = 1 := by omega
  obtain rfl : pn = 0 := by omega
  obtain rfl : on = 0 := by omega
  obtain ⟨T0, rfl⟩ : ∃ x, T = [x] := by
    match T, hT with
    | [x], _ => exact ⟨x, rfl⟩
  have hq := Lib.hid hq0
  have hz0 : T0.size ≤ 1152921504606846976 := hsz' T0 (by simp)
  have hszl := Lib.hid hsz
  clear hsz hsz'
  clear hT hP hO h1 h2 h hq0
  unfold rcells
  obtain ⟨a1, n1, c1, e, -, -, -, hcell, -⟩ := hxa.out.1
  injection e with e1 e2 e3
  subst e1 e2 e3
  obtain ⟨b, off, rfl, hb, hcells⟩ := hcell (by omega)
  have hc1 := hcells 0 T0 rfl
  rw [Nat.add_zero] at hc1
  have hB0 := Lib.hid (below_al (o := (.cells #[Value.slice none 0 0, .slice none 0 0, .slice none 0 0, .bool false, .bool false, .bool false, .string ⟨#[]⟩, .slice none 0 0, .bool false, .string ⟨#[]⟩, .bool false] 43)) (below_al (o := (.cells #[Value.slice (some ⟨b, off, none⟩) 1 tc, Value.slice pa 0 pc, Value.slice oa 0 oc, .bool false, .bool false, .bool b3, .string ⟨#[]⟩, .slice ra rn rc2, .bool true, .string ⟨#[]⟩, .bool b5] 43)) (Below.refl w.heap.size w)))
  have hl2 := Lib.hid (hl.below hB0.out)
  have hc0 := (hB0.out.cell (p := ⟨b, off, none⟩) hb).trans hc1
  obtain ⟨la, ln, lc, rfl, hn0, hlc, hlm, hlcell0, -⟩ := hl2.out
  have hn := Lib.hid hn0
  have hlcell := Lib.hid hlcell0
  unfold maxLen at hlm
  clear hcell hcells hn0 hl hc1 hlcell0
  go_enter Try.func23, Try.ntmps23
  go_wp2_with fail
  go_loopw [55] (fun i wr => ∃ k : Nat, k ≤ ln ∧ i = .int .i64 k ∧ wr = (w.alloc (.cells #[Value.slice (some ⟨b, off, none⟩) 1 tc, Value.slice pa 0 pc, Value.slice oa 0 oc, .bool false, .bool false, .bool b3, .string ⟨#[]⟩, .slice ra rn rc2, .bool true, .string ⟨#[]⟩, .bool b5] 43)).alloc (.cells #[Value.slice none 0 0, .slice none 0 0, .slice none 0 0, .bool false, .bool false, .bool false, .string ⟨#[]⟩, .slice none 0 0, .bool false, .string ⟨#[]⟩, .bool false] 43) ∧ findSuf T0 l l = findSuf T0 l (l.drop k)) (fun i _ => ln - (intOf i).toNat)
  case atStart => exact ⟨0, Nat.zero_le _, rfl, rfl, rfl⟩
  case round =>
    obtain ⟨k, hk, rfl, rfl, hfind⟩ := hrel
    by_cases hlt : k < ln
    · obtain ⟨s, hs⟩ : ∃ s, l[k]? = some s := ⟨_, List.getElem?_eq_getElem (by rw [← hn.out]; exact hlt)⟩
      obtain ⟨b', off', rfl, hb', hlcells⟩ := hlcell.out (by omega)
      have hck := hlcells k s hs
      have hzs : s.size ≤ 1152921504606846976 := hszl.out s (List.mem_of_getElem? hs)
      have hstep := Lib.hid (hfind.trans (findSuf_step hs))
      have y1 : (0 : Int) ≤ (k : Int) := by omega
      have y2 : (k : Int) < (ln : Int) := by omega
      clear hlcells hs hfind
      go_wp2_with fail
      refine (Try.strings_CutPrefix T0 s _).mono ?_
      rintro e w' ⟨rfl, rfl⟩
      have hrest : ∃ rest : ByteArray, (⟨(Lib.trimPrefix T0.data.toList s.data.toList).toArray⟩ : ByteArray) = rest ∧ bcut T0 s = rest ∧ rest.size ≤ T0.size := ⟨_, rfl, rfl, bcut_size T0 s⟩
      obtain ⟨rest, hr1, hr2, hr3⟩ := hrest
      rw [hr1]
      have hr2' := Lib.hid hr2
      clear hr1 hr2
      cases hh : bhas T0 s
      · have hh' : Lib.hasPrefix T0.data.toList s.data.toList = false := hh
        rw [hh']
        go_wp2
        exact ⟨⟨k + 1, by omega, by go_num, by trivial, by rw [hstep.out]; simp [hh]⟩, by simp [intOf]; omega⟩
      · have hh' : Lib.hasPrefix T0.data.toList s.data.toList = true := hh
        rw [hh']
        by_cases hs0 : s = ⟨#[]⟩
        · subst hs0
          go_wp2
          exact ⟨⟨k + 1, by omega, by go_num, by trivial, by rw [hstep.out]; simp⟩, by simp [intOf]; omega⟩
        · have g : (s.toList == []) = false := by have g := ba_beq s ⟨#[]⟩; rw [decide_eq_false hs0, Go.Lib.toList_data ⟨#[]⟩] at g; exact g
          go_wp2_with fail
          refine (contains_calls _ l rest _ hl2.out).mono ?_
          rintro e w' ⟨rfl, rfl⟩
          cases hin : inL rest l
          · go_wp2
            exact ⟨⟨k + 1, by omega, by go_num, by trivial, by rw [hstep.out]; simp [hh, hin, hr2'.out]⟩, by simp [intOf]; omega⟩
          · have hfound := Lib.hid (show findSuf T0 l l = some s by rw [hstep.out]; simp [hh, hin, hs0, hr2'.out])
            clear hstep hin hh hh' hs0
            go_wp2
            refine bodyPost_ret (v := .tuple #[.agg #[.slice (some ⟨w.heap.size + 1 + 1, 0, none⟩) 1 1, .slice (some ⟨w.heap.size + 1 + 1 + 1, 0, none⟩) 1 1, Value.slice oa 0 oc, .bool false, .bool true, .bool b3, .string ⟨#[]⟩, .slice ra rn rc2, .bool true, .string ⟨#[]⟩, .bool b5], .bool true]) (by simp [results, Try.results23, go_sem]) rfl ?_
            have hres : turnedR ⟨[T0], P, O, false, false, b3, ⟨#[]⟩, R, true, ⟨#[]⟩, b5⟩ l = some ⟨[(⟨#[37]⟩ : ByteArray) ++ rest], [(⟨#[37]⟩ : ByteArray) ++ s], O, false, true, b3, ⟨#[]⟩, R, true, ⟨#[]⟩, b5⟩ := by
              rw [hq.out]; unfold turnT; rw [show ([T0].headD (⟨#[]⟩ : ByteArray)) = T0 from rfl, hfound.out]; simp [pct, hr2'.out]
            have hBB := below_al (o := .cells #[Value.string ((⟨#[37]⟩ : ByteArray) ++ s)] 9) (below_al (o := .cells #[Value.string ((⟨#[37]⟩ : ByteArray) ++ rest)] 9) (below_al (o := (.cells #[.slice (some ⟨w.heap.size + 1 + 1, 0, none⟩) 1 1, .slice (some ⟨w.heap.size + 1 + 1 + 1, 0, none⟩) 1 1, Value.slice oa 0 oc, .bool false, .bool true, .bool b3, .string ⟨#[]⟩, .slice ra rn rc2, .bool true, .string ⟨#[]⟩, .bool b5] 43)) (below_al (o := (.cells #[.slice (some ⟨w.heap.size + 1 + 1, 0, none⟩) 1 1, .slice (some ⟨w.heap.size + 1 + 1 + 1, 0, none⟩) 1 1, Value.slice oa 0 oc, .bool false, .bool true, .bool b3, .string ⟨#[]⟩, .slice ra rn rc2, .bool true, .string ⟨#[]⟩, .bool b5] 43)) (Below.refl w.heap.size w))))
            refine ⟨⟨⟨[(⟨#[37]⟩ : ByteArray) ++ rest], [(⟨#[37]⟩ : ByteArray) ++ s], O, false, true, b3, ⟨#[]⟩, R, true, ⟨#[]⟩, b5⟩, .slice (some ⟨w.heap.size + 1 + 1, 0, none⟩) 1 1, .slice (some ⟨w.heap.size + 1 + 1 + 1, 0, none⟩) 1 1, .slice oa 0 oc, .slice ra rn rc2⟩, by rw [hres]; rfl, by rw [hres]; rfl, ⟨?_, ?_, hxa.out.2.2.1.below hBB, hxa.out.2.2.2.below hBB⟩, ⟨Or.inr ?_, Or.inr ?_, rfl, rfl⟩, hBB⟩
            · exact (strs_block _ 9 _ 1 _ [(⟨#[37]⟩ : ByteArray) ++ rest] rfl rfl (by simp) (by omega)).below (below_al (Below.refl _ _))
            · exact strs_block _ 9 _ 1 _ [(⟨#[37]⟩ : ByteArray) ++ s] rfl rfl (by simp) (by omega)
            · intro a n c e; injection e with e; injection e with e; subst e; dsimp only; omega
            · intro a n c e; injection e with e; injection e with e; subst e; dsimp only; omega
    · obtain rfl : k = ln := by omega
      have hnone := Lib.hid (show findSuf T0 l l = none by rw [hfind, List.drop_of_length_le (by rw [← hn.out]; exact Nat.le_refl _)]; rfl)
      clear hfind
      go_wp2_with fail
      refine (contains_calls _ l T0 _ hl2.out).mono ?_
      rintro e w' ⟨rfl, rfl⟩
      cases hin : inL T0 l
      · have hno := Lib.hid hin
        clear hin
        go_wp2
        refine bodyPost_ret (v := .tuple #[.agg #[Value.slice (some ⟨b, off, none⟩) 1 tc, Value.slice pa 0 pc, Value.slice oa 0 oc, .bool false, .bool false, .bool b3, .string ⟨#[]⟩, .slice ra rn rc2, .bool true, .string ⟨#[]⟩, .bool b5], .bool false]) (by simp [results, Try.results23, go_sem]) rfl ?_
        have hres : turnedR ⟨[T0], P, O, false, false, b3, ⟨#[]⟩, R, true, ⟨#[]⟩, b5⟩ l = none := by
          rw [hq.out]; unfold turnT; rw [show ([T0].headD (⟨#[]⟩ : ByteArray)) = T0 from rfl, hnone.out]; simp [hno.out]
        have hBB := below_al (o := (.cells #[Value.slice (some ⟨b, off, none⟩) 1 tc, Value.slice pa 0 pc, Value.slice oa 0 oc, .bool false, .bool false, .bool b3, .string ⟨#[]⟩, .slice ra rn rc2, .bool true, .string ⟨#[]⟩, .bool b5] 43)) (below_al (o := (.cells #[Value.slice (some ⟨b, off, none⟩) 1 tc, Value.slice pa 0 pc, Value.slice oa 0 oc, .bool false, .bool false, .bool b3, .string ⟨#[]⟩, .slice ra rn rc2, .bool true, .string ⟨#[]⟩, .bool b5] 43)) (Below.refl w.heap.size w))
        exact ⟨⟨⟨[T0], P, O, false, false, b3, ⟨#[]⟩, R, true, ⟨#[]⟩, b5⟩, .slice (some ⟨b, off, none⟩) 1 tc, .slice pa 0 pc, .slice oa 0 oc, .slice ra rn rc2⟩, by rw [hres]; rfl, by rw [hres]; rfl, hxa.out.below hBB, ⟨Or.inl rfl, Or.inl rfl, rfl, rfl⟩, hBB⟩
      · have hyes := Lib.hid hin
        clear hin
        go_wp2
        refine bodyPost_ret (v := .tuple #[.agg #[.slice (some ⟨w.heap.size + 1 + 1, 0, none⟩) 1 1, .slice (some ⟨w.heap.size + 1 + 1 + 1, 0, none⟩) 1 1, Value.slice oa 0 oc, .bool false, .bool true, .bool b3, .string ⟨#[]⟩, .slice ra rn rc2, .bool true, .string ⟨#[]⟩, .bool b5], .bool true]) (by simp [results, Try.results23, go_sem]) rfl ?_
        have hres : turnedR ⟨[T0], P, O, false, false, b3, ⟨#[]⟩, R, true, ⟨#[]⟩, b5⟩ l = some ⟨[(⟨#[37]⟩ : ByteArray)], [(⟨#[37]⟩ : ByteArray) ++ T0], O, false, true, b3, ⟨#[]⟩, R, true, ⟨#[]⟩, b5⟩ := by
          rw [hq.out]; unfold turnT; rw [show ([T0].headD (⟨#[]⟩ : ByteArray)) = T0 from rfl, hnone.out]; simp [pct, hyes.out]
        have hBB := below_al (o := .cells #[Value.string ((⟨#[37]⟩ : ByteArray) ++ T0)] 9) (below_al (o := .cells #[Value.string ((⟨#[37]⟩ : ByteArray))] 9) (below_al (o := (.cells #[.slice (some ⟨w.heap.size + 1 + 1, 0, none⟩) 1 1, .slice (some ⟨w.heap.size + 1 + 1 + 1, 0, none⟩) 1 1, Value.slice oa 0 oc, .bool false, .bool true, .bool b3, .string ⟨#[]⟩, .slice ra rn rc2, .bool true, .string ⟨#[]⟩, .bool b5] 43)) (below_al (o := (.cells #[.slice (some ⟨w.heap.size + 1 + 1, 0, none⟩) 1 1, .slice (some ⟨w.heap.size + 1 + 1 + 1, 0, none⟩) 1 1, Value.slice oa 0 oc, .bool false, .bool true, .bool b3, .string ⟨#[]⟩, .slice ra rn rc2, .bool true, .string ⟨#[]⟩, .bool b5] 43)) (Below.refl w.heap.size w))))
        refine ⟨⟨⟨[(⟨#[37]⟩ : ByteArray)], [(⟨#[37]⟩ : ByteArray) ++ T0], O, false, true, b3, ⟨#[]⟩, R, true, ⟨#[]⟩, b5⟩, .slice (some ⟨w.heap.size + 1 + 1, 0, none⟩) 1 1, .slice (some ⟨w.heap.size + 1 + 1 + 1, 0, none⟩) 1 1, .slice oa 0 oc, .slice ra rn rc2⟩, by rw [hres]; rfl, by rw [hres]; rfl, ⟨?_, ?_, hxa.out.2.2.1.below hBB, hxa.out.2.2.2.below hBB⟩, ⟨Or.inr ?_, Or.inr ?_, rfl, rfl⟩, hBB⟩
        · exact (strs_block _ 9 _ 1 _ [(⟨#[37]⟩ : ByteArray)] rfl rfl (by simp) (by omega)).below (below_al (Below.refl _ _))
        · exact strs_block _ 9 _ 1 _ [(⟨#[37]⟩ : ByteArray) ++ T0] rfl rfl (by simp) (by omega)
        · intro a n c e; injection e with e; injection e with e; subst e; dsimp only; omega
        · intro a n c e; injection e with e; injection e with e; subst e; dsimp only; omega

theorem turned_calls (r : Ru) (t p o rc v : Value) (l : List ByteArray) (w : World) (h : RuAt w r t p o rc) (hs : RuSmall r) (hl : StrsAt w v l) (hsz : ∀ s ∈ l, s.size ≤ big) (hsz' : ∀ s ∈ r.targets, s.size ≤ big) :
    Calls Try.prog 23 #[.agg (rcells r t p o rc), v] w (TurnOut r l t p o rc w) := by
  cases hp : plainSuf r
  · exact turned_early r t p o rc v l w h hs hp
  · exact turned_main r t p o rc v l w h hl hp hsz hsz'
end Go.Proofs.Ytfnmncghgmnaaab
