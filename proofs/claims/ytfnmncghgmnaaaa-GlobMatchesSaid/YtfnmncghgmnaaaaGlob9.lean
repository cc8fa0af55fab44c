/-
  The reference's glob: Wild and Plain (functions 20, 22) answer what the plain side says. Condition: patterns have at most 1,000,000 bytes.
-/
import Derived.Test.YtfnmncghgmnaaaaGlob8
namespace Go.Proofs.Ytfnmncghgmnaaaa
open Go.RowKit

/-- The four cells of the k-th piece. -/
theorem flat_at : ∀ (qs : List Gl.Part) (k : Nat) (q : Gl.Part) (i : Nat), qs[k]? = some q → i < 4 → (qs.flatMap pcells)[k * 4 + i]? = (pcells q)[i]?
  | [], k, q, i, h, _ => by simp at h
  | p :: qs, 0, q, i, h, hi => by
    simp at h; subst h
    rw [List.flatMap_cons, Nat.zero_mul, Nat.zero_add, List.getElem?_append_left (by rw [pcells_len]; exact hi)]
  | p :: qs, k + 1, q, i, h, hi => by
    simp at h
    rw [List.flatMap_cons, List.getElem?_append_right (by rw [pcells_len]; omega), pcells_len, show (k + 1) * 4 + i - 4 = k * 4 + i by omega]
    exact flat_at qs k q i h hi

theorem pieces_view {w : World} {base : Nat} {v : Value} {qs : List Gl.Part} (h : w.ownsRow base 52 4 v qs.length (qs.flatMap pcells)) :
    (v = .slice none 0 0 ∧ qs = []) ∨ ∃ g cap, v = .slice (some ⟨g, 0, none⟩) qs.length cap ∧ base ≤ g ∧ g < w.heap.size ∧ qs.length ≤ cap ∧
      ∀ (k : Nat) (q : Gl.Part) (i : Nat) (u : Value), qs[k]? = some q → (pcells q)[i]? = some u → w.cell? ⟨g, k * 4 + i, none⟩ = some u := by
  have hc := fun g => h.cells (g := g)
  obtain ⟨hl, h⟩ := h
  rcases h with ⟨rfl, hn⟩ | ⟨g, cap, cur, rfl, hb, hg, hn, _⟩
  · exact Or.inl ⟨rfl, List.length_eq_zero_iff.1 hn⟩
  · refine Or.inr ⟨g, cap, rfl, hb, heap_lt hg, hn, fun k q i u hk hu => ?_⟩
    have ad : ∀ j, (⟨g, 0, none⟩ : Addr).add j = ⟨g, j, none⟩ := fun j => by unfold Addr.add; split <;> simp_all
    have hi : i < 4 := by have := (List.getElem?_eq_some_iff.1 hu).1; rwa [pcells_len] at this
    rw [← ad]
    exact hc g rfl _ _ (by rw [flat_at qs k q i hk hi]; exact hu)

/-- A piece's kind. -/
def kindOf : Gl.Part → Int | .byte _ => 0 | .star => 1 | .any => 2 | .set _ _ => 3
theorem pcells_kind (q : Gl.Part) : (pcells q)[0]? = some (.int .i64 (kindOf q)) := by cases q <;> rfl
theorem kind_wild (q : Gl.Part) : (Gl.isWild q = true → (kindOf q == 0) = false) ∧ (Gl.isWild q = false → (kindOf q == 0) = true) := by
  cases q <;> (refine ⟨fun h => ?_, fun h => ?_⟩ <;> first | rfl | cases h)

set_option maxHeartbeats 400000 in
theorem rwild_calls (p : ByteArray) (w : World) (hp : p.size ≤ 1000000) :
    Calls Try.prog 20 #[.string p] w fun e w' => e = .returned (.bool (Gl.wild p.data.toList)) ∧ Below w.heap.size w w' := by
  have hwild : Gl.wild p.data.toList = (Gl.parts p.data.toList).any Gl.isWild := by unfold Gl.wild; congr
  rw [hwild]; clear hwild
  go_enter Try.func20, Try.ntmps20
  go_wp2_with fail
  refine (pieces_calls p _ hp).mono ?_
  rintro e w1 ⟨v, rfl, hown, hfits, hB⟩
  have hplen : (Gl.parts p.data.toList).length ≤ 1000000 := Nat.le_trans (Gl.parts_length _ _ (Nat.le_refl _)) (by rw [← Go.Lib.size_eq]; exact hp)
  rcases pieces_view hown with ⟨rfl, hq0⟩ | ⟨g, cap, rfl, hbg, hgl, hcap, hcells⟩
  · clear hown hfits
    have hq := Lib.hid (show (Gl.parts p.data.toList).any Gl.isWild = false by rw [hq0]; rfl)
    clear hq0 hplen
    go_wp2_with fail
    go_loop [4] (fun i => i = .int .i64 0) (fun _ => 0)
    case atStart => rfl
    case round =>
      go_wp2
      go_ret
      exact ⟨by rw [hq.out]; rfl, hB⟩
  · clear hown hfits
    obtain ⟨n, hn0⟩ : ∃ n, n = (Gl.parts p.data.toList).length := ⟨_, rfl⟩
    rw [← hn0] at hcap hplen ⊢
    have hnl : n ≤ (Gl.parts p.data.toList).length := Nat.le_of_eq hn0
    have hn := Lib.hid hn0
    clear hn0
    have hcl := Lib.hid hcells
    clear hcells
    go_wp2_with fail
    go_loop [4] (fun i => ∃ k : Nat, k ≤ n ∧ i = .int .i64 k ∧ Hid ((Gl.parts p.data.toList).any Gl.isWild = ((Gl.parts p.data.toList).drop k).any Gl.isWild)) (fun i => n - (intOf i).toNat)
    case atStart => exact ⟨0, Nat.zero_le _, rfl, rfl⟩
    case round =>
      obtain ⟨k, hk, rfl, hrel⟩ := hrel
      by_cases hlt : k < n
      · obtain ⟨q, hq⟩ : ∃ q, (Gl.parts p.data.toList)[k]? = some q := ⟨_, List.getElem?_eq_getElem (by omega)⟩
        have hdrop : (Gl.parts p.data.toList).drop k = q :: (Gl.parts p.data.toList).drop (k + 1) := by
          rw [List.drop_eq_getElem_cons (by omega)]; congr
          rw [List.getElem?_eq_getElem (by omega)] at hq; injection hq
        have hd := Lib.hid hdrop
        have hc1 := hcl.out k q 0 _ hq (pcells_kind q)
        rw [Nat.add_zero] at hc1
        have hwd := kind_wild q
        clear hdrop hq
        cases hqw : Gl.isWild q with
        | true =>
          have hk0 := hwd.1 hqw
          have hyes := Lib.hid (show (Gl.parts p.data.toList).any Gl.isWild = true by rw [hrel.out, hd.out, List.any_cons, hqw]; rfl)
          clear hwd hqw
          go_wp2
          go_ret
          exact ⟨by rw [hyes.out]; rfl, hB⟩
        | false =>
          have hk0 := hwd.2 hqw
          have hstep := Lib.hid (show (Gl.parts p.data.toList).any Gl.isWild = ((Gl.parts p.data.toList).drop (k + 1)).any Gl.isWild by rw [hrel.out, hd.out, List.any_cons, hqw]; rfl)
          clear hwd hqw
          go_wp2
          exact ⟨⟨k + 1, by omega, by go_num, hstep⟩, by simp [intOf]; omega⟩
      · have hno := Lib.hid (show (Gl.parts p.data.toList).any Gl.isWild = false by rw [hrel.out, List.drop_of_length_le (by rw [← hn.out]; omega)]; rfl)
        go_wp2
        go_ret
        exact ⟨by rw [hno.out]; rfl, hB⟩

/-- Where a set ends, and what is behind it. -/
theorem closing_next {p : ByteArray} {k : Nat} {n : Bool} {ms rest : List UInt8} (h : Gl.setOf (p.data.toList.drop (k + 1)) = some (n, ms, rest)) :
    ∃ next : Nat, closingOf p k = (next : Int) ∧ k < next ∧ next < p.size ∧ p.data.toList.drop (next + 1) = rest := by
  have h1 : k + 1 < p.size := by
    rcases Nat.lt_or_ge (k + 1) p.size with h' | h'
    · exact h'
    · rw [List.drop_of_length_le (by rw [← Go.Lib.size_eq]; omega)] at h; cases h
  obtain ⟨j, hj, gb⟩ : ∃ j, k < j ∧ Gl.body (p.data.toList.drop (k + 1)) = p.data.toList.drop j := by
    by_cases d1 : (p[k + 1].toNat : Int) = 33
    · exact ⟨k + 1 + 1, by omega, (neg_yes h1 (Or.inl d1)).2⟩
    · by_cases d2 : (p[k + 1].toNat : Int) = 94
      · exact ⟨k + 1 + 1, by omega, (neg_yes h1 (Or.inr d2)).2⟩
      · exact ⟨k + 1, by omega, (neg_no h1 d1 d2).2⟩
  have hjs : j < p.size := by
    rcases Nat.lt_or_ge j p.size with h' | h'
    · exact h'
    · rw [set_at_none gb (by rw [← Go.Lib.size_eq]; exact h')] at h; cases h
  rw [set_at gb (by rw [← Go.Lib.size_eq]; exact hjs)] at h
  cases hx : Gl.idx 93 (p.data.toList.drop (j + 1)) with
  | none => rw [hx] at h; cases h
  | some x =>
    rw [hx] at h
    injection h with h
    injection h with _ h
    injection h with _ h
    obtain ⟨h2, h3⟩ := closing_some gb hjs hx
    exact ⟨j + 1 + x, h2, by omega, h3, h⟩

set_option maxHeartbeats 2000000 in
theorem rplain_calls (p : ByteArray) (w : World) (hp : p.size ≤ 1000000) :
    Calls Try.prog 22 #[.string p] w fun e w' => e = .returned (.string ⟨(Gl.plain p.data.toList).toArray⟩) ∧ Below w.heap.size w w' := by
  obtain ⟨i0, hi, hz0, hz1, hz2⟩ := info_parts info5
  go_enter Try.func22, Try.ntmps22
  go_wp2_with fail
  go_loopw [3, 4] (fun v i wr => ∃ (k : Nat) (o : List UInt8), k ≤ p.size ∧ i = .int .i64 k ∧ wr.ownsRow w.heap.size 5 1 v o.length (bcells o) ∧ o.length ≤ k ∧ Below w.heap.size w wr ∧ Hid (Gl.plain p.data.toList = o ++ Gl.plain (p.data.toList.drop k))) (fun _ i _ => p.size - (intOf i).toNat)
  case atStart => exact ⟨0, [], Nat.zero_le _, rfl, World.ownsRow_nil _ _ _ _, Nat.le_refl _, Below.refl _ _, rfl⟩
  case round =>
    obtain ⟨k, o, hk, rfl, hown, hol, hB, hrel⟩ := hrel
    by_cases hlt : k < p.size
    · have hfit : (o.length + 1) * 1 ≤ 140737488355328 ∧ o.length + 1 ≤ maxLen := by unfold maxLen; omega
      have hdc := Lib.hid (drop_cons hlt)
      by_cases c1 : (p[k].toNat : Int) = 91
      · cases hs0 : Gl.setOf (p.data.toList.drop (k + 1)) with
        | none =>
          have hstep := Lib.hid (show Gl.plain (p.data.toList.drop k) = [91] ++ Gl.plain (p.data.toList.drop (k + 1)) by rw [hdc.out, byte_eq c1 (by decide)]; exact Gl.plain_open hs0)
          have hcl := Lib.hid (show closingOf p k = -1 by unfold closingOf; rw [hs0])
          clear hs0
          go_wp2_with fail
          refine (closing_calls p k _ hp hlt).mono ?_
          rintro e w1 ⟨rfl, rfl⟩
          rw [hcl.out]
          go_wp2_with (at_builtin; refine wpList_append_own _ rfl _ _ 37 rfl w.heap.size 5 i0 _ 1 1 Try.underlying37 hi hz0 hz1 hz2 rfl (by decide) _ _ _ rfl (hown.alloc _) ⟨wr.heap.size, 0, none⟩ 1 1 [.int .u8 91] rfl rfl (cells_new wr _ 5) (by intro u hu; simp at hu; subst hu; rfl) hfit.2 hfit.1 (by have := hB.size; simp; omega) ?_; intro v' w2 hown' hgrow _)
          exact plain_turn (k' := k + 1) (x := [91]) (by omega) (by omega) hol (by simp; try omega) hB ((Below.refl _ _).alloc (Nat.le_refl _) _) hown hown' hgrow hrel hstep
        | some x =>
          obtain ⟨n, ms, rest⟩ := x
          obtain ⟨next, hcl0, hn1, hn2, hn3⟩ := closing_next hs0
          have hstep0 := Lib.hid (show Gl.plain (p.data.toList.drop k) = (p.data.toList.drop k).take (p.size - k - rest.length) ++ Gl.plain rest by
            rw [hdc.out, byte_eq c1 (by decide), show Nat.toUInt8 91 = 91 from rfl, Gl.plain_set hs0]
            congr 2
            rw [List.length_drop, ← Go.Lib.size_eq]; omega)
          have hcl := Lib.hid hcl0
          have hstep := Lib.hid (show Gl.plain (p.data.toList.drop k) = (p.extract k (next + 1)).data.toList ++ Gl.plain (p.data.toList.drop (next + 1)) by
            rw [hstep0.out, ← hn3, Go.Lib.extract_data, List.length_drop, ← Go.Lib.size_eq, show p.size - k - (p.size - (next + 1)) = next + 1 - k by omega])
          have hxl : (p.extract k (next + 1)).size = next + 1 - k := by rw [Go.Lib.size_eq, Go.Lib.extract_data, List.length_take, List.length_drop, ← Go.Lib.size_eq]; omega
          have hxl2 := Lib.hid (show (p.extract k (next + 1)).data.toList.length = (p.extract k (next + 1)).size from (Go.Lib.size_eq _).symm)
          have hxm : o.length + (p.extract k (next + 1)).size ≤ 140737488355328 ∧ o.length + (p.extract k (next + 1)).size ≤ maxLen ∧ k + (p.extract k (next + 1)).size ≤ next + 1 := by rw [hxl]; unfold maxLen; omega
          clear hs0 hcl0 hn3 hxl
          go_wp2_with fail
          refine (closing_calls p k _ hp hlt).mono ?_
          rintro e w1 ⟨rfl, rfl⟩
          rw [hcl.out]
          go_wp2_with (at_builtin; refine Go.Lib.wpList_append_own_string _ rfl _ _ 37 9 rfl w.heap.size 5 i0 Try.underlying37 Try.underlying9 hi hz0 hz1 hz2 _ _ _ rfl hown (p.extract k (next + 1)) rfl hxm.2.1 hxm.1 (by have := hB.size; omega) ?_; intro v' w2 hown' hgrow _)
          exact plain_turn (k' := next + 1) (x := (p.extract k (next + 1)).data.toList) (by omega) hn2 hol (by rw [hxl2.out]; exact hxm.2.2) hB (Below.refl _ _) hown (by rw [hxl2.out]; exact hown') hgrow hrel hstep
      · by_cases c2 : (p[k].toNat : Int) = 92
        · clear c1
          by_cases h2 : k + 1 < p.size
          · have hstep := Lib.hid (show Gl.plain (p.data.toList.drop k) = [p[k + 1]] ++ Gl.plain (p.data.toList.drop (k + 2)) by rw [hdc.out, byte_eq c2 (by decide), drop_cons h2]; exact Gl.plain_esc _ _)
            go_wp2_with (at_builtin; refine wpList_append_own _ rfl _ _ 37 rfl w.heap.size 5 i0 _ 1 1 Try.underlying37 hi hz0 hz1 hz2 rfl (by decide) _ _ _ rfl (hown.alloc _) ⟨wr.heap.size, 0, none⟩ 1 1 [.int .u8 p[k + 1].toNat] rfl rfl (cells_new wr _ 5) (by intro u hu; simp at hu; subst hu; rfl) hfit.2 hfit.1 (by have := hB.size; simp; omega) ?_; intro v' w2 hown' hgrow _)
            exact plain_turn (k' := k + 2) (x := [p[k + 1]]) (by omega) (by omega) hol (by simp; try omega) hB ((Below.refl _ _).alloc (Nat.le_refl _) _) hown hown' hgrow hrel hstep
          · have hstep := Lib.hid (show Gl.plain (p.data.toList.drop k) = [92] ++ Gl.plain (p.data.toList.drop (k + 1)) by rw [hdc.out, byte_eq c2 (by decide), List.drop_of_length_le (by rw [← Go.Lib.size_eq]; omega)]; rw [Gl.plain_nil]; exact Gl.plain_esc1)
            have hnd : decide ((k : Int) + 1 < (p.size : Int)) = false := decide_eq_false (by omega)
            go_wp2_with (at_builtin; refine wpList_append_own _ rfl _ _ 37 rfl w.heap.size 5 i0 _ 1 1 Try.underlying37 hi hz0 hz1 hz2 rfl (by decide) _ _ _ rfl (hown.alloc _) ⟨wr.heap.size, 0, none⟩ 1 1 [.int .u8 92] rfl rfl (cells_new wr _ 5) (by intro u hu; simp at hu; subst hu; rfl) hfit.2 hfit.1 (by have := hB.size; simp; omega) ?_; intro v' w2 hown' hgrow _)
            exact plain_turn (k' := k + 1) (x := [92]) (by omega) (by omega) hol (by simp; try omega) hB ((Below.refl _ _).alloc (Nat.le_refl _) _) hown hown' hgrow hrel hstep
        · have hstep := Lib.hid (show Gl.plain (p.data.toList.drop k) = [p[k]] ++ Gl.plain (p.data.toList.drop (k + 1)) by
            rw [hdc.out]
            exact Gl.plain_byte _ (fun e => c2 (by rw [e]; rfl)) (fun e => c1 (by rw [e]; rfl)))
          have d1 := beq_eq_false_iff_ne.2 c1; have d2 := beq_eq_false_iff_ne.2 c2
          clear c1 c2
          go_wp2_with (at_builtin; refine wpList_append_own _ rfl _ _ 37 rfl w.heap.size 5 i0 _ 1 1 Try.underlying37 hi hz0 hz1 hz2 rfl (by decide) _ _ _ rfl (hown.alloc _) ⟨wr.heap.size, 0, none⟩ 1 1 [.int .u8 p[k].toNat] rfl rfl (cells_new wr _ 5) (by intro u hu; simp at hu; subst hu; rfl) hfit.2 hfit.1 (by have := hB.size; simp; omega) ?_; intro v' w2 hown' hgrow _)
          exact plain_turn (k' := k + 1) (x := [p[k]]) (by omega) (by omega) hol (by simp; try omega) hB ((Below.refl _ _).alloc (Nat.le_refl _) _) hown hown' hgrow hrel hstep
    · have hconv := convert_own hown
      have e := Lib.hid (show Gl.plain p.data.toList = o by
        rw [hrel.out, List.drop_of_length_le (by rw [← Go.Lib.size_eq]; omega), Gl.plain_nil, List.append_nil])
      go_wp2
      go_ret
      exact ⟨by rw [e.out]; rfl, hB⟩
end Go.Proofs.Ytfnmncghgmnaaaa
