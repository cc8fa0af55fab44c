/-
  The law GlobDeep returns true for every three arguments and turns nothing that was there. Condition: the two numbers are of Go's int.
-/
import Derived.Test.YtfnmncghgmnaaaaGlobPlainWalk
namespace Go.Proofs.Ytfnmncghgmnaaaa
open Go.RowKit

/-- n times '*a'. -/
def stars : Nat → List UInt8
  | 0 => []
  | n + 1 => 42 :: 97 :: stars n
def starParts (l : List Gl.Part) : Nat → List Gl.Part
  | 0 => l
  | n + 1 => .star :: .byte 97 :: starParts l n
theorem parts_stars (r : List UInt8) : ∀ n, Gl.parts (stars n ++ r) = starParts (Gl.parts r) n
  | 0 => rfl
  | n + 1 => by
    show Gl.parts (42 :: 97 :: (stars n ++ r)) = _
    rw [Gl.parts_star, Gl.parts_byte _ (by decide) (by decide) (by decide) (by decide), parts_stars r n]; rfl
theorem stars_len : ∀ n, (stars n).length = 2 * n
  | 0 => rfl
  | n + 1 => by simp [stars, stars_len n]; omega
theorem stars_snoc : ∀ n, stars n ++ [42, 97] = stars (n + 1)
  | 0 => rfl
  | n + 1 => by show 42 :: 97 :: (stars n ++ [42, 97]) = _; rw [stars_snoc n]; rfl

/-- Stars and letters over a row of that letter. -/
theorem mt_starParts (l : List Gl.Part) : ∀ (n m : Nat), Gl.mt (starParts l n) (List.replicate m 97) = true ↔ ∃ j, j + n ≤ m ∧ (n = 0 → j = 0) ∧ Gl.mt l (List.replicate (m - n - j) 97) = true
  | 0, m => by
    constructor
    · intro h; exact ⟨0, Nat.zero_le _, fun _ => rfl, by simpa [starParts] using h⟩
    · rintro ⟨j, _, hj, h⟩; have := hj rfl; subst this; simpa [starParts] using h
  | n + 1, m => by
    show Gl.mt (.star :: .byte 97 :: starParts l n) _ = true ↔ _
    rw [Gl.mt_star]
    constructor
    · rintro ⟨j, hj, h⟩
      rw [List.drop_replicate] at h
      simp only [List.length_replicate] at hj
      cases hm : m - j with
      | zero => rw [hm, List.replicate_zero, Gl.mt_one_nil _ (by simp)] at h; cases h
      | succ k =>
        rw [hm, List.replicate_succ, Gl.mt_one _ _ _ (by simp), Bool.and_eq_true] at h
        obtain ⟨i, hi, _, h2⟩ := (mt_starParts l n k).1 h.2
        exact ⟨j + i, by omega, by omega, by rw [show m - (n + 1) - (j + i) = k - n - i by omega]; exact h2⟩
    · rintro ⟨j, hj, _, h⟩
      by_cases hn : n = 0
      · subst hn
        refine ⟨j, by simp; omega, ?_⟩
        rw [List.drop_replicate, show m - j = (m - 1 - j) + 1 by omega, List.replicate_succ, Gl.mt_one _ _ _ (by simp), Bool.and_eq_true]
        refine ⟨by simp [Gl.one], ?_⟩
        exact (mt_starParts l 0 _).2 ⟨0, by omega, fun _ => rfl, by simpa using h⟩
      · refine ⟨0, Nat.zero_le _, ?_⟩
        rw [List.drop_zero, show m = (m - 1) + 1 by omega, List.replicate_succ, Gl.mt_one _ _ _ (by simp), Bool.and_eq_true]
        refine ⟨by simp [Gl.one], ?_⟩
        exact (mt_starParts l n _).2 ⟨j, by omega, fun h => absurd h hn, by rw [show m - 1 - n - j = m - (n + 1) - j by omega]; exact h⟩

theorem hidden_rep (m : Nat) : Gl.hidden (List.replicate m 97) = false := by cases m <;> rfl
theorem whole_rep (p : List UInt8) (m : Nat) : Gl.whole true p (List.replicate m 97) = Gl.mt (Gl.parts p) (List.replicate m 97) := by
  unfold Gl.whole; rw [hidden_rep]; rfl
theorem deep_all (n m : Nat) : Gl.whole true (stars n) (List.replicate m 97) = (decide (n ≤ m) && (decide (0 < n) || decide (m = 0))) := by
  have e : Gl.parts (stars n) = starParts [] n := by have := parts_stars [] n; rwa [List.append_nil, Gl.parts_nil] at this
  rw [whole_rep, e, Bool.eq_iff_iff, mt_starParts]
  simp only [Gl.mt_nil, List.isEmpty_iff_length_eq_zero, List.length_replicate, Bool.and_eq_true, Bool.or_eq_true, decide_eq_true_eq]
  constructor
  · rintro ⟨j, h1, h2, h3⟩
    refine ⟨by omega, ?_⟩
    by_cases hn : 0 < n
    · exact Or.inl hn
    · have := h2 (by omega); exact Or.inr (by omega)
  · rintro ⟨h1, h2⟩
    exact ⟨m - n, by omega, by omega, by omega⟩
theorem deep_last (n m : Nat) : Gl.whole true (stars n ++ [42, 98]) (List.replicate m 97) = false := by
  rw [whole_rep, parts_stars, Gl.parts_star, Gl.parts_byte _ (by decide) (by decide) (by decide) (by decide), Gl.parts_nil, Bool.eq_false_iff]
  intro h
  obtain ⟨j, _, _, h⟩ := (mt_starParts _ n m).1 h
  rw [Gl.mt_star] at h
  obtain ⟨i, _, h⟩ := h
  rw [List.drop_replicate] at h
  cases hk : m - n - j - i with
  | zero => rw [hk, List.replicate_zero, Gl.mt_one_nil _ (by simp)] at h; cases h
  | succ k => rw [hk, List.replicate_succ, Gl.mt_one _ _ _ (by simp)] at h; simp [Gl.one] at h

set_option maxHeartbeats 2000000 in
theorem deepLaw_calls (n m : Int) (last : Bool) (w : World) (_hn : (Lit.int .i64 n).wf = true) (_hm : (Lit.int .i64 m).wf = true) :
    Calls Try.prog 7 #[.int .i64 n, .int .i64 m, .bool last] w fun e w' => e = .returned (.bool true) ∧ Below w.heap.size w w' := by
  by_cases hin : 0 ≤ n ∧ n ≤ 500 ∧ 0 ≤ m ∧ m ≤ 1000
  · obtain ⟨h1, h2, h3, h4⟩ := hin
    obtain ⟨n, rfl⟩ := Int.eq_ofNat_of_zero_le h1
    obtain ⟨m, rfl⟩ := Int.eq_ofNat_of_zero_le h3
    go_enter Try.func7, Try.ntmps7
    go_wp2_with fail
    refine (alive_calls _).mono ?_
    rintro e w1 ⟨rfl, hB⟩
    go_wp2_with fail
    go_loop [8, 9] (fun t i => ∃ (k : Nat) (P : ByteArray), k ≤ n ∧ i = .int .i64 k ∧ t = .string P ∧ P.size ≤ 2 * k ∧ Hid (P.data.toList = stars k)) (fun _ i => n - (intOf i).toNat)
    case atStart => exact ⟨0, ⟨#[]⟩, Nat.zero_le _, rfl, rfl, Nat.le_refl _, rfl⟩
    case round =>
      obtain ⟨k, P, hk, rfl, rfl, hPs, hP⟩ := hrel
      by_cases hlt : k < n
      · have hn1 := Lib.hid (show (P ++ ⟨#[42, 97]⟩).data.toList = stars (k + 1) by rw [ba_append, hP.out, ← stars_snoc])
        have hn2 := Lib.hid (show (P ++ ⟨#[42, 97]⟩).size ≤ 2 * (k + 1) by rw [Go.Lib.size_eq, hn1.out, stars_len]; omega)
        go_wp2
        exact ⟨⟨k + 1, _, by omega, by go_num, rfl, hn2.out, hn1⟩, by simp [intOf]; omega⟩
      · have e : k = n := by omega
        subst e
        go_wp2_with fail
        go_loop [10, 11] (fun t i => ∃ (j : Nat) (S : ByteArray), j ≤ m ∧ i = .int .i64 j ∧ t = .string S ∧ S.size ≤ j ∧ Hid (S.data.toList = List.replicate j 97)) (fun _ i => m - (intOf i).toNat)
        case atStart => exact ⟨0, ⟨#[]⟩, Nat.zero_le _, rfl, rfl, Nat.le_refl _, rfl⟩
        case round =>
          obtain ⟨j, S, hj, rfl, rfl, hSs, hS⟩ := hrel
          by_cases hlt2 : j < m
          · have hn1 := Lib.hid (show (S ++ ⟨#[97]⟩).data.toList = List.replicate (j + 1) 97 by rw [ba_append, hS.out, List.replicate_succ'])
            have hn2 := Lib.hid (show (S ++ ⟨#[97]⟩).size ≤ j + 1 by rw [Go.Lib.size_eq, hn1.out, List.length_replicate]; exact Nat.le_refl _)
            go_wp2
            exact ⟨⟨j + 1, _, by omega, by go_num, rfl, hn2.out, hn1⟩, by simp [intOf]; omega⟩
          · have e : j = m := by omega
            subst e
            cases last with
            | true =>
              have hl := Lib.hid (show Gl.whole true (P ++ ⟨#[42, 98]⟩).data.toList S.data.toList = false by
                rw [ba_append, hP.out, hS.out]; exact deep_last _ _)
              have hls : (P ++ ⟨#[42, 98]⟩).size ≤ 1000000 := by rw [Go.Lib.size_eq, ba_append, List.length_append, ← Go.Lib.size_eq]; show P.size + 2 ≤ 1000000; omega
              go_wp2_with fail
              have hsz : S.size ≤ 1000000 := by omega
              refine (match_calls _ S _ ?_ hsz).mono ?_
              · exact hls
              rintro e1 w2 ⟨rfl, hB2⟩
              rw [hl.out]
              go_wp2
              go_ret
              exact ⟨rfl, hB2.mono' hB⟩
            | false =>
              have hszP : P.size ≤ 1000000 := by omega
              have hszS : S.size ≤ 1000000 := by omega
              have hl := Lib.hid (show Gl.whole true P.data.toList S.data.toList = (decide (k ≤ j) && (decide (0 < k) || decide (j = 0))) by
                rw [hP.out, hS.out]; exact deep_all _ _)
              by_cases a1 : k ≤ j
              · by_cases a2 : 0 < k
                · have hl2 := Lib.hid (show Gl.whole true P.data.toList S.data.toList = true by rw [hl.out, decide_eq_true a1, decide_eq_true a2]; rfl)
                  go_wp2_with fail
                  refine (match_calls P S _ hszP hszS).mono ?_
                  rintro e1 w2 ⟨rfl, hB2⟩
                  rw [hl2.out]
                  go_wp2
                  go_ret
                  exact ⟨rfl, hB2.mono' hB⟩
                · by_cases a3 : j = 0
                  · have hl2 := Lib.hid (show Gl.whole true P.data.toList S.data.toList = true by rw [hl.out, decide_eq_true a1, decide_eq_true a3]; simp)
                    have b3 : ((j : Int) == 0) = true := beq_iff_eq.2 (by omega)
                    clear a3
                    go_wp2_with fail
                    refine (match_calls P S _ hszP hszS).mono ?_
                    rintro e1 w2 ⟨rfl, hB2⟩
                    rw [hl2.out]
                    go_wp2
                    go_ret
                    exact ⟨rfl, hB2.mono' hB⟩
                  · have hl2 := Lib.hid (show Gl.whole true P.data.toList S.data.toList = false by rw [hl.out, decide_eq_false a2, decide_eq_false a3]; simp)
                    have b3 : ((j : Int) == 0) = false := beq_eq_false_iff_ne.2 (by omega)
                    go_wp2_with fail
                    refine (match_calls P S _ hszP hszS).mono ?_
                    rintro e1 w2 ⟨rfl, hB2⟩
                    rw [hl2.out]
                    go_wp2
                    go_ret
                    exact ⟨rfl, hB2.mono' hB⟩
              · have hl2 := Lib.hid (show Gl.whole true P.data.toList S.data.toList = false by rw [hl.out, decide_eq_false a1]; rfl)
                go_wp2_with fail
                refine (match_calls P S _ hszP hszS).mono ?_
                rintro e1 w2 ⟨rfl, hB2⟩
                rw [hl2.out]
                go_wp2
                go_ret
                exact ⟨rfl, hB2.mono' hB⟩
  · by_cases h1 : n < 0
    · go_enter Try.func7, Try.ntmps7
      go_wp2_with fail
      refine (alive_calls _).mono ?_
      rintro e w1 ⟨rfl, hB⟩
      go_wp2
      go_ret
      exact ⟨rfl, hB⟩
    · by_cases h2 : 500 < n
      · go_enter Try.func7, Try.ntmps7
        go_wp2_with fail
        refine (alive_calls _).mono ?_
        rintro e w1 ⟨rfl, hB⟩
        go_wp2
        go_ret
        exact ⟨rfl, hB⟩
      · by_cases h3 : m < 0
        · go_enter Try.func7, Try.ntmps7
          go_wp2_with fail
          refine (alive_calls _).mono ?_
          rintro e w1 ⟨rfl, hB⟩
          go_wp2
          go_ret
          exact ⟨rfl, hB⟩
        · have h4 : 1000 < m := by omega
          clear hin
          go_enter Try.func7, Try.ntmps7
          go_wp2_with fail
          refine (alive_calls _).mono ?_
          rintro e w1 ⟨rfl, hB⟩
          go_wp2
          go_ret
          exact ⟨rfl, hB⟩
end Go.Proofs.Ytfnmncghgmnaaaa
