/-
  The law GlobMatches returns true for every two strings and turns nothing that was there. Condition: both are strings of the model.
-/
import Derived.Test.YtfnmncghgmnaaaaGlobB
namespace Go.Proofs.Ytfnmncghgmnaaaa
open Go.RowKit

set_option maxHeartbeats 1000000 in
theorem matchesLaw_calls (p s : ByteArray) (w : World) (hp : p.size ≤ maxLen) (hs : s.size ≤ maxLen) :
    Calls Try.prog 4 #[.string p, .string s] w fun e w' => e = .returned (.bool true) ∧ Below w.heap.size w w' := by
  unfold maxLen at hp hs
  by_cases h1 : p.size ≤ 1500
  · by_cases h2 : s.size ≤ 1500
    · have z1 : p.size ≤ 1000000 := by omega
      have z2 : s.size ≤ 1000000 := by omega
      go_enter Try.func4, Try.ntmps4
      go_wp2_with fail
      refine (alive_calls _).mono ?_
      rintro e w1 ⟨rfl, hB⟩
      go_wp2_with fail
      refine (match_calls p s _ z1 z2).mono ?_
      rintro e w2 ⟨rfl, hB2⟩
      go_wp2_with fail
      refine (rglob_calls p s _ z1 z2).mono ?_
      rintro e w3 ⟨rfl, hB3⟩
      generalize Gl.whole true p.data.toList s.data.toList = x
      cases x
      all_goals
        go_wp2_with fail
        refine (has_calls p _ z1).mono ?_
        rintro e w4 ⟨rfl, hB4⟩
        go_wp2_with fail
        refine (rwild_calls p _ z1).mono ?_
        rintro e w5 ⟨rfl, hB5⟩
        generalize Gl.wild p.data.toList = y
        cases y
        all_goals
          go_wp2_with fail
          refine (plain_calls p _ z1).mono ?_
          rintro e w6 ⟨rfl, hB6⟩
          go_wp2_with fail
          refine (rplain_calls p _ z1).mono ?_
          rintro e w7 ⟨rfl, hB7⟩
          go_wp2
          go_ret
          exact ⟨rfl, ((((((hB7.mono' hB6).mono' hB5).mono' hB4).mono' hB3).mono' hB2).mono' hB)⟩
    · go_enter Try.func4, Try.ntmps4
      go_wp2_with fail
      refine (alive_calls _).mono ?_
      rintro e w1 ⟨rfl, hB⟩
      go_wp2
      go_ret
      exact ⟨rfl, hB⟩
  · go_enter Try.func4, Try.ntmps4
    go_wp2_with fail
    refine (alive_calls _).mono ?_
    rintro e w1 ⟨rfl, hB⟩
    go_wp2
    go_ret
    exact ⟨rfl, hB⟩
end Go.Proofs.Ytfnmncghgmnaaaa
