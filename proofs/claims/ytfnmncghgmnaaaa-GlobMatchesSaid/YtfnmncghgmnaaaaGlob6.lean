/-
  The law package's own check of fixed answers (function 16) returns true. No condition.
-/
import Derived.Test.YtfnmncghgmnaaaaGlob5
namespace Go.Proofs.Ytfnmncghgmnaaaa
open Go.RowKit

theorem live1 : Gl.whole true [42, 46, 99] [97, 46, 99] = true := by decide +kernel
theorem live2 : Gl.whole true [42, 46, 99] [46, 99] = false := by decide +kernel
theorem live3 : Gl.whole true [91, 33, 97, 45, 99, 93, 120] [100, 120] = true := by decide +kernel
theorem live4 : Gl.wild [42] = true := by decide +kernel
theorem live5 : Gl.wild [97, 92, 42] = false := by decide +kernel
theorem live6 : Gl.plain [97, 92, 42, 98] = [97, 42, 98] := by decide +kernel

set_option maxHeartbeats 400000 in
theorem alive_calls (w : World) : Calls Try.prog 16 #[] w fun e w' => e = .returned (.bool true) ∧ Below w.heap.size w w' := by
  go_enter Try.func16, Try.ntmps16
  go_wp2_with fail
  refine (match_calls ⟨#[42, 46, 99]⟩ ⟨#[97, 46, 99]⟩ _ (by decide) (by decide)).mono ?_
  rintro e w1 ⟨rfl, hB1⟩
  rw [live1]
  go_wp2_with fail
  refine (match_calls ⟨#[42, 46, 99]⟩ ⟨#[46, 99]⟩ _ (by decide) (by decide)).mono ?_
  rintro e w2 ⟨rfl, hB2⟩
  rw [live2]
  go_wp2_with fail
  refine (match_calls ⟨#[91, 33, 97, 45, 99, 93, 120]⟩ ⟨#[100, 120]⟩ _ (by decide) (by decide)).mono ?_
  rintro e w3 ⟨rfl, hB3⟩
  rw [live3]
  go_wp2_with fail
  refine (has_calls ⟨#[42]⟩ _ (by decide)).mono ?_
  rintro e w4 ⟨rfl, hB4⟩
  rw [live4]
  go_wp2_with fail
  refine (has_calls ⟨#[97, 92, 42]⟩ _ (by decide)).mono ?_
  rintro e w5 ⟨rfl, hB5⟩
  rw [live5]
  go_wp2_with fail
  refine (plain_calls ⟨#[97, 92, 42, 98]⟩ _ (by decide)).mono ?_
  rintro e w6 ⟨rfl, hB6⟩
  rw [live6]
  go_wp2_with fail
  go_ret
  exact ⟨rfl, ((((hB6.mono' hB5).mono' hB4).mono' hB3).mono' hB2).mono' hB1⟩
end Go.Proofs.Ytfnmncghgmnaaaa
