/-
  Is a name special (39)? Conditions: none.
-/
import Derived.Test.YtfnmncghgmnaaabDb4
namespace Go.Proofs.Ytfnmncghgmnaaab
open Go.RowKit

def specials : List ByteArray := [⟨#[46, 80, 72, 79, 78, 89]⟩, ⟨#[46, 83, 85, 70, 70, 73, 88, 69, 83]⟩, ⟨#[46, 68, 69, 70, 65, 85, 76, 84]⟩, ⟨#[46, 80, 82, 69, 67, 73, 79, 85, 83]⟩, ⟨#[46, 73, 78, 84, 69, 82, 77, 69, 68, 73, 65, 84, 69]⟩, ⟨#[46, 83, 69, 67, 79, 78, 68, 65, 82, 89]⟩, ⟨#[46, 83, 69, 67, 79, 78, 68, 69, 88, 80, 65, 78, 83, 73, 79, 78]⟩, ⟨#[46, 68, 69, 76, 69, 84, 69, 95, 79, 78, 95, 69, 82, 82, 79, 82]⟩, ⟨#[46, 73, 71, 78, 79, 82, 69]⟩, ⟨#[46, 83, 73, 76, 69, 78, 84]⟩, ⟨#[46, 79, 78, 69, 83, 72, 69, 76, 76]⟩, ⟨#[46, 78, 79, 84, 80, 65, 82, 65, 76, 76, 69, 76]⟩]
set_option maxHeartbeats 1000000 in
theorem special_calls (s : ByteArray) (w : World) :
    Calls Try.prog 39 #[.string s] w fun e w' => e = .returned (.bool (inL s specials)) ∧ w = w' := by
  by_cases h0 : s = ⟨#[46, 80, 72, 79, 78, 89]⟩
  · subst h0
    have hh := Lib.hid (show inL ⟨#[46, 80, 72, 79, 78, 89]⟩ specials = true by decide +kernel)
    skip
    go_enter Try.func39, Try.ntmps39
    go_wp2
    go_ret
    exact ⟨by rw [hh.out]; rfl, rfl⟩
  by_cases h1 : s = ⟨#[46, 83, 85, 70, 70, 73, 88, 69, 83]⟩
  · subst h1
    have hh := Lib.hid (show inL ⟨#[46, 83, 85, 70, 70, 73, 88, 69, 83]⟩ specials = true by decide +kernel)
    clear h0
    go_enter Try.func39, Try.ntmps39
    go_wp2
    go_ret
    exact ⟨by rw [hh.out]; rfl, rfl⟩
  by_cases h2 : s = ⟨#[46, 68, 69, 70, 65, 85, 76, 84]⟩
  · subst h2
    have hh := Lib.hid (show inL ⟨#[46, 68, 69, 70, 65, 85, 76, 84]⟩ specials = true by decide +kernel)
    clear h0 h1
    go_enter Try.func39, Try.ntmps39
    go_wp2
    go_ret
    exact ⟨by rw [hh.out]; rfl, rfl⟩
  by_cases h3 : s = ⟨#[46, 80, 82, 69, 67, 73, 79, 85, 83]⟩
  · subst h3
    have hh := Lib.hid (show inL ⟨#[46, 80, 82, 69, 67, 73, 79, 85, 83]⟩ specials = true by decide +kernel)
    clear h0 h1 h2
    go_enter Try.func39, Try.ntmps39
    go_wp2
    go_ret
    exact ⟨by rw [hh.out]; rfl, rfl⟩
  by_cases h4 : s = ⟨#[46, 73, 78, 84, 69, 82, 77, 69, 68, 73, 65, 84, 69]⟩
  · subst h4
    have hh := Lib.hid (show inL ⟨#[46, 73, 78, 84, 69, 82, 77, 69, 68, 73, 65, 84, 69]⟩ specials = true by decide +kernel)
    clear h0 h1 h2 h3
    go_enter Try.func39, Try.ntmps39
    go_wp2
    go_ret
    exact ⟨by rw [hh.out]; rfl, rfl⟩
  by_cases h5 : s = ⟨#[46, 83, 69, 67, 79, 78, 68, 65, 82, 89]⟩
  · subst h5
    have hh := Lib.hid (show inL ⟨#[46, 83, 69, 67, 79, 78, 68, 65, 82, 89]⟩ specials = true by decide +kernel)
    clear h0 h1 h2 h3 h4
    go_enter Try.func39, Try.ntmps39
    go_wp2
    go_ret
    exact ⟨by rw [hh.out]; rfl, rfl⟩
  by_cases h6 : s = ⟨#[46, 83, 69, 67, 79, 78, 68, 69, 88, 80, 65, 78, 83, 73, 79, 78]⟩
  · subst h6
    have hh := Lib.hid (show inL ⟨#[46, 83, 69, 67, 79, 78, 68, 69, 88, 80, 65, 78, 83, 73, 79, 78]⟩ specials = true by decide +kernel)
    clear h0 h1 h2 h3 h4 h5
    go_enter Try.func39, Try.ntmps39
    go_wp2
    go_ret
    exact ⟨by rw [hh.out]; rfl, rfl⟩
  by_cases h7 : s = ⟨#[46, 68, 69, 76, 69, 84, 69, 95, 79, 78, 95, 69, 82, 82, 79, 82]⟩
  · subst h7
    have hh := Lib.hid (show inL ⟨#[46, 68, 69, 76, 69, 84, 69, 95, 79, 78, 95, 69, 82, 82, 79, 82]⟩ specials = true by decide +kernel)
    clear h0 h1 h2 h3 h4 h5 h6
    go_enter Try.func39, Try.ntmps39
    go_wp2
    go_ret
    exact ⟨by rw [hh.out]; rfl, rfl⟩
  by_cases h8 : s = ⟨#[46, 73, 71, 78, 79, 82, 69]⟩
  · subst h8
    have hh := Lib.hid (show inL ⟨#[46, 73, 71, 78, 79, 82, 69]⟩ specials = true by decide +kernel)
    clear h0 h1 h2 h3 h4 h5 h6 h7
    go_enter Try.func39, Try.ntmps39
    go_wp2
    go_ret
    exact ⟨by rw [hh.out]; rfl, rfl⟩
  by_cases h9 : s = ⟨#[46, 83, 73, 76, 69, 78, 84]⟩
  · subst h9
    have hh := Lib.hid (show inL ⟨#[46, 83, 73, 76, 69, 78, 84]⟩ specials = true by decide +kernel)
    clear h0 h1 h2 h3 h4 h5 h6 h7 h8
    go_enter Try.func39, Try.ntmps39
    go_wp2
    go_ret
    exact ⟨by rw [hh.out]; rfl, rfl⟩
  by_cases h10 : s = ⟨#[46, 79, 78, 69, 83, 72, 69, 76, 76]⟩
  · subst h10
    have hh := Lib.hid (show inL ⟨#[46, 79, 78, 69, 83, 72, 69, 76, 76]⟩ specials = true by decide +kernel)
    clear h0 h1 h2 h3 h4 h5 h6 h7 h8 h9
    go_enter Try.func39, Try.ntmps39
    go_wp2
    go_ret
    exact ⟨by rw [hh.out]; rfl, rfl⟩
  by_cases h11 : s = ⟨#[46, 78, 79, 84, 80, 65, 82, 65, 76, 76, 69, 76]⟩
  · subst h11
    have hh := Lib.hid (show inL ⟨#[46, 78, 79, 84, 80, 65, 82, 65, 76, 76, 69, 76]⟩ specials = true by decide +kernel)
    clear h0 h1 h2 h3 h4 h5 h6 h7 h8 h9 h10
    go_enter Try.func39, Try.ntmps39
    go_wp2
    go_ret
    exact ⟨by rw [hh.out]; rfl, rfl⟩
  have hh := Lib.hid (show inL s specials = false by
    rw [Bool.eq_false_iff]; intro h; rw [inL_iff] at h; simp only [specials, List.mem_cons, List.not_mem_nil, or_false] at h
    rcases h with h | h | h | h | h | h | h | h | h | h | h | h
    · exact h0 h
    · exact h1 h
    · exact h2 h
    · exact h3 h
    · exact h4 h
    · exact h5 h
    · exact h6 h
    · exact h7 h
    · exact h8 h
    · exact h9 h
    · exact h10 h
    · exact h11 h)
  have g0 : (s.toList == [46, 80, 72, 79, 78, 89]) = false := by have := ba_beq s ⟨#[46, 80, 72, 79, 78, 89]⟩; rw [decide_eq_false h0, Go.Lib.toList_data ⟨#[46, 80, 72, 79, 78, 89]⟩] at this; exact this
  have g1 : (s.toList == [46, 83, 85, 70, 70, 73, 88, 69, 83]) = false := by have := ba_beq s ⟨#[46, 83, 85, 70, 70, 73, 88, 69, 83]⟩; rw [decide_eq_false h1, Go.Lib.toList_data ⟨#[46, 83, 85, 70, 70, 73, 88, 69, 83]⟩] at this; exact this
  have g2 : (s.toList == [46, 68, 69, 70, 65, 85, 76, 84]) = false := by have := ba_beq s ⟨#[46, 68, 69, 70, 65, 85, 76, 84]⟩; rw [decide_eq_false h2, Go.Lib.toList_data ⟨#[46, 68, 69, 70, 65, 85, 76, 84]⟩] at this; exact this
  have g3 : (s.toList == [46, 80, 82, 69, 67, 73, 79, 85, 83]) = false := by have := ba_beq s ⟨#[46, 80, 82, 69, 67, 73, 79, 85, 83]⟩; rw [decide_eq_false h3, Go.Lib.toList_data ⟨#[46, 80, 82, 69, 67, 73, 79, 85, 83]⟩] at this; exact this
  have g4 : (s.toList == [46, 73, 78, 84, 69, 82, 77, 69, 68, 73, 65, 84, 69]) = false := by have := ba_beq s ⟨#[46, 73, 78, 84, 69, 82, 77, 69, 68, 73, 65, 84, 69]⟩; rw [decide_eq_false h4, Go.Lib.toList_data ⟨#[46, 73, 78, 84, 69, 82, 77, 69, 68, 73, 65, 84, 69]⟩] at this; exact this
  have g5 : (s.toList == [46, 83, 69, 67, 79, 78, 68, 65, 82, 89]) = false := by have := ba_beq s ⟨#[46, 83, 69, 67, 79, 78, 68, 65, 82, 89]⟩; rw [decide_eq_false h5, Go.Lib.toList_data ⟨#[46, 83, 69, 67, 79, 78, 68, 65, 82, 89]⟩] at this; exact this
  have g6 : (s.toList == [46, 83, 69, 67, 79, 78, 68, 69, 88, 80, 65, 78, 83, 73, 79, 78]) = false := by have := ba_beq s ⟨#[46, 83, 69, 67, 79, 78, 68, 69, 88, 80, 65, 78, 83, 73, 79, 78]⟩; rw [decide_eq_false h6, Go.Lib.toList_data ⟨#[46, 83, 69, 67, 79, 78, 68, 69, 88, 80, 65, 78, 83, 73, 79, 78]⟩] at this; exact this
  have g7 : (s.toList == [46, 68, 69, 76, 69, 84, 69, 95, 79, 78, 95, 69, 82, 82, 79, 82]) = false := by have := ba_beq s ⟨#[46, 68, 69, 76, 69, 84, 69, 95, 79, 78, 95, 69, 82, 82, 79, 82]⟩; rw [decide_eq_false h7, Go.Lib.toList_data ⟨#[46, 68, 69, 76, 69, 84, 69, 95, 79, 78, 95, 69, 82, 82, 79, 82]⟩] at this; exact this
  have g8 : (s.toList == [46, 73, 71, 78, 79, 82, 69]) = false := by have := ba_beq s ⟨#[46, 73, 71, 78, 79, 82, 69]⟩; rw [decide_eq_false h8, Go.Lib.toList_data ⟨#[46, 73, 71, 78, 79, 82, 69]⟩] at this; exact this
  have g9 : (s.toList == [46, 83, 73, 76, 69, 78, 84]) = false := by have := ba_beq s ⟨#[46, 83, 73, 76, 69, 78, 84]⟩; rw [decide_eq_false h9, Go.Lib.toList_data ⟨#[46, 83, 73, 76, 69, 78, 84]⟩] at this; exact this
  have g10 : (s.toList == [46, 79, 78, 69, 83, 72, 69, 76, 76]) = false := by have := ba_beq s ⟨#[46, 79, 78, 69, 83, 72, 69, 76, 76]⟩; rw [decide_eq_false h10, Go.Lib.toList_data ⟨#[46, 79, 78, 69, 83, 72, 69, 76, 76]⟩] at this; exact this
  have g11 : (s.toList == [46, 78, 79, 84, 80, 65, 82, 65, 76, 76, 69, 76]) = false := by have := ba_beq s ⟨#[46, 78, 79, 84, 80, 65, 82, 65, 76, 76, 69, 76]⟩; rw [decide_eq_false h11, Go.Lib.toList_data ⟨#[46, 78, 79, 84, 80, 65, 82, 65, 76, 76, 69, 76]⟩] at this; exact this
  clear h0 h1 h2 h3 h4 h5 h6 h7 h8 h9 h10 h11
  go_enter Try.func39, Try.ntmps39
  go_wp2
  go_ret
  exact ⟨by rw [hh.out]; rfl, rfl⟩
end Go.Proofs.Ytfnmncghgmnaaab
