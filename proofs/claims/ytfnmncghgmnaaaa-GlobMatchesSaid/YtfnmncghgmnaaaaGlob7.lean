/-
  The reference's glob: closing, member, one, pieces, Wild, Plain (functions 38, 44, 35, 34, 20, 22) answer what the plain side says. Condition: patterns and names have at most 1,000,000 bytes.
-/
import Derived.Test.YtfnmncghgmnaaaaGlob6
namespace Go.Proofs.Ytfnmncghgmnaaaa
open Go.RowKit

/-- Where the first ']' from a place on is. -/
def fromIdx (p : ByteArray) (i : Nat) : Int := match Gl.idx 93 (p.data.toList.drop i) with | some e => ((i + e : Nat) : Int) | none => -1
/-- What the reference's 'closing' answers. -/
def closingOf (p : ByteArray) (at_ : Nat) : Int := match Gl.setOf (p.data.toList.drop (at_ + 1)) with | some (_, _, rest) => ((p.size - rest.length - 1 : Nat) : Int) | none => -1

theorem fromIdx_hit {p : ByteArray} {i : Nat} (hlt : i < p.size) (hc : (p[i].toNat : Int) = 93) : fromIdx p i = i := by
  unfold fromIdx; rw [drop_cons hlt]; simp [Gl.idx, byte_eq hc (by decide)]
theorem fromIdx_next {p : ByteArray} {i : Nat} (hlt : i < p.size) (hc : ¬ (p[i].toNat : Int) = 93) : fromIdx p i = fromIdx p (i + 1) := by
  unfold fromIdx; rw [drop_cons hlt]
  have hne : p[i] ≠ 93 := fun e => hc (by rw [e]; rfl)
  simp only [Gl.idx, if_neg hne]
  cases Gl.idx 93 (p.data.toList.drop (i + 1)) with
  | none => rfl
  | some e => simp; omega
theorem fromIdx_end {p : ByteArray} {i : Nat} (h : p.size ≤ i) : fromIdx p i = -1 := by
  unfold fromIdx; rw [List.drop_of_length_le (by rw [← Go.Lib.size_eq]; exact h)]; rfl
theorem closing_end {p : ByteArray} {at_ j : Nat} (hr : Gl.body (p.data.toList.drop (at_ + 1)) = p.data.toList.drop j) : closingOf p at_ = (if j < p.size then fromIdx p (j + 1) else -1) := by
  unfold closingOf
  by_cases hlt : j < p.size
  · rw [if_pos hlt, set_at hr (by rw [← Go.Lib.size_eq]; exact hlt)]
    unfold fromIdx
    cases h : Gl.idx 93 (p.data.toList.drop (j + 1)) with
    | none => rfl
    | some e =>
      have hl := Gl.idx_lt h
      rw [List.length_drop, ← Go.Lib.size_eq] at hl
      simp only [List.length_drop, ← Go.Lib.size_eq]
      congr 1; omega
  · rw [if_neg hlt, set_at_none hr (by rw [← Go.Lib.size_eq]; omega)]

set_option maxHeartbeats 400000 in
theorem closing_a (p : ByteArray) (at_ : Nat) (w : World) (hp : p.size ≤ 1000000) (h1 : at_ + 1 < p.size) (c1 : (p[at_ + 1].toNat : Int) = 33) :
    Calls Try.prog 38 #[.string p, .int .i64 at_] w fun e w' => e = .returned (.int .i64 (closingOf p at_)) ∧ w = w' := by
  have gb := Lib.hid (closing_end (neg_yes h1 (Or.inl c1)).2)
  by_cases h3 : at_ + 1 + 1 < p.size
  · by_cases c3 : (p[at_ + 1 + 1].toNat : Int) = 93
    · have ge := Lib.hid (gb.out.trans (if_pos h3))
      go_enter Try.func38, Try.ntmps38
      go_wp2_with fail
      go_loop [5] (fun i => ∃ m : Nat, m ≤ p.size ∧ i = .int .i64 m ∧ Hid (closingOf p at_ = fromIdx p m)) (fun i => p.size - (intOf i).toNat)
      case atStart => exact ⟨at_ + 1 + 1 + 1, by omega, by first | rfl | go_num, ge⟩
      case round =>
        obtain ⟨m, hm, rfl, hrel⟩ := hrel
        by_cases hlt : m < p.size
        · by_cases hc : (p[m].toNat : Int) = 93
          · have hh := Lib.hid (hrel.out.trans (fromIdx_hit hlt hc))
            go_wp2
            go_ret
            exact ⟨by rw [hh.out]; rfl, rfl⟩
          · have hh := Lib.hid (hrel.out.trans (fromIdx_next hlt hc))
            have d := beq_eq_false_iff_ne.2 hc
            clear hc
            go_wp2
            exact ⟨⟨m + 1, by omega, by go_num, hh⟩, by simp [intOf]; omega⟩
        · have hh := Lib.hid (hrel.out.trans (fromIdx_end (by omega)))
          go_wp2
          go_ret
          exact ⟨by rw [hh.out]; rfl, rfl⟩
    · have ge := Lib.hid ((gb.out.trans (if_pos h3)).trans (fromIdx_next h3 c3).symm)
      have d3 := beq_eq_false_iff_ne.2 c3
      clear c3
      go_enter Try.func38, Try.ntmps38
      go_wp2_with fail
      go_loop [5] (fun i => ∃ m : Nat, m ≤ p.size ∧ i = .int .i64 m ∧ Hid (closingOf p at_ = fromIdx p m)) (fun i => p.size - (intOf i).toNat)
      case atStart => exact ⟨at_ + 1 + 1, by omega, by first | rfl | go_num, ge⟩
      case round =>
        obtain ⟨m, hm, rfl, hrel⟩ := hrel
        by_cases hlt : m < p.size
        · by_cases hc : (p[m].toNat : Int) = 93
          · have hh := Lib.hid (hrel.out.trans (fromIdx_hit hlt hc))
            go_wp2
            go_ret
            exact ⟨by rw [hh.out]; rfl, rfl⟩
          · have hh := Lib.hid (hrel.out.trans (fromIdx_next hlt hc))
            have d := beq_eq_false_iff_ne.2 hc
            clear hc
            go_wp2
            exact ⟨⟨m + 1, by omega, by go_num, hh⟩, by simp [intOf]; omega⟩
        · have hh := Lib.hid (hrel.out.trans (fromIdx_end (by omega)))
          go_wp2
          go_ret
          exact ⟨by rw [hh.out]; rfl, rfl⟩
  · have ge := Lib.hid ((gb.out.trans (if_neg h3)).trans (fromIdx_end (p := p) (i := at_ + 1 + 1) (by omega)).symm)
    go_enter Try.func38, Try.ntmps38
    go_wp2_with fail
    go_loop [5] (fun i => ∃ m : Nat, m ≤ p.size ∧ i = .int .i64 m ∧ Hid (closingOf p at_ = fromIdx p m)) (fun i => p.size - (intOf i).toNat)
    case atStart => exact ⟨at_ + 1 + 1, by omega, by first | rfl | go_num, ge⟩
    case round =>
      obtain ⟨m, hm, rfl, hrel⟩ := hrel
      by_cases hlt : m < p.size
      · by_cases hc : (p[m].toNat : Int) = 93
        · have hh := Lib.hid (hrel.out.trans (fromIdx_hit hlt hc))
          go_wp2
          go_ret
          exact ⟨by rw [hh.out]; rfl, rfl⟩
        · have hh := Lib.hid (hrel.out.trans (fromIdx_next hlt hc))
          have d := beq_eq_false_iff_ne.2 hc
          clear hc
          go_wp2
          exact ⟨⟨m + 1, by omega, by go_num, hh⟩, by simp [intOf]; omega⟩
      · have hh := Lib.hid (hrel.out.trans (fromIdx_end (by omega)))
        go_wp2
        go_ret
        exact ⟨by rw [hh.out]; rfl, rfl⟩

set_option maxHeartbeats 400000 in
theorem closing_b (p : ByteArray) (at_ : Nat) (w : World) (hp : p.size ≤ 1000000) (h1 : at_ + 1 < p.size) (c1 : (p[at_ + 1].toNat : Int) = 94) :
    Calls Try.prog 38 #[.string p, .int .i64 at_] w fun e w' => e = .returned (.int .i64 (closingOf p at_)) ∧ w = w' := by
  have gb := Lib.hid (closing_end (neg_yes h1 (Or.inr c1)).2)
  by_cases h3 : at_ + 1 + 1 < p.size
  · by_cases c3 : (p[at_ + 1 + 1].toNat : Int) = 93
    · have ge := Lib.hid (gb.out.trans (if_pos h3))
      go_enter Try.func38, Try.ntmps38
      go_wp2_with fail
      go_loop [5] (fun i => ∃ m : Nat, m ≤ p.size ∧ i = .int .i64 m ∧ Hid (closingOf p at_ = fromIdx p m)) (fun i => p.size - (intOf i).toNat)
      case atStart => exact ⟨at_ + 1 + 1 + 1, by omega, by first | rfl | go_num, ge⟩
      case round =>
        obtain ⟨m, hm, rfl, hrel⟩ := hrel
        by_cases hlt : m < p.size
        · by_cases hc : (p[m].toNat : Int) = 93
          · have hh := Lib.hid (hrel.out.trans (fromIdx_hit hlt hc))
            go_wp2
            go_ret
            exact ⟨by rw [hh.out]; rfl, rfl⟩
          · have hh := Lib.hid (hrel.out.trans (fromIdx_next hlt hc))
            have d := beq_eq_false_iff_ne.2 hc
            clear hc
            go_wp2
            exact ⟨⟨m + 1, by omega, by go_num, hh⟩, by simp [intOf]; omega⟩
        · have hh := Lib.hid (hrel.out.trans (fromIdx_end (by omega)))
          go_wp2
          go_ret
          exact ⟨by rw [hh.out]; rfl, rfl⟩
    · have ge := Lib.hid ((gb.out.trans (if_pos h3)).trans (fromIdx_next h3 c3).symm)
      have d3 := beq_eq_false_iff_ne.2 c3
      clear c3
      go_enter Try.func38, Try.ntmps38
      go_wp2_with fail
      go_loop [5] (fun i => ∃ m : Nat, m ≤ p.size ∧ i = .int .i64 m ∧ Hid (closingOf p at_ = fromIdx p m)) (fun i => p.size - (intOf i).toNat)
      case atStart => exact ⟨at_ + 1 + 1, by omega, by first | rfl | go_num, ge⟩
      case round =>
        obtain ⟨m, hm, rfl, hrel⟩ := hrel
        by_cases hlt : m < p.size
        · by_cases hc : (p[m].toNat : Int) = 93
          · have hh := Lib.hid (hrel.out.trans (fromIdx_hit hlt hc))
            go_wp2
            go_ret
            exact ⟨by rw [hh.out]; rfl, rfl⟩
          · have hh := Lib.hid (hrel.out.trans (fromIdx_next hlt hc))
            have d := beq_eq_false_iff_ne.2 hc
            clear hc
            go_wp2
            exact ⟨⟨m + 1, by omega, by go_num, hh⟩, by simp [intOf]; omega⟩
        · have hh := Lib.hid (hrel.out.trans (fromIdx_end (by omega)))
          go_wp2
          go_ret
          exact ⟨by rw [hh.out]; rfl, rfl⟩
  · have ge := Lib.hid ((gb.out.trans (if_neg h3)).trans (fromIdx_end (p := p) (i := at_ + 1 + 1) (by omega)).symm)
    go_enter Try.func38, Try.ntmps38
    go_wp2_with fail
    go_loop [5] (fun i => ∃ m : Nat, m ≤ p.size ∧ i = .int .i64 m ∧ Hid (closingOf p at_ = fromIdx p m)) (fun i => p.size - (intOf i).toNat)
    case atStart => exact ⟨at_ + 1 + 1, by omega, by first | rfl | go_num, ge⟩
    case round =>
      obtain ⟨m, hm, rfl, hrel⟩ := hrel
      by_cases hlt : m < p.size
      · by_cases hc : (p[m].toNat : Int) = 93
        · have hh := Lib.hid (hrel.out.trans (fromIdx_hit hlt hc))
          go_wp2
          go_ret
          exact ⟨by rw [hh.out]; rfl, rfl⟩
        · have hh := Lib.hid (hrel.out.trans (fromIdx_next hlt hc))
          have d := beq_eq_false_iff_ne.2 hc
          clear hc
          go_wp2
          exact ⟨⟨m + 1, by omega, by go_num, hh⟩, by simp [intOf]; omega⟩
      · have hh := Lib.hid (hrel.out.trans (fromIdx_end (by omega)))
        go_wp2
        go_ret
        exact ⟨by rw [hh.out]; rfl, rfl⟩

set_option maxHeartbeats 400000 in
theorem closing_c (p : ByteArray) (at_ : Nat) (w : World) (hp : p.size ≤ 1000000) (h1 : at_ + 1 < p.size) (c1 : ¬ (p[at_ + 1].toNat : Int) = 33) (c2 : ¬ (p[at_ + 1].toNat : Int) = 94) :
    Calls Try.prog 38 #[.string p, .int .i64 at_] w fun e w' => e = .returned (.int .i64 (closingOf p at_)) ∧ w = w' := by
  have gb := Lib.hid (closing_end (neg_no h1 c1 c2).2)
  have d1 := beq_eq_false_iff_ne.2 c1; have d2 := beq_eq_false_iff_ne.2 c2; clear c1 c2
  by_cases h3 : at_ + 1 < p.size
  · by_cases c3 : (p[at_ + 1].toNat : Int) = 93
    · have ge := Lib.hid (gb.out.trans (if_pos h3))
      go_enter Try.func38, Try.ntmps38
      go_wp2_with fail
      go_loop [5] (fun i => ∃ m : Nat, m ≤ p.size ∧ i = .int .i64 m ∧ Hid (closingOf p at_ = fromIdx p m)) (fun i => p.size - (intOf i).toNat)
      case atStart => exact ⟨at_ + 1 + 1, by omega, by first | rfl | go_num, ge⟩
      case round =>
        obtain ⟨m, hm, rfl, hrel⟩ := hrel
        by_cases hlt : m < p.size
        · by_cases hc : (p[m].toNat : Int) = 93
          · have hh := Lib.hid (hrel.out.trans (fromIdx_hit hlt hc))
            go_wp2
            go_ret
            exact ⟨by rw [hh.out]; rfl, rfl⟩
          · have hh := Lib.hid (hrel.out.trans (fromIdx_next hlt hc))
            have d := beq_eq_false_iff_ne.2 hc
            clear hc
            go_wp2
            exact ⟨⟨m + 1, by omega, by go_num, hh⟩, by simp [intOf]; omega⟩
        · have hh := Lib.hid (hrel.out.trans (fromIdx_end (by omega)))
          go_wp2
          go_ret
          exact ⟨by rw [hh.out]; rfl, rfl⟩
    · have ge := Lib.hid ((gb.out.trans (if_pos h3)).trans (fromIdx_next h3 c3).symm)
      have d3 := beq_eq_false_iff_ne.2 c3
      clear c3
      go_enter Try.func38, Try.ntmps38
      go_wp2_with fail
      go_loop [5] (fun i => ∃ m : Nat, m ≤ p.size ∧ i = .int .i64 m ∧ Hid (closingOf p at_ = fromIdx p m)) (fun i => p.size - (intOf i).toNat)
      case atStart => exact ⟨at_ + 1, by omega, by first | rfl | go_num, ge⟩
      case round =>
        obtain ⟨m, hm, rfl, hrel⟩ := hrel
        by_cases hlt : m < p.size
        · by_cases hc : (p[m].toNat : Int) = 93
          · have hh := Lib.hid (hrel.out.trans (fromIdx_hit hlt hc))
            go_wp2
            go_ret
            exact ⟨by rw [hh.out]; rfl, rfl⟩
          · have hh := Lib.hid (hrel.out.trans (fromIdx_next hlt hc))
            have d := beq_eq_false_iff_ne.2 hc
            clear hc
            go_wp2
            exact ⟨⟨m + 1, by omega, by go_num, hh⟩, by simp [intOf]; omega⟩
        · have hh := Lib.hid (hrel.out.trans (fromIdx_end (by omega)))
          go_wp2
          go_ret
          exact ⟨by rw [hh.out]; rfl, rfl⟩
  · exact absurd h1 h3

set_option maxHeartbeats 400000 in
theorem closing_calls (p : ByteArray) (at_ : Nat) (w : World) (hp : p.size ≤ 1000000) (hat : at_ < p.size) :
    Calls Try.prog 38 #[.string p, .int .i64 at_] w fun e w' => e = .returned (.int .i64 (closingOf p at_)) ∧ w = w' := by
  by_cases h1 : at_ + 1 < p.size
  · by_cases c1 : (p[at_ + 1].toNat : Int) = 33
    · exact closing_a p at_ w hp h1 c1
    · by_cases c2 : (p[at_ + 1].toNat : Int) = 94
      · exact closing_b p at_ w hp h1 c2
      · exact closing_c p at_ w hp h1 c1 c2
  · have hr : Gl.body (p.data.toList.drop (at_ + 1)) = p.data.toList.drop (at_ + 1) := by
      rw [List.drop_of_length_le (by rw [← Go.Lib.size_eq]; omega)]; rfl
    have ge := Lib.hid (((closing_end hr).trans (if_neg h1)).trans (fromIdx_end (p := p) (i := at_ + 1) (by omega)).symm)
    clear hr
    go_enter Try.func38, Try.ntmps38
    go_wp2_with fail
    go_loop [5] (fun i => ∃ m : Nat, m ≤ p.size ∧ i = .int .i64 m ∧ Hid (closingOf p at_ = fromIdx p m)) (fun i => p.size - (intOf i).toNat)
    case atStart => exact ⟨at_ + 1, by omega, by first | rfl | go_num, ge⟩
    case round =>
      obtain ⟨m, hm, rfl, hrel⟩ := hrel
      by_cases hlt : m < p.size
      · by_cases hc : (p[m].toNat : Int) = 93
        · have hh := Lib.hid (hrel.out.trans (fromIdx_hit hlt hc))
          go_wp2
          go_ret
          exact ⟨by rw [hh.out]; rfl, rfl⟩
        · have hh := Lib.hid (hrel.out.trans (fromIdx_next hlt hc))
          have d := beq_eq_false_iff_ne.2 hc
          clear hc
          go_wp2
          exact ⟨⟨m + 1, by omega, by go_num, hh⟩, by simp [intOf]; omega⟩
      · have hh := Lib.hid (hrel.out.trans (fromIdx_end (by omega)))
        go_wp2
        go_ret
        exact ⟨by rw [hh.out]; rfl, rfl⟩

end Go.Proofs.Ytfnmncghgmnaaaa
