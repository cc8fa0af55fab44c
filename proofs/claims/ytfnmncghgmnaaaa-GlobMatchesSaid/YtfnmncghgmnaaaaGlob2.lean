/-
  The closure of a set (function 46) and the match of one part with one byte (function 43) answer what the plain functions say. Conditions: a set of at most 1,000,000 bytes; its cells lie as PartRep says.
-/
import Derived.Test.YtfnmncghgmnaaaaGlob1
import Derived.Deep.QuietTactic
import Derived.BigQuiet
namespace Go.Proofs.Ytfnmncghgmnaaaa
open Go.RowKit

theorem mem_range {s : ByteArray} {k : Nat} (c : UInt8) (h3 : k + 2 < s.size) (hm : (s[k + 1].toNat : Int) = 45) :
    Gl.mem c (s.data.toList.drop k) = ((decide (s[k].toNat ≤ c.toNat) && decide (c.toNat ≤ s[k + 2].toNat)) || Gl.mem c (s.data.toList.drop (k + 3))) := by
  have e : s[k + 1] = 45 := UInt8.toNat_inj.1 (by have : s[k + 1].toNat = 45 := by omega
                                                  rw [this]; rfl)
  rw [drop_cons (by omega : k < s.size), drop_cons (by omega : k + 1 < s.size), drop_cons (by omega : k + 1 + 1 < s.size), Gl.mem, if_pos e]
  simp only [UInt8.le_iff_toNat_le]
theorem mem_step {s : ByteArray} {k : Nat} (c : UInt8) (h : k < s.size) (hm : ∀ h3 : k + 2 < s.size, ((s[k + 1].toNat : Int) == 45) = false) :
    Gl.mem c (s.data.toList.drop k) = (((c.toNat : Int) == (s[k].toNat : Int)) || Gl.mem c (s.data.toList.drop (k + 1))) := by
  have e0 : ((c.toNat : Int) == (s[k].toNat : Int)) = (s[k] == c) := by
    rw [Bool.eq_iff_iff, beq_iff_eq, beq_iff_eq]
    exact ⟨fun h => (UInt8.toNat_inj.1 (by omega)).symm, fun h => by rw [h]⟩
  rw [e0, drop_cons h]
  by_cases h2 : k + 1 < s.size
  · rw [drop_cons h2]
    by_cases h3 : k + 2 < s.size
    · rw [drop_cons (by omega : k + 1 + 1 < s.size), Gl.mem, if_neg]
      intro e
      have := hm h3
      rw [e] at this
      exact absurd this (by decide)
    · rw [List.drop_of_length_le (by rw [← Go.Lib.size_eq]; omega)]
      simp [Gl.mem]
  · rw [List.drop_of_length_le (by rw [← Go.Lib.size_eq]; omega)]
    simp [Gl.mem]

set_option maxHeartbeats 400000 in
theorem member_calls (b1 b2 : Nat) (c : UInt8) (w : World) (n : Bool) (s : ByteArray) (hl : s.size ≤ 1000000) (h1 : w.cell? ⟨b1, 0, none⟩ = some (.string s)) (h2 : w.cell? ⟨b2, 0, none⟩ = some (.bool n)) :
    Calls Try.prog 46 #[.int .u8 c.toNat, .pointer (some ⟨b1, 0, none⟩), .pointer (some ⟨b2, 0, none⟩)] w fun e w' => e = .returned (.bool (Gl.mem c s.data.toList != n)) ∧ w = w' := by
  go_enter Try.func46, Try.ntmps46
  go_wp2_with fail
  go_loop [5, 6] (fun t i => ∃ (k : Nat) (b : Bool), k ≤ s.size ∧ i = .int .i64 k ∧ t = .bool b ∧ Hid (Gl.mem c s.data.toList = (b || Gl.mem c (s.data.toList.drop k)))) (fun _ i => s.size - (intOf i).toNat)
  case atStart => exact ⟨0, false, Nat.zero_le _, rfl, rfl, rfl⟩
  case round =>
    obtain ⟨k, b, hk, rfl, rfl, hrel⟩ := hrel
    by_cases hlt : k < s.size
    · by_cases h3 : k + 2 < s.size
      · by_cases hm : (s[k + 1].toNat : Int) = 45
        · have hM := Lib.hid (mem_range c h3 hm)
          cases b
          · go_wp2
            · rename_i hc _ _
              exact ⟨⟨k + 3, _, by omega, by go_num, rfl, by show _ = _; rw [hrel.out, hM.out, decide_eq_true hc]; simp⟩, by simp [intOf]; omega⟩
            · rename_i hc
              exact ⟨⟨k + 3, _, by omega, by go_num, rfl, by show _ = _; rw [hrel.out, hM.out, decide_eq_false hc]; simp⟩, by simp [intOf]; omega⟩
          · go_wp2
            exact ⟨⟨k + 3, _, by omega, by go_num, rfl, by show _ = _; rw [hrel.out]; simp⟩, by simp [intOf]; omega⟩
        · have d1 := beq_eq_false_iff_ne.2 hm
          clear hm
          have hM := Lib.hid (mem_step c hlt (fun _ => d1))
          cases b
          · go_wp2
            exact ⟨⟨k + 1, _, by omega, by go_num, rfl, by show _ = _; rw [hrel.out, hM.out]; simp⟩, by simp [intOf]; omega⟩
          · go_wp2
            exact ⟨⟨k + 1, _, by omega, by go_num, rfl, by show _ = _; rw [hrel.out]; simp⟩, by simp [intOf]; omega⟩
      · have hM := Lib.hid (mem_step c hlt (fun h => absurd h h3))
        cases b
        · go_wp2
          exact ⟨⟨k + 1, _, by omega, by go_num, rfl, by show _ = _; rw [hrel.out, hM.out]; simp⟩, by simp [intOf]; omega⟩
        · go_wp2
          exact ⟨⟨k + 1, _, by omega, by go_num, rfl, by show _ = _; rw [hrel.out]; simp⟩, by simp [intOf]; omega⟩
    · have hM := Lib.hid (show Gl.mem c (s.data.toList.drop k) = false by rw [List.drop_of_length_le (by rw [← Go.Lib.size_eq]; omega)]; rfl)
      go_wp2
      go_ret
      exact ⟨by rw [hrel.out, hM.out]; cases b <;> cases n <;> rfl, rfl⟩

/-- The parts as they lie in memory: kind, byte, function. -/
inductive PartRep (w : World) : Gl.Part → List Value → Prop
  | byte (c : UInt8) : PartRep w (.byte c) [.int .u8 0, .int .u8 c.toNat, .nilFunc]
  | star : PartRep w .star [.int .u8 42, .int .u8 0, .nilFunc]
  | any : PartRep w .any [.int .u8 63, .int .u8 0, .nilFunc]
  | set (n : Bool) (ms : List UInt8) (b1 b2 : Nat) (hl : ms.length ≤ 1000000)
      (h1 : w.heap[b1]? = some (.cells #[.string ⟨ms.toArray⟩] 9 (0, 0))) (h2 : w.heap[b2]? = some (.cells #[.bool n] 4 (0, 0))) :
      PartRep w (.set n ms) [.int .u8 91, .int .u8 0, .func (.func 46) #[] #[.pointer (some ⟨b1, 0, none⟩), .pointer (some ⟨b2, 0, none⟩)]]

theorem cell_of_block {w : World} {b : Nat} {v : Value} {t : TypeId} (h : w.heap[b]? = some (.cells #[v] t (0, 0))) : w.cell? ⟨b, 0, none⟩ = some v := by
  simp [World.cell?, h]

theorem heap_lt {w : World} {b : Nat} {o : Obj} (h : w.heap[b]? = some o) : b < w.heap.size := (Array.getElem?_eq_some_iff.1 h).1

set_option maxHeartbeats 400000 in
theorem one_calls (q : Gl.Part) (vs : List Value) (c : UInt8) (w : World) (hq : PartRep w q vs) :
    Calls Try.prog 43 #[.agg vs.toArray, .int .u8 c.toNat] w fun e w' => e = .returned (.bool (Gl.one q c)) ∧ Below w.heap.size w w' := by
  cases hq with
  | byte b =>
    have e : Gl.one (.byte b) c = ((b.toNat : Int) == (c.toNat : Int)) := by
      unfold Gl.one
      rw [Bool.eq_iff_iff, beq_iff_eq, beq_iff_eq]
      exact ⟨fun h => by rw [h], fun h => UInt8.toNat_inj.1 (by omega)⟩
    rw [e]; clear e
    go_enter Try.func43, Try.ntmps43
    go_wp2
    go_ret
    exact ⟨rfl, (Below.refl _ _).alloc (Nat.le_refl _) _⟩
  | star =>
    go_enter Try.func43, Try.ntmps43
    go_wp2
    go_ret
    exact ⟨rfl, (Below.refl _ _).alloc (Nat.le_refl _) _⟩
  | any =>
    go_enter Try.func43, Try.ntmps43
    go_wp2
    go_ret
    exact ⟨rfl, (Below.refl _ _).alloc (Nat.le_refl _) _⟩
  | set n ms b1 b2 hl h1 h2 =>
    have l1 := heap_lt h1
    have l2 := heap_lt h2
    have g1 := Lib.hid (cell_of_block h1)
    have g2 := Lib.hid (cell_of_block h2)
    clear h1 h2
    go_enter Try.func43, Try.ntmps43
    go_wp2_with fail
    refine (member_calls b1 b2 c _ n ⟨ms.toArray⟩ (by simpa [ByteArray.size] using hl) ?_ ?_).mono ?_
    · rw [World.cell?_of_block (Below.heap_alloc _ _ _ l1)]; exact g1.out
    · rw [World.cell?_of_block (Below.heap_alloc _ _ _ l2)]; exact g2.out
    rintro e w' ⟨rfl, rfl⟩
    go_wp2
    go_ret
    exact ⟨rfl, (Below.refl _ _).alloc (Nat.le_refl _) _⟩
end Go.Proofs.Ytfnmncghgmnaaaa
