/-
  A name's archive and member: Split. Condition: names that are strings of the model.
-/
import Derived.Test.YtnnepcodghfcmaaGreatDoorVBase
import Derived.Test.YtnnepcodghfcmaaGreatDoorShelf
import Derived.WalkMore
namespace Go.Proofs.YtnnepcodghfcmaaGreatDoor
open Go.RowKit

/-- The first place of a byte. -/
def idxN (c : UInt8) : List UInt8 → Option Nat
  | [] => none
  | b :: l => if b = c then some 0 else (idxN c l).map (· + 1)
theorem idxN_lt {c : UInt8} : ∀ {l : List UInt8} {n : Nat}, idxN c l = some n → n < l.length
  | [], n, h => by simp [idxN] at h
  | b :: l, n, h => by
    unfold idxN at h
    split at h
    · injection h with h; subst h; simp
    · cases hi : idxN c l with
      | none => rw [hi] at h; simp at h
      | some m => rw [hi] at h; simp at h; subst h; have := idxN_lt hi; simp; omega
/-- Is a text's last byte a ')'? -/
def shutB (s : ByteArray) : Bool := Lib.hasSuffix s.data.toList [41]
/-- An archive and a member of a name. -/
def splitOf (s : ByteArray) : Option (ByteArray × ByteArray) :=
  match idxN 40 s.data.toList with
  | some (k + 1) => if shutB s then some (s.extract 0 (k + 1), s.extract (k + 1 + 1) (s.size - 1)) else none
  | _ => none
def splitVal (s : ByteArray) : Value := match splitOf s with | some (a, b) => .tuple #[.string a, .string b, .bool true] | none => .tuple #[.string ⟨#[]⟩, .string ⟨#[]⟩, .bool false]

theorem idx_some {c : UInt8} : ∀ {l : List UInt8} {n : Nat}, idxN c l = some n → l[n]? = some c
  | [], n, h => by simp [idxN] at h
  | b :: l, n, h => by
    unfold idxN at h
    split at h
    · rename_i e; injection h with h; subst h; subst e; rfl
    · cases hi : idxN c l with
      | none => rw [hi] at h; simp at h
      | some m => rw [hi] at h; simp at h; subst h; simpa using idx_some hi
theorem shutB_last {s : ByteArray} (h : 0 < s.size) : shutB s = ((s[s.size - 1].toNat : Int) == 41) := by
  unfold shutB Lib.hasSuffix
  rw [Bool.eq_iff_iff, List.isSuffixOf_iff_suffix, beq_iff_eq]
  have hl : s.data.toList = s.data.toList.take (s.size - 1) ++ [s[s.size - 1]] := by
    rw [← drop_take1 (by omega), List.take_of_length_le (by rw [← Lib.size_eq]; omega)]
  constructor
  · intro hs
    obtain ⟨t, ht⟩ := hs
    rw [hl] at ht
    have := (List.append_inj' ht rfl).2
    injection this with this
    rw [← this]; rfl
  · intro hs
    rw [hl, byte_eq hs (by decide)]
    exact List.suffix_append _ _

theorem split_end {s : ByteArray} {k : Nat} (hi : idxN 40 s.data.toList = some (k + 1)) (hb : shutB s = true) : k + 1 + 1 ≤ s.size - 1 ∧ k + 1 < s.size := by
  have hl := idxN_lt hi
  rw [← Lib.size_eq] at hl
  have hs := idx_some hi
  have h41 := hb
  rw [shutB_last (by omega), beq_iff_eq] at h41
  have : k + 1 ≠ s.size - 1 := by
    intro e
    rw [List.getElem?_eq_getElem (by rw [← Lib.size_eq]; omega)] at hs
    injection hs with hs
    have h2 : s[s.size - 1] = 40 := by
      have : s[k + 1] = 40 := hs
      simpa [e] using this
    rw [h2] at h41
    exact absurd h41 (by decide)
  omega

set_option maxHeartbeats 1000000 in
theorem split_calls (s : ByteArray) (w : World) (hs : s.size ≤ 9223372036854775807) :
    Calls Tryz.prog 11 #[.string s] w fun e w' => e = .returned (splitVal s) ∧ Below w.heap.size w w' := by
  go_enter Tryz.func11, Tryz.ntmps11
  go_wp2_with fail
  go_step3
  go_wp2_with fail
  go_step3
  go_wp2_with fail
  go_loop [5, 9] (fun t i => ∃ k : Nat, k ≤ s.size ∧ i = .int .i64 k ∧ t = .int .i64 (-1) ∧ Hid (idxN 40 s.data.toList = (idxN 40 (s.data.toList.drop k)).map (· + k))) (fun _ i => s.size - (intOf i).toNat)
  case atStart => exact ⟨0, Nat.zero_le _, rfl, rfl, by show _ = _; simp⟩
  case round =>
    obtain ⟨k, hk, rfl, rfl, hrel⟩ := hrel
    by_cases hlt : k < s.size
    · by_cases hc : (s[k].toNat : Int) = 40
      · have hi := Lib.hid (show idxN 40 s.data.toList = some k by rw [hrel.out, drop_cons hlt, byte_eq hc (by decide)]; simp [idxN])
        cases k with
        | zero =>
          have hv := Lib.hid (show splitVal s = .tuple #[.string ⟨#[]⟩, .string ⟨#[]⟩, .bool false] by unfold splitVal splitOf; rw [hi.out])
          go_wp2
          (try rw [Exit.noGoto_ret])
          go_ret3
          exact ⟨by rw [hv.out]; rfl, Below.refl _ _⟩
        | succ k =>
          cases hb : shutB s with
          | false =>
            have hv := Lib.hid (show splitVal s = .tuple #[.string ⟨#[]⟩, .string ⟨#[]⟩, .bool false] by unfold splitVal splitOf; rw [hi.out]; simp [hb])
            have hbb := Lib.hid hb
            clear hb
            go_wp2_with fail
            refine (Tryz.strings_HasSuffix s ⟨#[41]⟩ _ hs).mono ?_
            rintro e w' ⟨rfl, rfl⟩
            rw [show Lib.hasSuffix s.data.toList (⟨#[41]⟩ : ByteArray).data.toList = false from hbb.out]
            go_wp2
            (try rw [Exit.noGoto_ret])
            go_ret3
            exact ⟨by rw [hv.out]; rfl, Below.refl _ _⟩
          | true =>
            obtain ⟨g1, g2⟩ := split_end hi.out hb
            have hv := Lib.hid (show splitVal s = .tuple #[.string (s.extract 0 (k + 1)), .string (s.extract (k + 1 + 1) (s.size - 1)), .bool true] by unfold splitVal splitOf; rw [hi.out]; simp [hb])
            have hbb := Lib.hid hb
            clear hb
            go_wp2_with fail
            refine (Tryz.strings_HasSuffix s ⟨#[41]⟩ _ hs).mono ?_
            rintro e w' ⟨rfl, rfl⟩
            rw [show Lib.hasSuffix s.data.toList (⟨#[41]⟩ : ByteArray).data.toList = true from hbb.out]
            have y1 : IntKind.i64.wrap (((k + 1 : Nat) : Int) + 1) = ((k + 1 : Nat) : Int) + 1 := IntWalk.i64_in _ (by omega)
            have y2 : IntKind.i64.wrap ((s.size : Int) - 1) = (s.size : Int) - 1 := IntWalk.i64_in _ (by omega)
            have y3 : (((k + 1 : Nat) : Int) + 1).toNat = k + 1 + 1 := by omega
            have y4 : ((s.size : Int) - 1).toNat = s.size - 1 := by omega
            have y5 : (0 : Int) ≤ ((k + 1 : Nat) : Int) + 1 := by omega
            have y6 : ((k + 1 : Nat) : Int) + 1 ≤ (s.size : Int) - 1 := by omega
            have y7 : (s.size : Int) - 1 ≤ (s.size : Int) := by omega
            go_wp2_with fail
            go_quiet (fail)
            clear y1 y2 y3 y4
            go_wp2
            (try rw [Exit.noGoto_ret])
            go_ret3
            exact ⟨by rw [hv.out]; rfl, below_drewN' (Below.refl _ _) _⟩
      · have hi := Lib.hid (show idxN 40 s.data.toList = (idxN 40 (s.data.toList.drop (k + 1))).map (· + (k + 1)) by
          rw [hrel.out, drop_cons hlt]
          have hne : s[k] ≠ 40 := fun e => hc (by rw [e]; rfl)
          simp only [idxN, if_neg hne]
          cases idxN 40 (s.data.toList.drop (k + 1)) with
          | none => rfl
          | some m => simp; omega)
        have d := beq_eq_false_iff_ne.2 hc
        clear hc
        go_wp2
        exact ⟨⟨k + 1, by omega, by go_num, rfl, hi⟩, by simp [intOf]; omega⟩
    · have hv := Lib.hid (show splitVal s = .tuple #[.string ⟨#[]⟩, .string ⟨#[]⟩, .bool false] by
        unfold splitVal splitOf; rw [hrel.out, List.drop_of_length_le (by rw [← Lib.size_eq]; omega)]; rfl)
      go_wp2
      (try rw [Exit.noGoto_ret])
      go_ret3
      exact ⟨by rw [hv.out]; rfl, Below.refl _ _⟩
end Go.Proofs.YtnnepcodghfcmaaGreatDoor
