/-
  What read answers, and that it reads every archive that Write writes. Plain Lean. Conditions: none.
-/
import Derived.Test.YtnjagoglabllaaaGreatDoorArWrite
import Derived.Lib.TrimByte
import Derived.Lib.Atoi
import Derived.Lib.IndexMore
namespace Go.Proofs.YtnjagoglabllaaaGreatDoor
open Go.Lib (decDigits nDigits)

def headAt (b : Bs) (k : Nat) : Bs := (b.drop k).take 60
/-- The size that a head tells, if it fits. -/
def sizeAt (b : Bs) (k : Nat) : Option Nat :=
  match Lib.atoi (Lib.trimRightB (((headAt b k).drop 48).take 10) 32) with
  | none => none
  | some n => if n < 0 ∨ ((b.length - k - 60 : Nat) : Int) < n ∨ b.length - k - 60 < evenN n.toNat then none else some n.toNat
def fieldAt (b : Bs) (k : Nat) : Bs := Lib.trimRightB ((headAt b k).take 16) 32
def dateAt (b : Bs) (k : Nat) : Option Int := Lib.atoi (Lib.trimRightB (((headAt b k).drop 16).take 12) 32)
def longAt (nm names : Bs) : Option Bs :=
  if Lib.hasPrefix nm [47] = true then
    match Lib.atoi (nm.drop 1) with
    | none => none
    | some k => if k < 0 ∨ (names.length : Int) < k then none else some (Lib.cut (names.drop k.toNat) [10]).1
  else some nm
def stepP (b : Bs) (k : Nat) (names : Bs) : Option (Option Mem × Bs × Nat) :=
  if b.length - k < 60 then none else
  match sizeAt b k with
  | none => none
  | some n =>
    if fieldAt b k = [47, 47] then some (none, (b.drop (k + 60)).take n, k + (60 + evenN n)) else
    match dateAt b k with
    | none => none
    | some d =>
      match longAt (fieldAt b k) names with
      | none => none
      | some nm => some (some ⟨Lib.trimSuffix nm [47], d, (b.drop (k + 60)).take n⟩, names, k + (60 + evenN n))
def readFrom (b : Bs) : Nat → Nat → Bs → Option (List Mem)
  | 0, _, _ => none
  | f + 1, k, names =>
    if k = b.length then some [] else
    match stepP b k names with
    | none => none
    | some (none, nm, a) => readFrom b f a nm
    | some (some m, nm, a) => (readFrom b f a nm).map (m :: ·)
def readP (b : Bs) : Option (List Mem) := if Lib.hasPrefix b magicB = true then readFrom b (b.length + 1) 8 [] else none

theorem digit_of {d : Nat} (h : d < 10) : Lib.digitVal (UInt8.ofNat (48 + d)) = some d := by
  match d, h with
  | 0, _ => rfl
  | 1, _ => rfl
  | 2, _ => rfl
  | 3, _ => rfl
  | 4, _ => rfl
  | 5, _ => rfl
  | 6, _ => rfl
  | 7, _ => rfl
  | 8, _ => rfl
  | 9, _ => rfl
theorem decFrom_app : ∀ (a b : Bs) (acc : Nat), Lib.decFrom acc (a ++ b) = (Lib.decFrom acc a).bind fun m => Lib.decFrom m b
  | [], b, acc => rfl
  | x :: a, b, acc => by
    rw [List.cons_append, Lib.decFrom, Lib.decFrom]
    cases Lib.digitVal x with
    | none => rfl
    | some d => exact decFrom_app a b _
theorem decFrom_dec : ∀ n : Nat, Lib.decFrom 0 (decDigits n) = some n := by
  intro n
  induction n using Nat.strongRecOn with
  | ind n ih =>
    by_cases h : n < 10
    · rw [decDigits, dif_pos h, Lib.decFrom, digit_of h]
      show some (0 * 10 + n) = some n
      congr 1; omega
    · rw [decDigits, dif_neg h, decFrom_app, ih (n / 10) (by omega)]
      show Lib.decFrom (n / 10) [UInt8.ofNat (48 + n % 10)] = some n
      rw [Lib.decFrom, digit_of (by omega)]
      show some (n / 10 * 10 + n % 10) = some n
      congr 1; omega
theorem dec_digits : ∀ (n : Nat), ∀ c ∈ decDigits n, 48 ≤ c.toNat ∧ c.toNat ≤ 57 := by
  intro n
  have hd : ∀ d, d < 10 → (UInt8.ofNat (48 + d)).toNat = 48 + d := fun d h => by simp; omega
  induction n using Nat.strongRecOn with
  | ind n ih =>
    intro c hc
    by_cases h : n < 10
    · rw [decDigits, dif_pos h, List.mem_singleton] at hc
      subst hc; rw [hd n h]; omega
    · rw [decDigits, dif_neg h] at hc
      rcases List.mem_append.1 hc with hc | hc
      · exact ih (n / 10) (by omega) c hc
      · rw [List.mem_singleton] at hc; subst hc; rw [hd _ (by omega)]; omega
theorem dec_ne (n : Nat) : decDigits n ≠ [] := by
  intro h
  have h1 := Go.Lib.decDigits_length n
  have h2 := Go.Lib.nDigits_pos n
  rw [h, List.length_nil] at h1
  omega
theorem atoi_dec (n : Nat) : Lib.atoi (decDigits n) = some (n : Int) := by
  cases h : decDigits n with
  | nil => exact absurd h (dec_ne n)
  | cons c r =>
    have hc := dec_digits n c (by rw [h]; simp)
    have h45 : (c == 45) = false := by rw [beq_eq_false_iff_ne]; intro e; rw [e] at hc; simp at hc
    have h43 : (c == 43) = false := by rw [beq_eq_false_iff_ne]; intro e; rw [e] at hc; simp at hc
    have e := decFrom_dec n
    rw [h] at e
    simp only [Lib.atoi, h45, h43, Lib.decNat, e]
    rfl
theorem dropWhile_rep (c : UInt8) (t : Bs) (ht : t.head? ≠ some c) : ∀ k, (List.replicate k c ++ t).dropWhile (· == c) = t
  | 0 => by
    cases t with
    | nil => rfl
    | cons x r =>
      have : (x == c) = false := by rw [beq_eq_false_iff_ne]; intro e; exact ht (by rw [e]; rfl)
      simp [List.dropWhile, this]
  | k + 1 => by
    rw [List.replicate_succ, List.cons_append, List.dropWhile_cons, if_pos (by simp)]
    exact dropWhile_rep c t ht k
theorem trim_pad (s : Bs) (n : Nat) (h : s.getLast? ≠ some 32) : Lib.trimRightB (padB s n) 32 = s := by
  unfold Lib.trimRightB padB
  rw [List.reverse_append, List.reverse_replicate, dropWhile_rep _ _ (by rw [List.head?_reverse]; exact h), List.reverse_reverse]
theorem dec_last (n : Nat) : (decDigits n).getLast? ≠ some 32 := by
  intro h
  have := dec_digits n 32 (List.mem_of_getLast? h)
  simp at this
end Go.Proofs.YtnjagoglabllaaaGreatDoor
