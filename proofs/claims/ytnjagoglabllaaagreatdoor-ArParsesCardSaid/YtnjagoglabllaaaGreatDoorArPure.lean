/-
  Archives as lists of bytes: what is written. Plain Lean. Conditions: none.
-/
import Derived.Test.YtnjagoglabllaaaGreatDoorVPure
import Derived.Lib.ItoaNum
namespace Go.Proofs.YtnjagoglabllaaaGreatDoor
open Go.Lib (decDigits nDigits)

/-- A member of an archive. -/
structure Mem where make ::
  name : Bs
  date : Int
  data : Bs
def padB (s : Bs) (n : Nat) : Bs := s ++ List.replicate (n - s.length) 32
/-- A date's digits; nothing but digits is asked of a fair one. -/
def dateB (n : Int) : Bs := Go.Lib.itoa n
def headB (name date owner mode : Bs) (size : Nat) : Bs := padB name 16 ++ padB date 12 ++ padB owner 6 ++ padB owner 6 ++ padB mode 8 ++ padB (decDigits size) 10 ++ [96, 10]
def evenB (d : Bs) : Bs := if d.length % 2 = 1 then d ++ [10] else d
def evenN (n : Nat) : Nat := n + n % 2
def longM (m : Mem) : Bool := decide (15 < m.name.length)
def tableB : List Mem → Bs
  | [] => []
  | m :: r => if longM m = true then m.name ++ [47, 10] ++ tableB r else tableB r
def nameB (at' : Nat) (m : Mem) : Bs := if longM m = true then 47 :: decDigits at' else m.name ++ [47]
def nextAt (at' : Nat) (m : Mem) : Nat := if longM m = true then at' + m.name.length + 2 else at'
def oneB (at' : Nat) (m : Mem) : Bs := headB (nameB at' m) (dateB m.date) [48] [49, 48, 48, 54, 52, 52] m.data.length ++ evenB m.data
def bodyB : Nat → List Mem → Bs
  | _, [] => []
  | k, m :: r => oneB k m ++ bodyB (nextAt k m) r
def sumN : List Mem → Nat
  | [] => 0
  | m :: r => 60 + evenN m.data.length + sumN r
def sizeN (l : List Mem) : Nat := 8 + sumN l + (if 0 < (tableB l).length then 60 + evenN (tableB l).length else 0)
def fairB (m : Mem) : Bool := decide (m.name ≠ []) && decide (m.name.length ≤ 255) && (m.name.all fun c => c != 47 && c != 0 && c != 10) && decide (0 ≤ m.date) && decide (m.date < 1000000000000)
def magicB : Bs := [33, 60, 97, 114, 99, 104, 62, 10]
def headsB (l : List Mem) : Bs := if 0 < (tableB l).length then headB [47, 47] [] [] [] (tableB l).length ++ evenB (tableB l) else []
def archB (l : List Mem) : Bs := magicB ++ headsB l ++ bodyB 0 l
/-- The bytes of an archive, and an error. -/
def archP (l : List Mem) : Bs × Int := if 5000 < l.length ∨ 65536 < sizeN l then ([], 2) else if l.all fairB = false then ([], 1) else (archB l, 0)

theorem padB_len {s : Bs} {n : Nat} (h : s.length ≤ n) : (padB s n).length = n := by unfold padB; rw [List.length_append, List.length_replicate]; omega
theorem evenB_len (d : Bs) : (evenB d).length = evenN d.length := by
  unfold evenB evenN
  split
  · rw [List.length_append, List.length_singleton]; omega
  · omega
theorem dec_len {n k : Nat} (h : n < 10 ^ k) (hk : 0 < k) : (decDigits n).length ≤ k := by
  rw [Go.Lib.decDigits_length]
  have hp := Go.Lib.nDigits_pos n
  rcases Nat.lt_or_ge k (nDigits n) with hlt | hge
  · exfalso
    have : 10 ^ (nDigits n - 1) ≤ n ∨ nDigits n = 1 := by
      clear h hlt
      induction n using Nat.strongRecOn with
      | ind n ih =>
        by_cases h10 : n < 10
        · right; exact Go.Lib.nDigits_small h10
        · left
          rw [Go.Lib.nDigits_big h10]
          have := ih (n / 10) (by omega) (Go.Lib.nDigits_pos _)
          rcases this with h1 | h1
          · have e : nDigits (n / 10) + 1 - 1 = (nDigits (n / 10) - 1) + 1 := by have := Go.Lib.nDigits_pos (n / 10); omega
            rw [e, Nat.pow_succ]; omega
          · rw [h1]; simp; omega
    rcases this with h1 | h1
    · have h2 : 10 ^ k ≤ 10 ^ (nDigits n - 1) := Nat.pow_le_pow_right (by decide) (by omega)
      omega
    · omega
  · exact hge
theorem headB_len {name date owner mode : Bs} {size : Nat} (h1 : name.length ≤ 16) (h2 : date.length ≤ 12) (h3 : owner.length ≤ 6) (h4 : mode.length ≤ 8) (h5 : size < 10000000000) : (headB name date owner mode size).length = 60 := by
  unfold headB
  have := dec_len (n := size) (k := 10) (by simpa using h5) (by decide)
  simp only [List.length_append, padB_len h1, padB_len h2, padB_len h3, padB_len h4, padB_len this, List.length_cons, List.length_nil]
theorem table_len (l : List Mem) (m : Mem) (h : m ∈ l) (hm : longM m = true) : m.name.length + 2 ≤ (tableB l).length := by
  induction l with
  | nil => cases h
  | cons y r ih =>
    rw [tableB]
    rcases List.mem_cons.1 h with rfl | h
    · rw [if_pos hm]; simp
    · have := ih h
      split
      · simp; omega
      · exact this
end Go.Proofs.YtnjagoglabllaaaGreatDoor
