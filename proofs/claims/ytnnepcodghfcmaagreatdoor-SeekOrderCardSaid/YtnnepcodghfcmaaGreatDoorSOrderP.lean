/-
  SeekOrder's files, and what is found among them: each of its few cases reckoned. Conditions: none.
-/
import Derived.Test.YtnnepcodghfcmaaGreatDoorSAlive
namespace Go.Proofs.YtnnepcodghfcmaaGreatDoor

def dnm (i : Nat) : Bs := [100, UInt8.ofNat (48 + i)]
def fnm (i : Nat) : Bs := dnm i ++ [47, 120]
/-- The tree, and the clock, behind i rounds; files from the directory a on. -/
def skSt (a : Nat) : Nat → St × Int
  | 0 => ([], 0)
  | i + 1 =>
    if a ≤ i then (putSt (putSt (skSt a i).1 (dnm i) ⟨true, (skSt a i).2 + 1, []⟩) (fnm i) ⟨false, (skSt a i).2 + 1 + 1, []⟩, (skSt a i).2 + 1 + 1)
    else (putSt (skSt a i).1 (dnm i) ⟨true, (skSt a i).2 + 1, []⟩, (skSt a i).2 + 1)
def skMid (a i : Nat) : St := putSt (skSt a i).1 (dnm i) ⟨true, (skSt a i).2 + 1, []⟩
def lookNone : LookR → Bool
  | .none => true
  | _ => false
theorem lookNone_eq {r : LookR} (h : lookNone r = true) : r = .none := by cases r <;> first | rfl | cases h
def chk1 (a i : Nat) : Bool := lookNone (lookQ (skSt a i).1 (dnm i)) && fitsB (skSt a i).1 1000 1 0 && (!decide (a ≤ i) || (lookNone (lookQ (skMid a i) (fnm i)) && fitsB (skMid a i) 1000 1 0)) && decide (wt (skSt a i).1 ≤ 100) && decide (wt (skMid a i) ≤ 100) && decide (0 ≤ (skSt a i).2) && decide ((skSt a i).2 ≤ 100)
def chk2 (a n : Nat) : Bool := lookNone (lookQ (skSt a n).1 [120]) && fitsB (skSt a n).1 1000 1 0 && decide (wt (skSt a n).1 ≤ 100) && decide (0 ≤ (skSt a n).2) && decide ((skSt a n).2 ≤ 100)
def skEnd (a n : Nat) (here : Bool) : St := if here then putSt (skSt a n).1 [120] ⟨false, (skSt a n).2 + 1, []⟩ else (skSt a n).1
def skDirs : Nat → Bs
  | 0 => []
  | i + 1 => (if 0 < i then skDirs i ++ [58] else skDirs i) ++ dnm i
def noColon (s : Bs) : Bs := s.map fun c => if c = 58 then 32 else c
def skPl (n : Nat) : List (ByteArray × ByteArray) := [(⟨#[121, 37]⟩, ⟨#[100, 48]⟩), (⟨#[37]⟩, mk (noColon (skDirs n)))]
def want (a n : Nat) (here : Bool) : Bs × Bool := if here then ([120], true) else if a = n then ([120], false) else (fnm a, true)
def plOf (vp : Bool) (n : Nat) : List (ByteArray × ByteArray) := if vp then skPl n else []
def dsOf (vp : Bool) (n : Nat) : ByteArray := if vp then ⟨#[]⟩ else mk (skDirs n)
def chk3 (a n : Nat) (here vp : Bool) : Bool :=
  let P := placesP (plOf vp n) (dsOf vp n) ⟨#[120]⟩
  let r := findL (skEnd a n here) P ⟨#[120]⟩
  r.1.data.toList == (want a n here).1 && r.2 == (want a n here).2 && P.all fun x => decide (x.size ≤ 1000) && (splitOf x).isNone
def chk4 (n : Nat) (vp : Bool) : Bool := decide ((dsOf vp n).size ≤ 100) && decide (Lib.countB (dsOf vp n) ⟨#[58]⟩ ≤ 100) && decide ((coloned (dsOf vp n)).size ≤ 100) && decide ((skDirs n).length ≤ 100)
set_option maxRecDepth 100000 in
theorem chk1_all : ∀ i, i < 9 → ∀ a, a < 10 → chk1 a i = true := by decide +kernel
set_option maxRecDepth 100000 in
theorem chk2_all : ∀ n, n < 10 → ∀ a, a < 10 → chk2 a n = true := by decide +kernel
set_option maxRecDepth 100000 in
theorem chk4_all : ∀ n, n < 10 → ∀ vp, chk4 n vp = true := by decide +kernel
set_option maxRecDepth 100000 in
theorem chk3_all : ∀ n, n < 10 → ∀ a, a < 10 → a ≤ n → 1 ≤ n → ∀ here vp, chk3 a n here vp = true := by decide +kernel
set_option maxRecDepth 100000 in
theorem chk5_all : ∀ i, i < 10 → clean (dnm i) = dnm i ∧ clean (fnm i) = fnm i ∧ clean [120] = [120] := by decide +kernel
theorem digit_at : ∀ i, i < 10 → ((⟨#[48, 49, 50, 51, 52, 53, 54, 55, 56, 57]⟩ : ByteArray).extract i (i + 1)).data.toList = [UInt8.ofNat (48 + i)] := by decide +kernel
end Go.Proofs.YtnnepcodghfcmaaGreatDoor
