/-
  Find; ArLong answers true. Conditions: Itoa's table reads as laid.
-/
import Derived.Test.YtnjagoglabllaaaGreatDoorArLoose
import Derived.Test.YtnjagoglabllaaaGreatDoorArRef
namespace Go.Proofs.YtnjagoglabllaaaGreatDoor
open Go.RowKit

/-- The first place of a text in a text, from i on; f places are tried. -/
def findFrom (s sub : Bs) : Nat → Nat → Int
  | _, 0 => -1
  | i, f + 1 => if (s.drop i).take sub.length = sub then (i : Int) else findFrom s sub (i + 1) f
def findB (s sub : Bs) : Int := findFrom s sub 0 (s.length + 1 - sub.length)
theorem find_ge (s sub : Bs) : ∀ (f i : Nat), findFrom s sub i f = -1 ∨ (i : Int) ≤ findFrom s sub i f
  | 0, _ => Or.inl rfl
  | f + 1, i => by
    rw [findFrom]
    split
    · exact Or.inr (Int.le_refl _)
    · rcases find_ge s sub f (i + 1) with h | h
      · exact Or.inl h
      · right; omega
set_option maxRecDepth 100000 in
set_option maxHeartbeats 2000000 in
theorem refFind_calls (s sub : Bs) (w : World) (hs : s.length ≤ 1099511627775) (hu : sub.length ≤ 1099511627775) :
    Calls Tryz.prog 18 #[.string (mk s), .string (mk sub)] w fun e w' => e = .returned (.int .i64 (findB s sub)) ∧ w = w' := by
  have hms := mk_size s
  have hmu := mk_size sub
  have hsub : ∀ i, i + sub.length ≤ s.length → (mk s).extract i (i + sub.length) = mk ((s.drop i).take sub.length) := by
    intro i hi
    apply ba_ext
    simp [mk, ByteArray.data_extract, List.take_drop]
  have ksub := Lib.hid hsub
  clear hsub
  generalize hS : mk s = S at *
  generalize hU : mk sub = U at *
  have kS := Lib.hid (And.intro hS hU)
  clear hS hU
  go_enter Tryz.func18, Tryz.ntmps18
  go_wp2
  go_loop [5] (fun iv => ∃ i : Nat, i ≤ s.length + 1 ∧ iv = .int .i64 i ∧ findB s sub = findFrom s sub i (s.length + 1 - sub.length - i)) (fun iv => s.length + 1 - (intOf iv).toNat)
  case atStart => exact ⟨0, Nat.zero_le _, rfl, rfl⟩
  case round =>
    obtain ⟨i, hi, rfl, h3⟩ := hrel
    have k3 := Lib.hid h3
    clear h3
    by_cases hlt : i + sub.length ≤ s.length
    · obtain ⟨j, hj⟩ : ∃ j : Nat, j = i + sub.length := ⟨_, rfl⟩
      have e1 : IntKind.i64.wrap ((i : Int) + (sub.length : Int)) = (j : Int) := by rw [IntWalk.i64_in _ (by omega)]; omega
      have e2 : IntKind.i64.wrap ((s.length : Int) - (sub.length : Int)) = (s.length : Int) - (sub.length : Int) := IntWalk.i64_in _ (by omega)
      have y1 : (i : Int) ≤ (s.length : Int) - (sub.length : Int) := by omega
      have kx := Lib.hid (ksub.out i hlt)
      rw [← hj] at kx
      have hx := kx.out
      have z1 : i ≤ 1099511627775 := by omega
      have z2 : j ≤ s.length := by omega
      have z3 : i ≤ j := by omega
      have kst := Lib.hid (show findFrom s sub i (s.length + 1 - sub.length - i) = if (s.drop i).take sub.length = sub then (i : Int) else findFrom s sub (i + 1) (s.length + 1 - sub.length - (i + 1)) by
        rw [show s.length + 1 - sub.length - i = (s.length + 1 - sub.length - (i + 1)) + 1 by omega, findFrom])
      have kj := Lib.hid hj
      clear hj
      by_cases he : (s.drop i).take sub.length = sub
      · rw [he, kS.out.2] at hx
        have kr := Lib.hid (show findB s sub = (i : Int) by rw [k3.out, kst.out, if_pos he])
        have f1 : (U.toList == U.toList) = true := beq_self_eq_true _
        clear he
        go_wp2
        go_ret
        exact ⟨by rw [kr.out]; rfl, rfl⟩
      · have f1 : ((mk ((s.drop i).take sub.length)).toList == U.toList) = false := by rw [← kS.out.2]; exact ba_ne (fun e => he (mk_inj e))
        have kr := Lib.hid (show findB s sub = findFrom s sub (i + 1) (s.length + 1 - sub.length - (i + 1)) by rw [k3.out, kst.out, if_neg he])
        clear he
        go_wp2
        go_round
        case rel => exact ⟨i + 1, by omega, by go_num, kr.out⟩
        case measure => simp [intOf]; omega
    · have e2 : IntKind.i64.wrap ((s.length : Int) - (sub.length : Int)) = (s.length : Int) - (sub.length : Int) := IntWalk.i64_in _ (by omega)
      have y1 : ¬ (i : Int) ≤ (s.length : Int) - (sub.length : Int) := by omega
      have kr := Lib.hid (show findB s sub = -1 by
        rw [k3.out, show s.length + 1 - sub.length - i = 0 by omega]; rfl)
      go_wp2
      go_ret
      exact ⟨by rw [kr.out]; rfl, rfl⟩
theorem long_mem {n size : Nat} (h0 : 1 ≤ n) (h1 : n ≤ 255) : sizeN [⟨List.replicate n 110, 0, List.replicate size 0⟩] = 68 + (size + size % 2) + (if 15 < n then 60 + (n + 2 + n % 2) else 0) ∧ [(⟨List.replicate n 110, 0, List.replicate size 0⟩ : Mem)].all fairB = true := by
  constructor
  · unfold sizeN
    simp only [sumN, tableB, longM, List.length_replicate, evenN, decide_eq_true_eq]
    by_cases h : 15 < n
    · rw [if_pos h, if_pos (by simp), if_pos h]
      simp only [List.length_append, List.length_replicate, List.length_cons, List.length_nil]
      omega
    · rw [if_neg h, if_neg (by simp), if_neg h]; omega
  · simp only [List.all_cons, List.all_nil, Bool.and_true, fairB, List.length_replicate]
    have : List.replicate n (110 : UInt8) ≠ [] := by intro e; have := congrArg List.length e; simp at this; omega
    simp [this, h1]
theorem long_find {n size : Nat} (h0 : 1 ≤ n) (h1 : n ≤ 255) (hs : ¬ 65536 < sizeN [⟨List.replicate n 110, 0, List.replicate size 0⟩]) : findB (archB [⟨List.replicate n 110, 0, List.replicate size 0⟩]) [47, 47, 32, 32, 32] = 8 ↔ 15 < n := by
  obtain ⟨e1, e2⟩ := long_mem (size := size) h0 h1
  have hl := arch_len e2 hs
  rw [e1] at hl
  obtain ⟨r, hr⟩ : ∃ r, archB [⟨List.replicate n 110, 0, List.replicate size 0⟩] = 33 :: 60 :: 97 :: 114 :: 99 :: 104 :: 62 :: 10 :: r := ⟨_, rfl⟩
  have hf : ∃ f, (archB [⟨List.replicate n 110, 0, List.replicate size 0⟩]).length + 1 - 5 = f + 9 := ⟨(archB [⟨List.replicate n 110, 0, List.replicate size 0⟩]).length + 1 - 5 - 9, by omega⟩
  obtain ⟨f, hf⟩ := hf
  have e8 : findB (archB [⟨List.replicate n 110, 0, List.replicate size 0⟩]) [47, 47, 32, 32, 32] = if r.take 5 = [47, 47, 32, 32, 32] then 8 else findFrom (archB [⟨List.replicate n 110, 0, List.replicate size 0⟩]) [47, 47, 32, 32, 32] 9 f := by
    unfold findB
    rw [show ([47, 47, 32, 32, 32] : Bs).length = 5 from rfl, hf, hr]
    simp [findFrom]
  rw [e8]
  have hr2 : headsB [⟨List.replicate n 110, 0, List.replicate size 0⟩] ++ bodyB 0 [⟨List.replicate n 110, 0, List.replicate size 0⟩] = r := by
    have : archB [⟨List.replicate n 110, 0, List.replicate size 0⟩] = 33 :: 60 :: 97 :: 114 :: 99 :: 104 :: 62 :: 10 :: (headsB [⟨List.replicate n 110, 0, List.replicate size 0⟩] ++ bodyB 0 [⟨List.replicate n 110, 0, List.replicate size 0⟩]) := rfl
    rw [hr] at this
    simpa using this.symm
  by_cases hn : 15 < n
  · have : r.take 5 = [47, 47, 32, 32, 32] := by
      rw [← hr2]
      unfold headsB
      rw [if_pos (by simp [tableB, longM, hn])]
      unfold headB padB
      simp [List.replicate]
    rw [if_pos this]
    simp [hn]
  · have h110 : ∃ q, r = 110 :: q := by
      rw [← hr2]
      unfold headsB
      rw [if_neg (by simp [tableB, longM, hn])]
      obtain ⟨m, rfl⟩ : ∃ m, n = m + 1 := ⟨n - 1, by omega⟩
      have hx : nameB 0 ⟨List.replicate (m + 1) 110, 0, List.replicate size 0⟩ = 110 :: (List.replicate m 110 ++ [47]) := by unfold nameB longM; rw [if_neg (by simpa using hn)]; rfl
      simp only [bodyB, oneB, hx, headB, padB, List.nil_append, List.cons_append]
      exact ⟨_, rfl⟩
    obtain ⟨q, hq⟩ := h110
    have : ¬ r.take 5 = [47, 47, 32, 32, 32] := by rw [hq]; simp
    rw [if_neg this]
    constructor
    · intro h
      rcases find_ge (archB [⟨List.replicate n 110, 0, List.replicate size 0⟩]) [47, 47, 32, 32, 32] f 9 with h2 | h2
      · omega
      · omega
    · intro h; omega
end Go.Proofs.YtnjagoglabllaaaGreatDoor
