/-
  ArLong answers true. Conditions: Itoa's table reads as laid.
-/
import Derived.Test.YtnjagoglabllaaaGreatDoorArLong
import Derived.Laws.MakeOwn
namespace Go.Proofs.YtnjagoglabllaaaGreatDoor
open Go.RowKit

/-- The world behind 'make([]byte, n)'. -/
def zeroW (w : World) (n : Nat) : World := w.alloc (.cells (ucells (List.replicate n 0)).toArray 5)
theorem made_zero (n : Nat) : madeCells #[.int .u8 0] n = (ucells (List.replicate n 0)).toArray := by
  apply Array.ext
  · simp [size_madeCells, ucells]
  · intro i h1 h2
    have : i < n := by simpa [size_madeCells] using h1
    simp [madeCells, ucells, Nat.mod_one]
theorem make_zero (w : World) (n : Nat) (h : n ≤ 1048576) : (Instr.makeSlice 26 (.int .i64 n) (.int .i64 n)).run Tryz.prog w = .ok (.slice (some ⟨w.heap.size, 0, none⟩) n n) (zeroW w n) := by
  obtain ⟨i, hi, hz, hs1, hb1⟩ := info_parts infoByte
  have := run_makeSlice (P := Tryz.prog) w 26 5 i (.int .u8 0) Tryz.underlying26 hi hz .i64 .i64 (n : Int) (n : Int) (by omega) (Int.le_refl _) (by simp [hs1]; omega) (by simp [hb1]; omega) (by omega)
  rw [this, Int.toNat_natCast, hs1, Nat.mul_one]
  unfold zeroW
  rw [← made_zero]; rfl
def longMem (n size : Nat) : Mem := ⟨List.replicate n 110, 0, List.replicate size 0⟩
theorem long_mems (w : World) (n z : Nat) (hz : z ≤ 1048576) (W : World) (hW : W = (zeroW w z).alloc (.cells #[.string (mk (List.replicate n 110)), .int .i64 0, .slice (some ⟨w.heap.size, 0, none⟩) z z] 37)) : MemsAt W (.slice (some ⟨(zeroW w z).heap.size, 0, none⟩) 1 1) [longMem n z] (fun j => j < W.heap.size) ∧ Below w.heap.size w W := by
  have e1 : W.heap[(zeroW w z).heap.size]? = some (.cells #[.string (mk (List.replicate n 110)), .int .i64 0, .slice (some ⟨w.heap.size, 0, none⟩) z z] 37 (0, 0)) := by rw [hW]; exact heap_alloc_new _ _
  have hs : (zeroW w z).heap.size = w.heap.size + 1 := by simp [zeroW]
  have e0 : W.heap[w.heap.size]? = some (.cells (ucells (List.replicate z 0)).toArray 5 (0, 0)) := by
    rw [hW]
    exact (heap_alloc_old (zeroW w z) _ (by omega)).trans (heap_alloc_new w _)
  obtain ⟨c0, c1, c2, -⟩ := cells3 e1
  refine ⟨⟨_, _, rfl, Nat.le_refl _, by unfold maxLen; omega, (fun h => by cases h), fun _ => ⟨_, 0, rfl, heap_lt e1, heap_lt e1, fun k x hk => ?_⟩⟩, ?_⟩
  · cases k with
    | zero =>
      cases hk
      have h := row_bytes e0 (by rw [List.length_replicate]; omega)
      rw [List.length_replicate] at h
      exact ⟨_, c0, c1, c2, h.mono (fun j hj => by subst hj; exact heap_lt e0)⟩
    | succ k => cases hk
  · rw [hW]
    exact below_al (below_al (Below.refl _ _))
set_option maxRecDepth 100000 in
set_option maxHeartbeats 4000000 in
theorem long_calls (w : World) (n size : Int) (htab : Tab w.heap.size w) :
    Calls Tryz.prog 6 #[.int .i64 n, .int .i64 size] w fun e w' => e = .returned (.bool true) ∧ Below w.heap.size w w' := by
  have kA := Lib.hid (alive_calls w htab)
  have ktab := Lib.hid htab
  clear htab
  go_enter Tryz.func6, Tryz.ntmps6
  by_cases hout : n < 1 ∨ 255 < n ∨ size < 0 ∨ 66000 < size
  · by_cases g1 : n < 1
    · go_wp2_with (go_at_call 8; refine kA.out.mono ?_; rintro e w2 ⟨rfl, hb2⟩; have kb2 := Lib.hid hb2; clear hb2)
      go_ret
      exact ⟨rfl, kb2.out⟩
    · by_cases g2 : 255 < n
      · go_wp2_with (go_at_call 8; refine kA.out.mono ?_; rintro e w2 ⟨rfl, hb2⟩; have kb2 := Lib.hid hb2; clear hb2)
        go_ret
        exact ⟨rfl, kb2.out⟩
      · by_cases g3 : size < 0
        · go_wp2_with (go_at_call 8; refine kA.out.mono ?_; rintro e w2 ⟨rfl, hb2⟩; have kb2 := Lib.hid hb2; clear hb2)
          go_ret
          exact ⟨rfl, kb2.out⟩
        · have g4 : 66000 < size := by omega
          go_wp2_with (go_at_call 8; refine kA.out.mono ?_; rintro e w2 ⟨rfl, hb2⟩; have kb2 := Lib.hid hb2; clear hb2)
          go_ret
          exact ⟨rfl, kb2.out⟩
  · have g1 : ¬ n < 1 := by omega
    have g2 : ¬ 255 < n := by omega
    have g3 : ¬ size < 0 := by omega
    have g4 : ¬ 66000 < size := by omega
    obtain ⟨N, rfl⟩ : ∃ N : Nat, n = N := ⟨n.toNat, by omega⟩
    obtain ⟨Z, rfl⟩ : ∃ Z : Nat, size = Z := ⟨size.toNat, by omega⟩
    have z1 : N ≤ 255 := by omega
    have z2 : 1 ≤ N := by omega
    have z3 : Z ≤ 66000 := by omega
    clear hout
    go_wp2_with (go_at_call 8; refine kA.out.mono ?_; rintro e w2 ⟨rfl, hb2⟩; have kb2 := Lib.hid hb2; clear hb2)
    go_loopw [6, 7] (fun sv iv wr => ∃ k : Nat, k ≤ N ∧ iv = .int .i64 k ∧ sv = .string (mk (List.replicate k 110)) ∧ Below w.heap.size w wr) (fun _ iv _ => N - (intOf iv).toNat)
    case atStart => exact ⟨0, Nat.zero_le _, rfl, rfl, kb2.out⟩
    case round =>
      obtain ⟨k, hk, rfl, rfl, hB⟩ := hrel
      have kB := Lib.hid hB
      clear hB
      by_cases hlt : k < N
      · have y0 : (k : Int) < (N : Int) := by omega
        have ks := Lib.hid (show mk (List.replicate k 110) ++ ⟨#[110]⟩ = mk (List.replicate (k + 1) 110) by
          rw [show (⟨#[110]⟩ : ByteArray) = mk [110] from rfl, mk_append, List.replicate_succ'])
        have hsz : (mk (List.replicate k 110)).size = k := by rw [mk_size, List.length_replicate]
        generalize mk (List.replicate k 110) = A at *
        go_wp2_with fail
        exact ⟨⟨k + 1, by omega, by go_num, congrArg Value.string ks.out, kB.out⟩, by simp [intOf]; omega⟩
      · have hkn : k = N := by omega
        have y0 : ¬ (k : Int) < (N : Int) := by omega
        rw [hkn]
        clear hkn
        have hmz := make_zero wr Z (by omega)
        have kw := Lib.hid (fun W (hW : W = (zeroW wr Z).alloc (.cells #[.string (mk (List.replicate N 110)), .int .i64 0, .slice (some ⟨wr.heap.size, 0, none⟩) Z Z] 37)) => by
          obtain ⟨h1, h2⟩ := long_mems wr N Z (by omega) W hW
          have hB := kB.out.trans (h2.mono kB.out.size)
          have h := write_calls ((ktab.out.on hB).mono hB.size) h1 (fun _ h => h) (by intro x hx; rw [List.mem_singleton.1 hx]; unfold longMem; simp; omega) (by simp)
          exact (show _ ∧ _ from ⟨hB, h⟩))
        go_upto_region 10 with (go_at_call 11; refine (kw.out _ rfl).2.mono ?_; rintro e w4 ⟨v4, rfl, ho, hb⟩; have ko4 := Lib.hid ho; have kB4 := Lib.hid (((kw.out _ rfl).1).trans (hb.mono (kw.out _ rfl).1.size)); clear ho hb)
        have hao := Lib.hid (show (archP [longMem N Z]).1.length ≤ 65536 from arch_out _)
        have hcv := bytes_str (ko4.out.bytes (by have := hao.out; omega))
        obtain ⟨va, vc, hvf⟩ := (ko4.out.bytes (by have := hao.out; omega)).form
        obtain ⟨q1, q2⟩ := long_mem (size := Z) z2 z1
        subst hvf
        obtain ⟨r, hr⟩ : ∃ r : Nat, r = Z % 2 := ⟨_, rfl⟩
        obtain ⟨q, hq⟩ : ∃ q : Nat, q = N % 2 := ⟨_, rfl⟩
        obtain ⟨L1, hL1⟩ : ∃ L1 : Nat, L1 = 68 + Z := ⟨_, rfl⟩
        obtain ⟨L2, hL2⟩ : ∃ L2 : Nat, L2 = L1 + r := ⟨_, rfl⟩
        obtain ⟨M1, hM1⟩ : ∃ M1 : Nat, M1 = L2 + 60 := ⟨_, rfl⟩
        obtain ⟨M2, hM2⟩ : ∃ M2 : Nat, M2 = M1 + N := ⟨_, rfl⟩
        obtain ⟨M3, hM3⟩ : ∃ M3 : Nat, M3 = M2 + 2 := ⟨_, rfl⟩
        obtain ⟨M4, hM4⟩ : ∃ M4 : Nat, M4 = M3 + q := ⟨_, rfl⟩
        have d1 : (Z : Int) % 2 = (r : Int) := by omega
        have d2 : (N : Int) % 2 = (q : Int) := by omega
        have e1 : IntKind.i64.wrap (68 + (Z : Int)) = (L1 : Int) := by rw [IntWalk.i64_in _ (by omega)]; omega
        have e2 : IntKind.i64.wrap ((L1 : Int) + (r : Int)) = (L2 : Int) := by rw [IntWalk.i64_in _ (by omega)]; omega
        have e3 : IntKind.i64.wrap ((L2 : Int) + 60) = (M1 : Int) := by rw [IntWalk.i64_in _ (by omega)]; omega
        have e4 : IntKind.i64.wrap ((M1 : Int) + (N : Int)) = (M2 : Int) := by rw [IntWalk.i64_in _ (by omega)]; omega
        have e5 : IntKind.i64.wrap ((M2 : Int) + 2) = (M3 : Int) := by rw [IntWalk.i64_in _ (by omega)]; omega
        have e6 : IntKind.i64.wrap ((M3 : Int) + (q : Int)) = (M4 : Int) := by rw [IntWalk.i64_in _ (by omega)]; omega
        have kfind := Lib.hid (fun h => long_find (size := Z) z2 z1 h)
        have kall := Lib.hid q2
        have khs := Lib.hid (show sizeN [longMem N Z] = if 15 < N then M4 else L2 by
          unfold longMem
          rw [q1]
          split <;> omega)
        clear q1 q2 hr hq hL1 hL2 hM1 hM2 hM3 hM4 hcv
        have kFi := Lib.hid (fun w => refFind_calls (archB [longMem N Z]) [47, 47, 32, 32, 32] w)
        by_cases hN : 15 < N
        · have y1 : (15 : Int) < (N : Int) := by omega
          have hs9 := Lib.hid (khs.out.trans (if_pos hN))
          by_cases hbig : 65536 < M4
          · have y2 : (65536 : Int) < (M4 : Int) := by omega
            have hP := Lib.hid (show archP [longMem N Z] = ([], 2) by unfold archP; rw [if_pos (Or.inr (by rw [hs9.out]; exact hbig))])
            rw [hP.out]
            go_wp2_with (go_at_call 14; refine (num_calls _ _).mono ?_; rintro e w0 ⟨rfl, rfl⟩)
            go_ret
            exact ⟨rfl, kB4.out⟩
          · have y2 : ¬ (65536 : Int) < (M4 : Int) := by omega
            have hbg : ¬ 65536 < sizeN [longMem N Z] := by rw [hs9.out]; exact hbig
            have hP := Lib.hid (show archP [longMem N Z] = (archB [longMem N Z], 0) by
              unfold archP; rw [if_neg (by simp; omega), if_neg (by rw [Bool.not_eq_false]; exact kall.out)])
            have hlen := Lib.hid (show (archB [longMem N Z]).length = M4 by rw [← hs9.out]; exact arch_len kall.out hbg)
            have hf := Lib.hid ((kfind.out hbg).2 hN)
            have hcv := bytes_str (ko4.out.bytes (by have := hao.out; omega))
            rw [hP.out] at hcv ⊢
            have hcv' : (convert 26 9 (.slice va M4 vc)).run Tryz.prog w4 = .ok (.string (mk (archB [longMem N Z]))) w4 := by rw [← hlen.out]; exact hcv
            have kF2 := Lib.hid (fun w => kFi.out w (by rw [hlen.out]; omega) (by decide))
            rw [show findB (archB [longMem N Z]) [47, 47, 32, 32, 32] = 8 from hf.out] at kF2
            dsimp only
            rw [hlen.out]
            clear hcv
            generalize mk (archB [longMem N Z]) = AS at *
            go_wp2_with (first | (go_at_call 14; refine (num_calls _ _).mono ?_; rintro e w0 ⟨rfl, rfl⟩) | (go_at_call 18; refine (kF2.out _).mono ?_; rintro e w0 ⟨rfl, rfl⟩))
            go_ret
            exact ⟨rfl, kB4.out⟩
        · have y1 : ¬ (15 : Int) < (N : Int) := by omega
          have hs9 := Lib.hid (khs.out.trans (if_neg hN))
          by_cases hbig : 65536 < L2
          · have y2 : (65536 : Int) < (L2 : Int) := by omega
            have hP := Lib.hid (show archP [longMem N Z] = ([], 2) by unfold archP; rw [if_pos (Or.inr (by rw [hs9.out]; exact hbig))])
            rw [hP.out]
            go_wp2_with (go_at_call 14; refine (num_calls _ _).mono ?_; rintro e w0 ⟨rfl, rfl⟩)
            go_ret
            exact ⟨rfl, kB4.out⟩
          · have y2 : ¬ (65536 : Int) < (L2 : Int) := by omega
            have hbg : ¬ 65536 < sizeN [longMem N Z] := by rw [hs9.out]; exact hbig
            have hP := Lib.hid (show archP [longMem N Z] = (archB [longMem N Z], 0) by
              unfold archP; rw [if_neg (by simp; omega), if_neg (by rw [Bool.not_eq_false]; exact kall.out)])
            have hlen := Lib.hid (show (archB [longMem N Z]).length = L2 by rw [← hs9.out]; exact arch_len kall.out hbg)
            have hf := Lib.hid (show ¬ findB (archB [longMem N Z]) [47, 47, 32, 32, 32] = 8 from fun h => hN ((kfind.out hbg).1 h))
            have hcv := bytes_str (ko4.out.bytes (by have := hao.out; omega))
            rw [hP.out] at hcv ⊢
            have hcv' : (convert 26 9 (.slice va L2 vc)).run Tryz.prog w4 = .ok (.string (mk (archB [longMem N Z]))) w4 := by rw [← hlen.out]; exact hcv
            have kF2 := Lib.hid (fun w => kFi.out w (by rw [hlen.out]; omega) (by decide))
            have f8 : (findB (archB [longMem N Z]) [47, 47, 32, 32, 32] == 8) = false := by simpa using hf.out
            clear hf
            generalize findB (archB [longMem N Z]) [47, 47, 32, 32, 32] = fv at *
            dsimp only
            rw [hlen.out]
            clear hcv
            generalize mk (archB [longMem N Z]) = AS at *
            go_wp2_with (first | (go_at_call 14; refine (num_calls _ _).mono ?_; rintro e w0 ⟨rfl, rfl⟩) | (go_at_call 18; refine (kF2.out _).mono ?_; rintro e w0 ⟨rfl, rfl⟩))
            go_ret
            refine ⟨?_, kB4.out⟩
            show Ending.returned (.bool (!decide ((15 : Int) < (N : Int)))) = _
            rw [decide_eq_false (by omega)]; rfl
end Go.Proofs.YtnjagoglabllaaaGreatDoor
