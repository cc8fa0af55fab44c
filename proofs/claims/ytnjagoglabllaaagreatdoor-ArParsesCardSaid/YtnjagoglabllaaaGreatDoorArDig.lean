/-
  digits, the reference's. Conditions: texts of at most 2^20 bytes.
-/
import Derived.Test.YtnjagoglabllaaaGreatDoorArMembP
namespace Go.Proofs.YtnjagoglabllaaaGreatDoor
open Go.RowKit
open Go.Lib (decDigits nDigits)

theorem idx_le (s : Bs) (c : UInt8) : idxB s c ≤ s.length := by
  unfold idxB
  split
  · have := List.idxOf_le_length (a := c) (l := s); omega
  · omega
theorem blank_le (s : Bs) : blankAt s ≤ s.length := by
  unfold blankAt
  have := idx_le s 32
  split <;> omega
theorem digit_out {c : UInt8} (h : c.toNat < 48 ∨ 57 < c.toNat) : Lib.digitVal c = none := by
  unfold Lib.digitVal
  rw [if_neg (by omega)]
theorem digit_in {c : UInt8} (h : 48 ≤ c.toNat) (h2 : c.toNat ≤ 57) : Lib.digitVal c = some (c.toNat - 48) := by
  unfold Lib.digitVal
  rw [if_pos ⟨h, h2⟩]
theorem dec_lt : ∀ (l : Bs) (acc n : Nat), Lib.decFrom acc l = some n → n < (acc + 1) * 10 ^ l.length
  | [], acc, n, h => by injection h with h; subst h; simp
  | c :: r, acc, n, h => by
    rw [Lib.decFrom] at h
    split at h
    · rename_i d hd
      have hd9 : d ≤ 9 := by
        unfold Lib.digitVal at hd
        split at hd
        · injection hd with hd; omega
        · cases hd
      have := dec_lt r _ n h
      rw [List.length_cons, Nat.pow_succ]
      have h1 : (acc * 10 + d + 1) * 10 ^ r.length ≤ ((acc + 1) * 10) * 10 ^ r.length := Nat.mul_le_mul_right _ (by omega)
      have h2 : ((acc + 1) * 10) * 10 ^ r.length = (acc + 1) * (10 ^ r.length * 10) := by rw [Nat.mul_assoc, Nat.mul_comm 10]
      omega
    · cases h
set_option maxRecDepth 100000 in
set_option maxHeartbeats 2000000 in
theorem digits_calls (s : Bs) (w : World) (hs : s.length ≤ 1048576) :
    Calls Tryz.prog 34 #[.string (mk s)] w fun e w' => e = .returned (.int .i64 (digP s)) ∧ w = w' := by
  have kI := Lib.hid (refIndex_calls s 32 w (by omega) 32 rfl)
  have hms := mk_size s
  have kget := Lib.hid (show ∀ (i : Nat) (h : i < (mk s).size) (h2 : i < s.length), (mk s)[i]'h = s[i]'h2 from by intro i h h2; show (List.toArray s)[i] = s[i]; simp)
  have hbl := blank_le s
  have kbl := Lib.hid (show blankAt s = if idxB s 32 < 0 then s.length else (idxB s 32).toNat from rfl)
  have kd := Lib.hid (show digP s = if blankAt s = 0 ∨ 12 < blankAt s then -1 else match Lib.decFrom 0 (s.take (blankAt s)) with
    | some n => (n : Int)
    | none => -1 from rfl)
  generalize idxB s 32 = ix at *
  generalize blankAt s = K at *
  generalize mk s = S at *
  go_enter Tryz.func34, Tryz.ntmps34
  go_upto_if 9 with (go_at_call 36; refine kI.out.mono ?_; rintro e w1 ⟨rfl, rfl⟩)
  go_cut [3] from 9 to 11 (fun kv wx => kv = .int .i64 K ∧ wx = w)
  case first =>
    by_cases hix : ix < 0
    · have kk := Lib.hid (show K = s.length by rw [kbl.out, if_pos hix])
      have hd : decide (ix < 0) = true := decide_eq_true hix
      simp only [hd]
      go_wp2_with fail
      go_meet
      case rel => exact ⟨by rw [kk.out], rfl⟩
    · have kk := Lib.hid (show ix = (K : Int) by rw [kbl.out, if_neg hix]; omega)
      have hd : decide (ix < 0) = false := decide_eq_false hix
      simp only [hd]
      go_wp2_with fail
      go_meet
      case rel => exact ⟨by rw [kk.out], rfl⟩
  case rest =>
    obtain ⟨rfl, rfl⟩ := hcut
    by_cases h0 : K = 0
    · have kr := Lib.hid (show digP s = -1 by rw [kd.out, if_pos (Or.inl h0)])
      subst h0
      go_wp2_with fail
      go_ret
      exact ⟨by rw [kr.out]; rfl, rfl⟩
    · have y0 : ((K : Int) == 0) = false := by rw [beq_eq_false_iff_ne]; omega
      by_cases h12 : 12 < K
      · have kr := Lib.hid (show digP s = -1 by rw [kd.out, if_pos (Or.inr h12)])
        have y1 : (12 : Int) < (K : Int) := by omega
        go_wp2_with fail
        go_ret
        exact ⟨by rw [kr.out]; rfl, rfl⟩
      · have y1 : ¬ (12 : Int) < (K : Int) := by omega
        have kr := Lib.hid (show digP s = match Lib.decFrom 0 (s.take K) with
          | some n => (n : Int)
          | none => -1 by rw [kd.out, if_neg (by omega)])
        clear y0
        have y0 : ¬ (K : Int) = 0 := by omega
        go_wp2_with fail
        go_loop [4, 5] (fun nv iv => ∃ i n : Nat, i ≤ K ∧ iv = .int .i64 i ∧ nv = .int .i64 n ∧ Lib.decFrom 0 (s.take i) = some n) (fun _ iv => K - (intOf iv).toNat)
        case atStart => exact ⟨0, 0, Nat.zero_le _, rfl, rfl, rfl⟩
        case round =>
          obtain ⟨i, n, hi, rfl, rfl, hn⟩ := hrel
          have kn := Lib.hid hn
          have hlt10 := dec_lt _ _ _ hn
          have hnl : n < 1000000000000 := by
            have h1 : (s.take i).length ≤ 12 := by rw [List.length_take]; omega
            have h2 : 10 ^ (s.take i).length ≤ 10 ^ 12 := Nat.pow_le_pow_right (by decide) h1
            have h3 : (10 : Nat) ^ 12 = 1000000000000 := by decide
            omega
          clear hn hlt10
          by_cases hlt : i < K
          · have hiS : i < S.size := by omega
            have his : i < s.length := by omega
            have hg := kget.out i hiS his
            obtain ⟨c, hc⟩ : ∃ c, s[i]'his = c := ⟨_, rfl⟩
            rw [hc] at hg
            have ktk := Lib.hid (show s.take (i + 1) = s.take i ++ [c] by rw [List.take_succ_eq_append_getElem his, hc])
            have y2 : (i : Int) < (K : Int) := by omega
            have hsplit : Lib.decFrom 0 (s.take K) = Lib.decFrom 0 (s.take (i + 1) ++ (s.take K).drop (i + 1)) := by
              have h1 : s.take (i + 1) = (s.take K).take (i + 1) := by rw [List.take_take, Nat.min_eq_left (by omega)]
              rw [h1, List.take_append_drop]
            have kbad := Lib.hid (show Lib.digitVal c = none → digP s = -1 from fun h => by
              rw [kr.out, hsplit, decFrom_app, ktk.out, decFrom_app, kn.out]
              have e : Lib.decFrom n [c] = none := by rw [Lib.decFrom, h]
              simp only [Option.bind_some, e, Option.bind_none])
            clear hsplit
            by_cases hb1 : c.toNat < 48
            · have y3 : (((S[i]'hiS).toNat : Nat) : Int) < 48 := by rw [hg]; omega
              have kq := Lib.hid (kbad.out (digit_out (Or.inl hb1)))
              clear hg hb1
              go_wp2
              go_ret
              exact ⟨by rw [kq.out]; rfl, rfl⟩
            · have y3 : ¬ (((S[i]'hiS).toNat : Nat) : Int) < 48 := by rw [hg]; omega
              by_cases hb2 : 57 < c.toNat
              · have y4 : (57 : Int) < (((S[i]'hiS).toNat : Nat) : Int) := by rw [hg]; omega
                have kq := Lib.hid (kbad.out (digit_out (Or.inr hb2)))
                clear hg hb1 hb2
                go_wp2
                go_ret
                exact ⟨by rw [kq.out]; rfl, rfl⟩
              · have y4 : ¬ (57 : Int) < (((S[i]'hiS).toNat : Nat) : Int) := by rw [hg]; omega
                obtain ⟨d, hd⟩ : ∃ d : Nat, d = c.toNat - 48 := ⟨_, rfl⟩
                obtain ⟨m, hm⟩ : ∃ m : Nat, m = 10 * n := ⟨_, rfl⟩
                obtain ⟨n2, hn2⟩ : ∃ n2 : Nat, n2 = m + d := ⟨_, rfl⟩
                have e1 : IntKind.i64.wrap (10 * (n : Int)) = (m : Int) := by rw [IntWalk.i64_in _ (by omega)]; omega
                have e2 : IntKind.u8.wrap ((((S[i]'hiS).toNat : Nat) : Int) - 48) = (d : Int) := by rw [hg, IntWalk.u8_in _ (by omega)]; omega
                have e3 : IntKind.i64.wrap ((m : Int) + (d : Int)) = (n2 : Int) := by rw [IntWalk.i64_in _ (by omega)]; omega
                have kw := Lib.hid (show Go.RowKit.wrap64 ((m : Int) + Go.RowKit.wrap64 (d : Int)) = (n2 : Int) by rw [IntWalk.wrap64_in (d : Int) (by omega), IntWalk.wrap64_in _ (by omega)]; omega)
                have kn2 := Lib.hid (show Lib.decFrom 0 (s.take (i + 1)) = some n2 by
                  rw [ktk.out, decFrom_app, kn.out]
                  show Lib.decFrom n [c] = some n2
                  rw [Lib.decFrom, digit_in (by omega) (by omega)]
                  show some (n * 10 + (c.toNat - 48)) = some n2
                  congr 1; omega)
                clear hg hb1 hb2 hd hm hn2
                go_wp2
                go_round
                case rel => exact ⟨i + 1, n2, by omega, by go_num, congrArg (Value.int .i64) kw.out, kn2.out⟩
                case measure => simp [intOf]; omega
          · have hik : i = K := by omega
            have y2 : ¬ (i : Int) < (K : Int) := by omega
            have kq := Lib.hid (show digP s = (n : Int) by have := kn.out; rw [hik] at this; rw [kr.out, this])
            go_wp2
            go_ret
            exact ⟨by rw [kq.out]; rfl, rfl⟩
end Go.Proofs.YtnjagoglabllaaaGreatDoor
