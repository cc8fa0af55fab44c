/-
  The reference's texts: Index, Decimal, padded, head, fair. Conditions: texts of at most 2^20 bytes.
-/
import Derived.Test.YtnjagoglabllaaaGreatDoorArFits
namespace Go.Proofs.YtnjagoglabllaaaGreatDoor
open Go.RowKit
open Go.Lib (decDigits nDigits)

/-- The first place of a byte; -1: none. -/
def idxB (s : Bs) (c : UInt8) : Int := if c ∈ s then (s.idxOf c : Int) else -1
theorem idxB_neg (s : Bs) (c : UInt8) : idxB s c < 0 ↔ c ∉ s := by
  unfold idxB
  split
  · rename_i h; simp [h]
  · rename_i h; simp [h]
theorem idx_at {s : Bs} {c : UInt8} {i : Nat} (h : ∀ x ∈ s.take i, x ≠ c) (hi : s[i]? = some c) : idxB s c = i := by
  have hm := List.mem_of_getElem? hi
  unfold idxB
  rw [if_pos hm]
  have hil := (List.getElem?_eq_some_iff.1 hi)
  obtain ⟨h1, h2⟩ := hil
  have e : s = s.take i ++ c :: s.drop (i + 1) := by
    rw [← h2, ← List.drop_eq_getElem_cons h1, List.take_append_drop]
  have : s.idxOf c = i := by
    rw [e, List.idxOf_append, if_neg (fun hm => h c hm rfl), List.idxOf_cons_self, List.length_take]
    omega
  rw [this]
theorem drop_take2 {s : Bs} {i : Nat} {c : UInt8} (h : ∀ x ∈ s.take i, x ≠ c) (hi : i < s.length) (hn : s[i] ≠ c) : ∀ x ∈ s.take (i + 1), x ≠ c := by
  intro x hx
  rw [List.take_succ_eq_append_getElem hi] at hx
  rcases List.mem_append.1 hx with hx | hx
  · exact h x hx
  · rw [List.mem_singleton] at hx; rw [hx]; exact hn
set_option maxHeartbeats 1000000 in
theorem refIndex_calls (l : Bs) (c : UInt8) (w : World) (hs : l.length ≤ 1099511627775) (ci : Int) (hci : ci = c.toNat) :
    Calls Tryz.prog 36 #[.string (mk l), .int .u8 ci] w fun e w' => e = .returned (.int .i64 (idxB l c)) ∧ w = w' := by
  have hms := mk_size l
  have hget : ∀ (i : Nat) (h : i < (mk l).size) (h2 : i < l.length), (mk l)[i]'h = l[i]'h2 := by intro i h h2; show (List.toArray l)[i] = l[i]; simp
  have kget := Lib.hid hget
  clear hget
  generalize hS : mk l = s at *
  have kS := Lib.hid hS
  clear hS
  go_enter Tryz.func36, Tryz.ntmps36
  go_wp2
  go_loop [5] (fun iv => ∃ i : Nat, i ≤ l.length ∧ iv = .int .i64 i ∧ ∀ x ∈ l.take i, x ≠ c) (fun iv => l.length - (intOf iv).toNat)
  case atStart => exact ⟨0, Nat.zero_le _, rfl, by simp⟩
  case round =>
    obtain ⟨i, hi, rfl, h3⟩ := hrel
    have k3 := Lib.hid h3
    clear h3
    by_cases hlt0 : i < l.length
    · have hlt : i < s.size := by omega
      have hg := kget.out i hlt hlt0
      by_cases h47 : l[i] = c
      · have e47 : ((((s[i]'hlt).toNat : Nat) : Int) == ci) = true := by rw [hg, h47, hci]; simp
        have kk := Lib.hid (idx_at k3.out (by rw [List.getElem?_eq_getElem hlt0, h47]))
        clear h47 hg
        go_wp2
        go_ret
        exact ⟨by rw [kk.out]; rfl, rfl⟩
      · have e47 : ((((s[i]'hlt).toNat : Nat) : Int) == ci) = false := by
          rw [beq_eq_false_iff_ne, hci, hg]; intro e; exact h47 (UInt8.toNat_inj.1 (by omega))
        have kk := Lib.hid (drop_take2 k3.out hlt0 h47)
        clear h47 hg
        go_wp2
        go_round
        case rel => exact ⟨i + 1, by omega, by go_num, kk.out⟩
        case measure => simp [intOf]; omega
    · have hie : i = l.length := by omega
      have kk := Lib.hid (show idxB l c = -1 by
        unfold idxB
        rw [if_neg]
        intro hm
        have := k3.out
        rw [hie, List.take_length] at this
        exact this c hm rfl)
      have hlt : ¬ i < s.size := by omega
      go_wp2
      go_ret
      exact ⟨by rw [kk.out]; rfl, rfl⟩
theorem digit_at {d : Nat} (h : d < 10) : (⟨#[48, 49, 50, 51, 52, 53, 54, 55, 56, 57]⟩ : ByteArray).extract d (d + 1) = mk [UInt8.ofNat (48 + d)] := by
  match d, h with
  | 0, _ => rfl
  | 1, _ => rfl
  | 2, _ => rfl
  | 3, _ => rfl
  | 4, _ => rfl
  | 5, _ => rfl
  | 6, _ => rfl
  | 7, _ => rfl
  | 8, _ => rfl
  | 9, _ => rfl
theorem dec_big {n : Nat} (h : ¬ n < 10) : decDigits n = decDigits (n / 10) ++ [UInt8.ofNat (48 + n % 10)] := by rw [decDigits, dif_neg h]
theorem dec13 {n : Nat} (h : n ≤ 10000000000000) : (decDigits n).length ≤ 14 :=
  dec_len (by have : (10 : Nat) ^ 14 = 100000000000000 := by decide
              omega) (by decide)
theorem dec_calls : ∀ (n : Nat) (w : World), n ≤ 10000000000000 → Calls Tryz.prog 30 #[.int .i64 n] w fun e w' => e = .returned (.string (mk (decDigits n))) ∧ w = w' := by
  intro n
  induction n using Nat.strongRecOn with
  | ind n ih =>
    intro w hn
    have hm : n % 10 < 10 := by omega
    have kd := Lib.hid (digit_at hm)
    by_cases h : n < 10
    · have kf := Lib.hid (show (⟨#[48, 49, 50, 51, 52, 53, 54, 55, 56, 57]⟩ : ByteArray).extract (n % 10) (n % 10 + 1) = mk (decDigits n) by rw [kd.out, Go.Lib.decDigits_one h, Nat.mod_eq_of_lt h])
      clear ih hm
      go_enter Tryz.func30, Tryz.ntmps30
      go_wp2
      go_ret
      exact ⟨by rw [← kf.out]; rfl, rfl⟩
    · have kf := Lib.hid (show mk (decDigits (n / 10)) ++ (⟨#[48, 49, 50, 51, 52, 53, 54, 55, 56, 57]⟩ : ByteArray).extract (n % 10) (n % 10 + 1) = mk (decDigits n) by rw [kd.out, dec_big h, mk_append])
      have e : ((n / 10 : Nat) : Int) = (n : Int) / 10 := by omega
      have hI := ih (n / 10) (by omega) w (by omega)
      rw [e] at hI
      have kI := Lib.hid hI
      have hD : (mk (decDigits (n / 10))).size ≤ 14 := by rw [mk_size]; exact dec13 (by omega)
      clear ih hm hI e
      generalize mk (decDigits (n / 10)) = D at *
      go_enter Tryz.func30, Tryz.ntmps30
      go_wp2_with (go_at_call 30; refine kI.out.mono ?_; rintro e w1 ⟨rfl, rfl⟩)
      go_ret
      exact ⟨by rw [← kf.out]; rfl, rfl⟩
set_option maxHeartbeats 1000000 in
theorem refpad_calls (s : Bs) (n : Nat) (w : World) (_hs : s.length ≤ 1048576) (hn : n ≤ 1000) :
    Calls Tryz.prog 35 #[.string (mk s), .int .i64 n] w fun e w' => e = .returned (.string (mk (padB s n))) ∧ w = w' := by
  go_enter Tryz.func35, Tryz.ntmps35
  go_wp2
  go_loop [0] (fun sv => ∃ k : Nat, k ≤ n - s.length ∧ sv = .string (mk (s ++ List.replicate k 32))) (fun sv => n - (match sv with | .string b => b.size | _ => 0))
  case atStart => exact ⟨0, Nat.zero_le _, by simp⟩
  case round =>
    obtain ⟨k, hk, rfl⟩ := hrel
    have hms : (mk (s ++ List.replicate k 32)).size = s.length + k := by rw [mk_size, List.length_append, List.length_replicate]
    by_cases hlt : s.length + k < n
    · have y1 : ((s.length + k : Nat) : Int) < (n : Int) := by omega
      have kk := Lib.hid (show mk (s ++ List.replicate k 32) ++ ⟨#[32]⟩ = mk (s ++ List.replicate (k + 1) 32) by
        rw [show (⟨#[32]⟩ : ByteArray) = mk [32] from rfl, mk_append, List.replicate_succ', List.append_assoc])
      obtain ⟨m, hm⟩ : ∃ m, m = s.length + k := ⟨_, rfl⟩
      rw [← hm] at hms y1
      have z1 : m ≤ 1100000 := by omega
      have khm := Lib.hid hm
      clear hm
      generalize mk (s ++ List.replicate k 32) = A at *
      go_wp2
      go_round
      case rel =>
        have := khm.out
        exact ⟨k + 1, by omega, congrArg Value.string kk.out⟩
      case measure =>
        have := khm.out
        simp only [ByteArray.size_append, hms]
        show n - (m + 1) < n - m
        omega
    · have y1 : ¬ ((s.length + k : Nat) : Int) < (n : Int) := by omega
      have kk := Lib.hid (show s ++ List.replicate k 32 = padB s n by
        unfold padB
        have : k = n - s.length ∨ k ≤ n - s.length := by omega
        congr 2; omega)
      obtain ⟨m, hm⟩ : ∃ m, m = s.length + k := ⟨_, rfl⟩
      rw [← hm] at hms y1
      clear hm hlt
      go_wp2
      go_ret
      exact ⟨by rw [kk.out]; rfl, rfl⟩
theorem padB_le {s : Bs} {n : Nat} (hs : s.length ≤ 1048576) (hn : n ≤ 1000) : (padB s n).length ≤ 1050000 := by
  unfold padB; rw [List.length_append, List.length_replicate]; omega
set_option maxRecDepth 100000 in
set_option maxHeartbeats 2000000 in
theorem refhead_calls (name date owner mode : Bs) (size : Nat) (w : World) (h1 : name.length ≤ 1048576) (h2 : date.length ≤ 1048576) (h3 : owner.length ≤ 1048576) (h4 : mode.length ≤ 1048576) (h5 : size ≤ 10000000000000) :
    Calls Tryz.prog 29 #[.string (mk name), .string (mk date), .string (mk owner), .string (mk mode), .int .i64 size] w fun e w' => e = .returned (.string (mk (headB name date owner mode size))) ∧ w = w' := by
  have kf := Lib.hid (show mk (padB name 16) ++ mk (padB date 12) ++ mk (padB owner 6) ++ mk (padB owner 6) ++ mk (padB mode 8) ++ mk (padB (decDigits size) 10) ++ ⟨#[96, 10]⟩ = mk (headB name date owner mode size) by
    rw [show (⟨#[96, 10]⟩ : ByteArray) = mk [96, 10] from rfl]
    simp only [mk_append]
    rfl)
  have p1 := Lib.hid (refpad_calls name 16 w h1 (by decide))
  have p2 := Lib.hid (refpad_calls date 12 w h2 (by decide))
  have p3 := Lib.hid (refpad_calls owner 6 w h3 (by decide))
  have p4 := Lib.hid (refpad_calls mode 8 w h4 (by decide))
  have p5 := Lib.hid (dec_calls size w h5)
  have p6 := Lib.hid (refpad_calls (decDigits size) 10 w (by have := dec13 h5; omega) (by decide))
  have z1 : (mk (padB name 16)).size ≤ 1050000 := by rw [mk_size]; exact padB_le h1 (by decide)
  have z2 : (mk (padB date 12)).size ≤ 1050000 := by rw [mk_size]; exact padB_le h2 (by decide)
  have z3 : (mk (padB owner 6)).size ≤ 1050000 := by rw [mk_size]; exact padB_le h3 (by decide)
  have z4 : (mk (padB mode 8)).size ≤ 1050000 := by rw [mk_size]; exact padB_le h4 (by decide)
  have z6 : (mk (padB (decDigits size) 10)).size ≤ 1050000 := by rw [mk_size]; exact padB_le (by have := dec13 h5; omega) (by decide)
  generalize mk (headB name date owner mode size) = R at *
  generalize mk (padB name 16) = s1 at *
  generalize mk (padB date 12) = s2 at *
  generalize mk (padB owner 6) = s3 at *
  generalize mk (padB mode 8) = s4 at *
  generalize mk (padB (decDigits size) 10) = s6 at *
  generalize mk (decDigits size) = sd at *
  generalize hn1 : mk name = n1 at *
  generalize hn2 : mk date = n2 at *
  generalize hn3 : mk owner = n3 at *
  generalize hn4 : mk mode = n4 at *
  clear hn1 hn2 hn3 hn4 h1 h2 h3 h4
  have q3 := Lib.hid p3.out
  go_enter Tryz.func29, Tryz.ntmps29
  go_wp2_with (first | (go_at_call_of 35 (Value.int .i64 16); refine p1.out.mono ?_; rintro e w1 ⟨rfl, rfl⟩) | (go_at_call_of 35 (Value.int .i64 12); refine p2.out.mono ?_; rintro e w1 ⟨rfl, rfl⟩) | (go_at_call_of 35 (Value.int .i64 6); refine p3.out.mono ?_; rintro e w1 ⟨rfl, rfl⟩) | (go_at_call_of 35 (Value.int .i64 8); refine p4.out.mono ?_; rintro e w1 ⟨rfl, rfl⟩) | (go_at_call_of 35 (Value.int .i64 10); refine p6.out.mono ?_; rintro e w1 ⟨rfl, rfl⟩) | (go_at_call 30; refine p5.out.mono ?_; rintro e w1 ⟨rfl, rfl⟩))
  go_ret
  exact ⟨by rw [← kf.out]; rfl, rfl⟩
theorem fairB_idx (m : Mem) : fairB m = (decide (m.name ≠ []) && decide (m.name.length ≤ 255) && decide (idxB m.name 47 < 0) && decide (idxB m.name 0 < 0) && decide (idxB m.name 10 < 0) && decide (0 ≤ m.date) && decide (m.date < 1000000000000)) := by
  unfold fairB
  rw [all_hasZ]
  unfold hasZ
  simp only [idxB_neg]
  by_cases a : (47 : UInt8) ∈ m.name <;> by_cases b : (0 : UInt8) ∈ m.name <;> by_cases c : (10 : UInt8) ∈ m.name <;> simp [a, b, c]
set_option maxRecDepth 100000 in
set_option maxHeartbeats 4000000 in
theorem fair_calls (m : Mem) (dv : Value) (w : World) (hn : m.name.length ≤ 1048576) :
    Calls Tryz.prog 28 #[.agg #[.string (mk m.name), .int .i64 m.date, dv]] w fun e w' => e = .returned (.bool (fairB m)) ∧ Below w.heap.size w w' := by
  have hms : (mk m.name).size = m.name.length := mk_size m.name
  have i1 := Lib.hid (fun w => refIndex_calls m.name 47 w (by omega) 47 rfl)
  have i2 := Lib.hid (fun w => refIndex_calls m.name 0 w (by omega) 0 rfl)
  have i3 := Lib.hid (fun w => refIndex_calls m.name 10 w (by omega) 10 rfl)
  have kbox := Lib.hid (heap_alloc_new w (.cells #[.string (mk m.name), .int .i64 m.date, dv] 37))
  have kb0 := Lib.hid (below_al (o := .cells #[.string (mk m.name), .int .i64 m.date, dv] 37) (Below.refl w.heap.size w))
  have hf := fairB_idx m
  have hem : (mk m.name).toList.isEmpty = decide (m.name = []) := by
    by_cases h : m.name = []
    · rw [h, Go.Lib.toList_data]; rfl
    · rw [mk_isEmpty h]; simp [h]
  generalize m.date = d at *
  generalize fairB m = B at *
  generalize mk m.name = S at *
  have hf2 : B = (!S.toList.isEmpty && decide (m.name.length ≤ 255) && decide (idxB m.name 47 < 0) && decide (idxB m.name 0 < 0) && decide (idxB m.name 10 < 0) && decide (0 ≤ d) && decide (d < 1000000000000)) := by rw [hf, hem]; simp
  clear hf hem
  generalize m.name = N at *
  generalize idxB N 47 = j1 at *
  generalize idxB N 0 = j2 at *
  generalize idxB N 10 = j3 at *
  have khf := Lib.hid hf2
  clear hf2
  go_enter Tryz.func28, Tryz.ntmps28
  cases he : S.toList.isEmpty with
  | true =>
    go_wp2_with fail
    go_ret
    exact ⟨by rw [khf.out, he]; rfl, kb0.out⟩
  | false =>
    by_cases hl0 : N.length ≤ 255
    · have hl : (N.length : Int) ≤ 255 := by omega
      by_cases y1 : j1 < 0
      · by_cases y2 : j2 < 0
        · by_cases y3 : j3 < 0
          · by_cases hd0 : 0 ≤ d
            · by_cases hd1 : d < 1000000000000
              · (go_wp2_with (first | (go_at_call_of 36 (Value.int .u8 47); refine (i1.out _).mono ?_; rintro e w1 ⟨rfl, rfl⟩) | (go_at_call_of 36 (Value.int .u8 0); refine (i2.out _).mono ?_; rintro e w1 ⟨rfl, rfl⟩) | (go_at_call_of 36 (Value.int .u8 10); refine (i3.out _).mono ?_; rintro e w1 ⟨rfl, rfl⟩)))
                go_ret
                exact ⟨by rw [khf.out, he]; simp [hl0, y1, y2, y3, hd0, hd1] <;> (intros; omega), kb0.out⟩
              · (go_wp2_with (first | (go_at_call_of 36 (Value.int .u8 47); refine (i1.out _).mono ?_; rintro e w1 ⟨rfl, rfl⟩) | (go_at_call_of 36 (Value.int .u8 0); refine (i2.out _).mono ?_; rintro e w1 ⟨rfl, rfl⟩) | (go_at_call_of 36 (Value.int .u8 10); refine (i3.out _).mono ?_; rintro e w1 ⟨rfl, rfl⟩)))
                go_ret
                exact ⟨by rw [khf.out, he]; simp [hl0, y1, y2, y3, hd0, hd1] <;> (intros; omega), kb0.out⟩
            · (go_wp2_with (first | (go_at_call_of 36 (Value.int .u8 47); refine (i1.out _).mono ?_; rintro e w1 ⟨rfl, rfl⟩) | (go_at_call_of 36 (Value.int .u8 0); refine (i2.out _).mono ?_; rintro e w1 ⟨rfl, rfl⟩) | (go_at_call_of 36 (Value.int .u8 10); refine (i3.out _).mono ?_; rintro e w1 ⟨rfl, rfl⟩)))
              go_ret
              exact ⟨by rw [khf.out, he]; simp [hl0, y1, y2, y3, hd0] <;> (intros; omega), kb0.out⟩
          · (go_wp2_with (first | (go_at_call_of 36 (Value.int .u8 47); refine (i1.out _).mono ?_; rintro e w1 ⟨rfl, rfl⟩) | (go_at_call_of 36 (Value.int .u8 0); refine (i2.out _).mono ?_; rintro e w1 ⟨rfl, rfl⟩) | (go_at_call_of 36 (Value.int .u8 10); refine (i3.out _).mono ?_; rintro e w1 ⟨rfl, rfl⟩)))
            go_ret
            exact ⟨by rw [khf.out, he]; simp [hl0, y1, y2, y3] <;> (intros; omega), kb0.out⟩
        · (go_wp2_with (first | (go_at_call_of 36 (Value.int .u8 47); refine (i1.out _).mono ?_; rintro e w1 ⟨rfl, rfl⟩) | (go_at_call_of 36 (Value.int .u8 0); refine (i2.out _).mono ?_; rintro e w1 ⟨rfl, rfl⟩) | (go_at_call_of 36 (Value.int .u8 10); refine (i3.out _).mono ?_; rintro e w1 ⟨rfl, rfl⟩)))
          go_ret
          exact ⟨by rw [khf.out, he]; simp [hl0, y1, y2] <;> (intros; omega), kb0.out⟩
      · (go_wp2_with (first | (go_at_call_of 36 (Value.int .u8 47); refine (i1.out _).mono ?_; rintro e w1 ⟨rfl, rfl⟩) | (go_at_call_of 36 (Value.int .u8 0); refine (i2.out _).mono ?_; rintro e w1 ⟨rfl, rfl⟩) | (go_at_call_of 36 (Value.int .u8 10); refine (i3.out _).mono ?_; rintro e w1 ⟨rfl, rfl⟩)))
        go_ret
        exact ⟨by rw [khf.out, he]; simp [hl0, y1] <;> (intros; omega), kb0.out⟩
    · have hl : ¬ (N.length : Int) ≤ 255 := by omega
      (go_wp2_with (first | (go_at_call_of 36 (Value.int .u8 47); refine (i1.out _).mono ?_; rintro e w1 ⟨rfl, rfl⟩) | (go_at_call_of 36 (Value.int .u8 0); refine (i2.out _).mono ?_; rintro e w1 ⟨rfl, rfl⟩) | (go_at_call_of 36 (Value.int .u8 10); refine (i3.out _).mono ?_; rintro e w1 ⟨rfl, rfl⟩)))
      go_ret
      exact ⟨by rw [khf.out, he]; simp [hl0] <;> (intros; omega), kb0.out⟩
end Go.Proofs.YtnjagoglabllaaaGreatDoor
