/-
  Decimal of small numbers. Conditions: numbers of at most 2^20.
-/
import Derived.Test.YtejofgdglpmlkaaDoorVSmall
namespace Go.Proofs.YtejofgdglpmlkaaDoor
open Go.RowKit

def decB (n : Nat) : Bs := if n < 10 then [(48 + n).toUInt8] else decB (n / 10) ++ [(48 + n % 10).toUInt8]
termination_by n
decreasing_by omega
theorem decB_small {n : Nat} (h : n < 10) : decB n = [(48 + n).toUInt8] := by rw [decB, if_pos h]
theorem decB_big {n : Nat} (h : ¬ n < 10) : decB n = decB (n / 10) ++ [(48 + n % 10).toUInt8] := by rw [decB, if_neg h]
theorem digit_at {d : Nat} (h : d < 10) : (⟨#[48, 49, 50, 51, 52, 53, 54, 55, 56, 57]⟩ : ByteArray).extract d (d + 1) = mk [(48 + d).toUInt8] := by
  match d, h with
  | 0, _ => rfl
  | 1, _ => rfl
  | 2, _ => rfl
  | 3, _ => rfl
  | 4, _ => rfl
  | 5, _ => rfl
  | 6, _ => rfl
  | 7, _ => rfl
  | 8, _ => rfl
  | 9, _ => rfl
theorem mk_append (a b : Bs) : mk a ++ mk b = mk (a ++ b) := ba_ext (by rw [ba_append, mk_list, mk_list, mk_list])
theorem decB_le : ∀ n : Nat, (decB n).length ≤ n + 1 := by
  intro n
  induction n using Nat.strongRecOn with
  | ind n ih =>
    by_cases h : n < 10
    · rw [decB_small h]; simp
    · have := ih (n / 10) (by omega)
      rw [decB_big h, List.length_append, List.length_singleton]; omega
theorem dec_calls : ∀ (n : Nat) (w : World), n ≤ 1048576 → Calls Tryd.prog 8 #[.int .i64 n] w fun e w' => e = .returned (.string (mk (decB n))) ∧ w = w' := by
  intro n
  induction n using Nat.strongRecOn with
  | ind n ih =>
    intro w hn
    have hm : n % 10 < 10 := by omega
    have kd := Lib.hid (digit_at hm)
    by_cases h : n < 10
    · have kf := Lib.hid (show (⟨#[48, 49, 50, 51, 52, 53, 54, 55, 56, 57]⟩ : ByteArray).extract (n % 10) (n % 10 + 1) = mk (decB n) by rw [kd.out, decB_small h, Nat.mod_eq_of_lt h])
      clear ih hm
      go_enter Tryd.func8, Tryd.ntmps8
      go_wp2
      go_ret
      exact ⟨by rw [← kf.out]; rfl, rfl⟩
    · have kf := Lib.hid (show mk (decB (n / 10)) ++ (⟨#[48, 49, 50, 51, 52, 53, 54, 55, 56, 57]⟩ : ByteArray).extract (n % 10) (n % 10 + 1) = mk (decB n) by rw [kd.out, decB_big h, mk_append])
      have e : ((n / 10 : Nat) : Int) = (n : Int) / 10 := by omega
      have hI := ih (n / 10) (by omega) w (by omega)
      rw [e] at hI
      have kI := Lib.hid hI
      have hD : (mk (decB (n / 10))).size ≤ 1048577 := by rw [mk_size]; have := decB_le (n / 10); omega
      clear ih hm hI e
      generalize mk (decB (n / 10)) = D at *
      go_enter Tryd.func8, Tryd.ntmps8
      go_wp2_with (go_at_call 8; refine kI.out.mono ?_; rintro e w1 ⟨rfl, rfl⟩)
      go_ret
      exact ⟨by rw [← kf.out]; rfl, rfl⟩
/-- What a row of digits is worth. -/
def valB (l : Bs) : Nat := l.foldl (fun a c => 10 * a + (c.toNat - 48)) 0
theorem valB_snoc (l : Bs) (c : UInt8) : valB (l ++ [c]) = 10 * valB l + (c.toNat - 48) := by unfold valB; rw [List.foldl_append]; rfl
theorem digit_val {d : Nat} (h : d < 10) : ((48 + d).toUInt8).toNat = 48 + d := by simp; omega
theorem decB_val : ∀ n : Nat, valB (decB n) = n := by
  intro n
  induction n using Nat.strongRecOn with
  | ind n ih =>
    by_cases h : n < 10
    · rw [decB_small h]; unfold valB; simp only [List.foldl]; rw [digit_val h]; omega
    · rw [decB_big h, valB_snoc, ih (n / 10) (by omega), digit_val (by omega)]; omega
theorem decB_inj {a b : Nat} (h : decB a = decB b) : a = b := by rw [← decB_val a, h, decB_val]
theorem decB_digits : ∀ (n : Nat), ∀ c ∈ decB n, 48 ≤ c.toNat ∧ c.toNat ≤ 57 := by
  intro n
  induction n using Nat.strongRecOn with
  | ind n ih =>
    intro c hc
    by_cases h : n < 10
    · rw [decB_small h, List.mem_singleton] at hc; subst hc; rw [digit_val h]; omega
    · rw [decB_big h] at hc
      rcases List.mem_append.1 hc with hc | hc
      · exact ih (n / 10) (by omega) c hc
      · rw [List.mem_singleton] at hc; subst hc; rw [digit_val (by omega)]; omega
theorem decB_len : ∀ (n : Nat), n < 10000 → (decB n).length ≤ 4 := by
  intro n hn
  by_cases h : n < 10
  · rw [decB_small h]; simp
  rw [decB_big h]
  by_cases h1 : n / 10 < 10
  · rw [decB_small h1]; simp
  rw [decB_big h1]
  by_cases h2 : n / 10 / 10 < 10
  · rw [decB_small h2]; simp
  rw [decB_big h2]
  have h3 : n / 10 / 10 / 10 < 10 := by omega
  rw [decB_small h3]; simp
/-- A name: a letter, then digits. -/
def nameB (c : UInt8) (n : Nat) : Bs := c :: decB n
theorem nameB_inj {c : UInt8} {a b : Nat} (h : nameB c a = nameB c b) : a = b := by injection h with _ h; exact decB_inj h
theorem name_free {c : UInt8} {n : Nat} (x : UInt8) (hx : x.toNat < 48) (hc : 58 ≤ c.toNat) : x ∉ nameB c n := by
  intro h
  rcases List.mem_cons.1 h with e | h
  · rw [e] at hx; omega
  · have := decB_digits n x h; omega
theorem name_good {c : UInt8} {n : Nat} (hc : 58 ≤ c.toNat) : Good (nameB c n) :=
  ⟨(fun e => by cases e), fun e => name_free 46 (by decide) hc (by rw [e]; simp), fun e => name_free 46 (by decide) hc (by rw [e]; simp), name_free 47 (by decide) hc⟩
theorem name_valid {c : UInt8} {n : Nat} (hc : 58 ≤ c.toNat) (hn : n < 10000) : validB (nameB c n) = true := by
  have hl := decB_len n hn
  have hg := name_good (n := n) hc
  have h1 : (nameB c n).length ≤ 5 := by unfold nameB; simp only [List.length_cons]; omega
  refine validB_iff.2 ⟨by omega, clean_name hg, ⟨name_free 0 (by decide) hc, name_free 10 (by decide) hc⟩, fun m hm => ?_⟩
  rw [cnames_name hg, List.mem_singleton] at hm
  subst hm; omega
theorem ups_name {n : Bs} (h : Good n) : ups n = [] := by
  have := upsFrom_skip n [] [] (fun c hc e => h.sl (e ▸ hc))
  rw [List.append_nil] at this
  exact this
theorem look_name {st : St} {c : UInt8} {n : Nat} (hc : 58 ≤ c.toNat) (hn : n < 10000) (hf : find st (nameB c n) = none) : lookQ st (nameB c n) = .none := by
  rw [lookQ_rest (name_valid hc hn) (fun e => by cases e)]
  exact lookT_none (by rw [ups_name (name_good hc)]; rfl) hf
end Go.Proofs.YtejofgdglpmlkaaDoor
