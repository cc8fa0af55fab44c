/-
  The reference's Index, Names, slashed, Clean, Valid, Parent: walks. Conditions: texts of at most 2^31 bytes.
-/
import Derived.Test.YtejofgdglpmlkaaGreatDoorVRefP
import Derived.Test.YtejofgdglpmlkaaGreatDoorVValid
namespace Go.Proofs.YtejofgdglpmlkaaGreatDoor
open Go.RowKit

theorem get_not {s : ByteArray} {c : UInt8} {k : Nat} (h : k < s.size) (h1 : ∀ x ∈ s.data.toList.take k, x ≠ c) (h2 : s[k]'h ≠ c) : ∀ x ∈ s.data.toList.take (k + 1), x ≠ c := by
  intro x hx
  rw [drop_take1 h] at hx
  rcases List.mem_append.1 hx with hx | hx
  · exact h1 x hx
  · rw [List.mem_singleton] at hx
    rw [hx]; exact h2
theorem get_mem {s : ByteArray} {k : Nat} (h : k < s.size) : s[k]'h ∈ s.data.toList := by
  have := drop_cons h
  exact List.mem_of_mem_drop (i := k) (by rw [this]; exact List.mem_cons_self ..)
set_option maxHeartbeats 1000000 in
theorem refIndex_calls (s : ByteArray) (c : UInt8) (w : World) (hs : s.size ≤ 1099511627775) (ci : Int) (hci : ci = c.toNat) :
    Calls Tryz.prog 56 #[.string s, .int .u8 ci] w fun e w' => ∃ k : Int, e = .returned (.int .i64 k) ∧ (0 ≤ k ↔ c ∈ s.data.toList) ∧ w = w' := by
  go_enter Tryz.func56, Tryz.ntmps56
  go_wp2
  go_loop [5] (fun iv => ∃ i : Nat, i ≤ s.size ∧ iv = .int .i64 i ∧ ∀ x ∈ s.data.toList.take i, x ≠ c) (fun iv => s.size - (intOf iv).toNat)
  case atStart => exact ⟨0, Nat.zero_le _, rfl, by simp⟩
  case round =>
    obtain ⟨i, hi, rfl, h3⟩ := hrel
    have k3 := Lib.hid h3
    clear h3
    by_cases hlt : i < s.size
    · by_cases h47 : s[i]'hlt = c
      · have e47 : ((((s[i]'hlt).toNat : Nat) : Int) == ci) = true := by rw [h47, hci]; simp
        have kk := Lib.hid (show c ∈ s.data.toList by rw [← h47]; exact get_mem hlt)
        clear h47
        go_wp2
        go_ret
        exact ⟨(i : Int), rfl, ⟨fun _ => by simpa using kk.out, fun _ => by omega⟩, rfl⟩
      · have e47 : ((((s[i]'hlt).toNat : Nat) : Int) == ci) = false := by
          rw [beq_eq_false_iff_ne, hci]; intro e; exact h47 (UInt8.toNat_inj.1 (by omega))
        have kk := Lib.hid (get_not hlt k3.out h47)
        clear h47
        go_wp2
        go_round
        case rel => exact ⟨i + 1, by omega, by go_num, kk.out⟩
        case measure => simp [intOf]; omega
    · have hie : i = s.size := by omega
      have kk := Lib.hid (show c ∉ s.data.toList by
        intro hm
        have := k3.out
        rw [List.take_of_length_le (by rw [← Go.Lib.size_eq]; omega)] at this
        exact this c hm rfl)
      go_wp2
      go_ret
      exact ⟨-1, rfl, ⟨fun h => by omega, fun h => absurd (by simpa using h) kk.out⟩, rfl⟩

theorem below_row {B : Nat} {w wr w1 : World} {o : Obj} {row : Option Nat} (h : Below B w wr) (hB : B ≤ wr.heap.size) (hg : (wr.alloc o).grownBy w1 row) (hr : ∀ g, row = some g → B ≤ g) : Below B w w1 := by
  have hz := hg.size
  refine h.trans ⟨hg.os, hg.tape, hg.output, ?_, fun j hj => ?_⟩
  · simp at hz; omega
  · exact (hg.block j (by simp; omega) (fun e => by have := hr j e.symm; omega)).trans (heap_alloc_old _ _ (by omega))
/-- The reference's names, on their way. -/
def RNames (p : ByteArray) (fr i : Nat) (l : List Bs) : Prop := rrun (p.data.toList.drop i) ((p.data.toList.drop fr).take (i - fr)) l = rnames p.data.toList
theorem RNames.start (p : ByteArray) : RNames p 0 0 [] := by unfold RNames; simp [rnames]
theorem cur_nil {p : ByteArray} {fr i : Nat} (h : fr ≤ i) (hi : i ≤ p.size) : ((p.data.toList.drop fr).take (i - fr) = []) ↔ i = fr := by
  have hl : p.data.toList.length = p.size := (Go.Lib.size_eq p).symm
  constructor
  · intro e
    have := congrArg List.length e
    simp only [List.length_take, List.length_drop, List.length_nil, hl] at this
    omega
  · rintro rfl
    rw [Nat.sub_self, List.take_zero]
theorem RNames.next {p : ByteArray} {fr i : Nat} {l : List Bs} (h : RNames p fr i l) (h1 : fr ≤ i) (hi : i < p.size) (hc : p[i]'hi ≠ 47) : RNames p fr (i + 1) l := by
  unfold RNames at *
  rw [← h, drop_cons hi, rrun, if_neg hc]
  congr 1
  have hl : p.data.toList.length = p.size := (Go.Lib.size_eq p).symm
  rw [show i + 1 - fr = (i - fr) + 1 by omega, List.take_add_one, List.getElem?_drop, show fr + (i - fr) = i by omega, List.getElem?_eq_getElem (by omega)]
  rfl
theorem RNames.cut {p : ByteArray} {fr i : Nat} {l : List Bs} (h : RNames p fr i l) (hi : i < p.size) (hc : p[i]'hi = 47) : RNames p (i + 1) (i + 1) (more l ((p.data.toList.drop fr).take (i - fr))) := by
  unfold RNames at *
  rw [← h, drop_cons hi, rrun, if_pos hc, Nat.sub_self, List.take_zero]
theorem more_nil (l : List Bs) : more l [] = l := by unfold more; rw [if_pos rfl]
theorem RNames.stop {p : ByteArray} {fr : Nat} {l : List Bs} (h : RNames p fr p.size l) : RNames p (p.size + 1) (p.size + 1) (more l ((p.data.toList.drop fr).take (p.size - fr))) := by
  unfold RNames at *
  have hl : p.data.toList.length = p.size := (Go.Lib.size_eq p).symm
  have e1 : p.data.toList.drop p.size = [] := List.drop_eq_nil_of_le (by omega)
  have e2 : p.data.toList.drop (p.size + 1) = [] := List.drop_eq_nil_of_le (by omega)
  rw [← h, e1, e2, rrun, Nat.sub_self, List.take_zero, rrun, more_nil]
theorem RNames.done {p : ByteArray} {fr i : Nat} {l : List Bs} (h : RNames p fr i l) (hi : p.size < i) (hfr : p.size < fr) : l = rnames p.data.toList := by
  unfold RNames at *
  have hl : p.data.toList.length = p.size := (Go.Lib.size_eq p).symm
  rw [← h, List.drop_eq_nil_of_le (by omega), List.drop_eq_nil_of_le (by omega), List.take_nil, rrun, more_nil]
theorem more_len (l : List Bs) (c : Bs) : (more l c).length ≤ l.length + 1 := by unfold more; split <;> simp
theorem more_ne {l : List Bs} {c : Bs} (h : c ≠ []) : more l c = l ++ [c] := by unfold more; rw [if_neg h]
set_option maxRecDepth 100000 in
set_option maxHeartbeats 1000000 in
theorem refNames_calls (p : ByteArray) (w : World) (hp : p.size ≤ 1099511627775) :
    Calls Tryz.prog 55 #[.string p] w fun e w' => ∃ v, e = .returned v ∧ LooseS w' w.heap.size v (rnames p.data.toList) ∧ Below w.heap.size w w' := by
  go_enter Tryz.func55, Tryz.ntmps55
  go_wp2
  go_loopw [3, 4, 5] (fun ov fv iv wr => ∃ (fr i : Nat) (l : List Bs), fv = .int .i64 fr ∧ iv = .int .i64 i ∧ fr ≤ i ∧ i ≤ p.size + 1 ∧ l.length ≤ fr ∧ (i ≤ p.size → fr ≤ p.size) ∧ (p.size < i → p.size < fr) ∧ RNames p fr i l ∧ LooseS wr w.heap.size ov l ∧ Below w.heap.size w wr) (fun _ _ iv _ => p.size + 1 - (intOf iv).toNat)
  case atStart => exact ⟨0, 0, [], rfl, rfl, Nat.le_refl _, Nat.zero_le _, Nat.le_refl _, fun _ => Nat.zero_le _, fun h => absurd h (Nat.not_lt_zero _), RNames.start p, LooseS.nil _ _, Below.refl _ _⟩
  case round =>
    obtain ⟨fr, i, l, rfl, rfl, h1, h2, h3, h4, h5, hR, hL, hB⟩ := hrel
    obtain ⟨oa, oc, hov⟩ := hL.form
    subst hov
    have kR := Lib.hid hR
    have kL := Lib.hid hL
    have kB := Lib.hid hB
    clear hR hL hB
    have hwB := kB.out.size
    by_cases hlt : i ≤ p.size
    · by_cases hend : i < p.size ∧ ∀ h : i < p.size, p[i]'h ≠ 47
      · obtain ⟨hi, h47'⟩ := hend
        have h47 := h47' hi
        have e47 : ((((p[i]'hi).toNat : Nat) : Int) == 47) = false := by
          rw [beq_eq_false_iff_ne]; intro e; exact h47 (byte_eq (n := 47) e (by omega))
        have ei : ((i : Int) == (p.size : Int)) = false := by rw [beq_eq_false_iff_ne]; omega
        have kn := Lib.hid (kR.out.next h1 hi h47)
        clear h47 h47'
        go_wp2
        go_roundw
        case rel => exact ⟨fr, i + 1, l, rfl, by go_num, by omega, by omega, h3, fun _ => by omega, fun _ => by omega, kn.out, kL.out, kB.out⟩
        case measure => simp [intOf]; omega
      · have kn := Lib.hid (show RNames p (i + 1) (i + 1) (more l ((p.data.toList.drop fr).take (i - fr))) by
          by_cases hi : i < p.size
          · exact kR.out.cut hi (Classical.byContradiction fun h => hend ⟨hi, fun _ => h⟩)
          · have : i = p.size := by omega
            subst this
            exact kR.out.stop)
        have hcn := cur_nil h1 hlt
        have hml := more_len l ((p.data.toList.drop fr).take (i - fr))
        have hstop : i = p.size ∨ ∃ hi : i < p.size, ((((p[i]'hi).toNat : Nat) : Int) == 47) = true := by
          by_cases hi : i < p.size
          · refine Or.inr ⟨hi, ?_⟩
            have : p[i]'hi = 47 := Classical.byContradiction fun h => hend ⟨hi, fun _ => h⟩
            rw [this]; rfl
          · exact Or.inl (by omega)
        clear hend
        have hex := Go.Lib.extract_data p fr i
        by_cases hgt : fr < i
        · have km := Lib.hid (more_ne (l := l) (fun e => by have := hcn.1 e; omega : (p.data.toList.drop fr).take (i - fr) ≠ []))
          have hn2 : l.length ≤ 1099511627776 := by omega
          have kh := Lib.hid hex
          have hz0 : (0 : Int) ≤ (fr : Int) := by omega
          have hz1 : (fr : Int) ≤ (i : Int) := by omega
          have hz2 : (i : Int) ≤ (p.size : Int) := by omega
          clear hcn hml hex
          generalize hS : p.extract fr i = S at *
          have kS := Lib.hid hS
          clear hS
          have kc := Lib.hid (one_new wr (.string S) 9)
          have kw := Lib.hid (kL.out.grown (World.grownBy_alloc wr (.cells #[.string S] 9) none) (none_lt w.heap.size))
          have ka := Lib.hid (add_zero' wr.heap.size)
          have kz : w.heap.size ≤ (wr.alloc (.cells #[.string S] 9)).heap.size := by simp; omega
          rcases hstop with rfl | ⟨hi, e47⟩
          · go_wp2_with (first | (rw [kS.out]) | (at_builtin; refine wpList_append_loose _ rfl _ _ rfl w.heap.size (.slice oa l.length oc) rfl l kw.out ⟨wr.heap.size, 0, none⟩ 1 S rfl kc.out ka.out hn2 kz ?_; intro g cap w1 hL1 hgr hat; have kL1 := Lib.hid hL1; have kg1 := Lib.hid hgr; clear hat hL1 hgr))
            go_roundw
            case rel => exact ⟨p.size + 1, p.size + 1, l ++ [S.data.toList], by go_num, by go_num, by omega, by omega, by simp; omega, fun _ => by omega, fun _ => by omega, by have := kn.out; rw [km.out] at this; rw [kh.out]; exact this, kL1.out, below_row kB.out kB.out.size kg1.out (fun g e => (kL.out.lt g e).1)⟩
            case measure => simp [intOf]
          · have ei : ((i : Int) == (p.size : Int)) = false := by rw [beq_eq_false_iff_ne]; omega
            go_wp2_with (first | (rw [kS.out]) | (at_builtin; refine wpList_append_loose _ rfl _ _ rfl w.heap.size (.slice oa l.length oc) rfl l kw.out ⟨wr.heap.size, 0, none⟩ 1 S rfl kc.out ka.out hn2 kz ?_; intro g cap w1 hL1 hgr hat; have kL1 := Lib.hid hL1; have kg1 := Lib.hid hgr; clear hat hL1 hgr))
            go_roundw
            case rel => exact ⟨i + 1, i + 1, l ++ [S.data.toList], by go_num, by go_num, by omega, by omega, by simp; omega, fun _ => by omega, fun _ => by omega, by have := kn.out; rw [km.out] at this; rw [kh.out]; exact this, kL1.out, below_row kB.out kB.out.size kg1.out (fun g e => (kL.out.lt g e).1)⟩
            case measure => simp [intOf]; omega
        · have hfe : i = fr := by omega
          have km := Lib.hid (show more l ((p.data.toList.drop fr).take (i - fr)) = l by rw [hcn.2 hfe, more_nil])
          subst hfe
          clear hcn hml hex
          rcases hstop with rfl | ⟨hi, e47⟩
          · go_wp2
            go_roundw
            case rel => exact ⟨p.size + 1, p.size + 1, l, by go_num, by go_num, by omega, by omega, by omega, fun _ => by omega, fun _ => by omega, by have := kn.out; rw [km.out] at this; exact this, kL.out, kB.out⟩
            case measure => simp [intOf]
          · have ei : ((i : Int) == (p.size : Int)) = false := by rw [beq_eq_false_iff_ne]; omega
            go_wp2
            go_roundw
            case rel => exact ⟨i + 1, i + 1, l, by go_num, by go_num, by omega, by omega, by omega, fun _ => by omega, fun _ => by omega, by have := kn.out; rw [km.out] at this; exact this, kL.out, kB.out⟩
            case measure => simp [intOf]; omega
    · have kd := Lib.hid (kR.out.done (by omega) (h5 (by omega)))
      have hf : p.size < i := by omega
      go_wp2
      go_ret
      exact ⟨_, rfl, kd.out ▸ kL.out, kB.out⟩
end Go.Proofs.YtejofgdglpmlkaaGreatDoor
