/-
  The reference's Index, Names, slashed, Clean, Valid, Parent: walks. Conditions: texts of at most 2^31 bytes.
  The reference's slashed, Clean, Parent: walks. Conditions: texts of at most 2^40 bytes.
-/
import Derived.Test.YtejofgdglpmlkaaGreatDoorM12
import Derived.Test.YtejofgdglpmlkaaGreatDoorM04
namespace Go.Proofs.YtejofgdglpmlkaaGreatDoor
open Go.RowKit

theorem get_not {s : ByteArray} {c : UInt8} {k : Nat} (h : k < s.size) (h1 : ∀ x ∈ s.data.toList.take k, x ≠ c) (h2 : s[k]'h ≠ c) : ∀ x ∈ s.data.toList.take (k + 1), x ≠ c := by
  intro x hx
  rw [drop_take1 h] at hx
  rcases List.mem_append.1 hx with hx | hx
  · exact h1 x hx
  · rw [List.mem_singleton] at hx
    rw [hx]; exact h2
theorem get_mem {s : ByteArray} {k : Nat} (h : k < s.size) : s[k]'h ∈ s.data.toList := by
  have := drop_cons h
  exact List.mem_of_mem_drop (i := k) (by rw [this]; exact List.mem_cons_self ..)
set_option maxHeartbeats 1000000 in
theorem refIndex_calls (s : ByteArray) (c : UInt8) (w : World) (hs : s.size ≤ 1099511627775) (ci : Int) (hci : ci = c.toNat) :
    Calls Tryz.prog 56 #[.string s, .int .u8 ci] w fun e w' => ∃ k : Int, e = .returned (.int .i64 k) ∧ (0 ≤ k ↔ c ∈ s.data.toList) ∧ w = w' := by
  go_enter Tryz.func56, Tryz.ntmps56
  go_wp2
  go_loop [5] (fun iv => ∃ i : Nat, i ≤ s.size ∧ iv = .int .i64 i ∧ ∀ x ∈ s.data.toList.take i, x ≠ c) (fun iv => s.size - (intOf iv).toNat)
  case atStart => exact ⟨0, Nat.zero_le _, rfl, by simp⟩
  case round =>
    obtain ⟨i, hi, rfl, h3⟩ := hrel
    have k3 := Lib.hid h3
    clear h3
    by_cases hlt : i < s.size
    · by_cases h47 : s[i]'hlt = c
      · have e47 : ((((s[i]'hlt).toNat : Nat) : Int) == ci) = true := by rw [h47, hci]; simp
        have kk := Lib.hid (show c ∈ s.data.toList by rw [← h47]; exact get_mem hlt)
        clear h47
        go_wp2
        go_ret
        exact ⟨(i : Int), rfl, ⟨fun _ => by simpa using kk.out, fun _ => by omega⟩, rfl⟩
      · have e47 : ((((s[i]'hlt).toNat : Nat) : Int) == ci) = false := by
          rw [beq_eq_false_iff_ne, hci]; intro e; exact h47 (UInt8.toNat_inj.1 (by omega))
        have kk := Lib.hid (get_not hlt k3.out h47)
        clear h47
        go_wp2
        go_round
        case rel => exact ⟨i + 1, by omega, by go_num, kk.out⟩
        case measure => simp [intOf]; omega
    · have hie : i = s.size := by omega
      have kk := Lib.hid (show c ∉ s.data.toList by
        intro hm
        have := k3.out
        rw [List.take_of_length_le (by rw [← Go.Lib.size_eq]; omega)] at this
        exact this c hm rfl)
      go_wp2
      go_ret
      exact ⟨-1, rfl, ⟨fun h => by omega, fun h => absurd (by simpa using h) kk.out⟩, rfl⟩

theorem below_row {B : Nat} {w wr w1 : World} {o : Obj} {row : Option Nat} (h : Below B w wr) (hB : B ≤ wr.heap.size) (hg : (wr.alloc o).grownBy w1 row) (hr : ∀ g, row = some g → B ≤ g) : Below B w w1 := by
  have hz := hg.size
  refine h.trans ⟨hg.os, hg.tape, hg.output, ?_, fun j hj => ?_⟩
  · simp at hz; omega
  · exact (hg.block j (by simp; omega) (fun e => by have := hr j e.symm; omega)).trans (heap_alloc_old _ _ (by omega))
/-- The reference's names, on their way. -/
def RNames (p : ByteArray) (fr i : Nat) (l : List Bs) : Prop := rrun (p.data.toList.drop i) ((p.data.toList.drop fr).take (i - fr)) l = rnames p.data.toList
theorem RNames.start (p : ByteArray) : RNames p 0 0 [] := by unfold RNames; simp [rnames]
theorem cur_nil {p : ByteArray} {fr i : Nat} (h : fr ≤ i) (hi : i ≤ p.size) : ((p.data.toList.drop fr).take (i - fr) = []) ↔ i = fr := by
  have hl : p.data.toList.length = p.size := (Go.Lib.size_eq p).symm
  constructor
  · intro e
    have := congrArg List.length e
    simp only [List.length_take, List.length_drop, List.length_nil, hl] at this
    omega
  · rintro rfl
    rw [Nat.sub_self, List.take_zero]
theorem RNames.next {p : ByteArray} {fr i : Nat} {l : List Bs} (h : RNames p fr i l) (h1 : fr ≤ i) (hi : i < p.size) (hc : p[i]'hi ≠ 47) : RNames p fr (i + 1) l := by
  unfold RNames at *
  rw [← h, drop_cons hi, rrun, if_neg hc]
  congr 1
  have hl : p.data.toList.length = p.size := (Go.Lib.size_eq p).symm
  rw [show i + 1 - fr = (i - fr) + 1 by omega, List.take_add_one, List.getElem?_drop, show fr + (i - fr) = i by omega, List.getElem?_eq_getElem (by omega)]
  rfl
theorem RNames.cut {p : ByteArray} {fr i : Nat} {l : List Bs} (h : RNames p fr i l) (hi : i < p.size) (hc : p[i]'hi = 47) : RNames p (i + 1) (i + 1) (more l ((p.data.toList.drop fr).take (i - fr))) := by
  unfold RNames at *
  rw [← h, drop_cons hi, rrun, if_pos hc, Nat.sub_self, List.take_zero]
theorem more_nil (l : List Bs) : more l [] = l := by unfold more; rw [if_pos rfl]
theorem RNames.stop {p : ByteArray} {fr : Nat} {l : List Bs} (h : RNames p fr p.size l) : RNames p (p.size + 1) (p.size + 1) (more l ((p.data.toList.drop fr).take (p.size - fr))) := by
  unfold RNames at *
  have hl : p.data.toList.length = p.size := (Go.Lib.size_eq p).symm
  have e1 : p.data.toList.drop p.size = [] := List.drop_eq_nil_of_le (by omega)
  have e2 : p.data.toList.drop (p.size + 1) = [] := List.drop_eq_nil_of_le (by omega)
  rw [← h, e1, e2, rrun, Nat.sub_self, List.take_zero, rrun, more_nil]
theorem RNames.done {p : ByteArray} {fr i : Nat} {l : List Bs} (h : RNames p fr i l) (hi : p.size < i) (hfr : p.size < fr) : l = rnames p.data.toList := by
  unfold RNames at *
  have hl : p.data.toList.length = p.size := (Go.Lib.size_eq p).symm
  rw [← h, List.drop_eq_nil_of_le (by omega), List.drop_eq_nil_of_le (by omega), List.take_nil, rrun, more_nil]
theorem more_len (l : List Bs) (c : Bs) : (more l c).length ≤ l.length + 1 := by unfold more; split <;> simp
theorem more_ne {l : List Bs} {c : Bs} (h : c ≠ []) : more l c = l ++ [c] := by unfold more; rw [if_neg h]
set_option maxRecDepth 100000 in
set_option maxHeartbeats 1000000 in
theorem refNames_calls (p : ByteArray) (w : World) (hp : p.size ≤ 1099511627775) :
    Calls Tryz.prog 55 #[.string p] w fun e w' => ∃ v, e = .returned v ∧ LooseS w' w.heap.size v (rnames p.data.toList) ∧ Below w.heap.size w w' := by
  go_enter Tryz.func55, Tryz.ntmps55
  go_wp2
  go_loopw [3, 4, 5] (fun ov fv iv wr => ∃ (fr i : Nat) (l : List Bs), fv = .int .i64 fr ∧ iv = .int .i64 i ∧ fr ≤ i ∧ i ≤ p.size + 1 ∧ l.length ≤ fr ∧ (i ≤ p.size → fr ≤ p.size) ∧ (p.size < i → p.size < fr) ∧ RNames p fr i l ∧ LooseS wr w.heap.size ov l ∧ Below w.heap.size w wr) (fun _ _ iv _ => p.size + 1 - (intOf iv).toNat)
  case atStart => exact ⟨0, 0, [], rfl, rfl, Nat.le_refl _, Nat.zero_le _, Nat.le_refl _, fun _ => Nat.zero_le _, fun h => absurd h (Nat.not_lt_zero _), RNames.start p, LooseS.nil _ _, Below.refl _ _⟩
  case round =>
    obtain ⟨fr, i, l, rfl, rfl, h1, h2, h3, h4, h5, hR, hL, hB⟩ := hrel
    obtain ⟨oa, oc, hov⟩ := hL.form
    subst hov
    have kR := Lib.hid hR
    have kL := Lib.hid hL
    have kB := Lib.hid hB
    clear hR hL hB
    have hwB := kB.out.size
    by_cases hlt : i ≤ p.size
    · by_cases hend : i < p.size ∧ ∀ h : i < p.size, p[i]'h ≠ 47
      · obtain ⟨hi, h47'⟩ := hend
        have h47 := h47' hi
        have e47 : ((((p[i]'hi).toNat : Nat) : Int) == 47) = false := by
          rw [beq_eq_false_iff_ne]; intro e; exact h47 (byte_eq (n := 47) e (by omega))
        have ei : ((i : Int) == (p.size : Int)) = false := by rw [beq_eq_false_iff_ne]; omega
        have kn := Lib.hid (kR.out.next h1 hi h47)
        clear h47 h47'
        go_wp2
        go_roundw
        case rel => exact ⟨fr, i + 1, l, rfl, by go_num, by omega, by omega, h3, fun _ => by omega, fun _ => by omega, kn.out, kL.out, kB.out⟩
        case measure => simp [intOf]; omega
      · have kn := Lib.hid (show RNames p (i + 1) (i + 1) (more l ((p.data.toList.drop fr).take (i - fr))) by
          by_cases hi : i < p.size
          · exact kR.out.cut hi (Classical.byContradiction fun h => hend ⟨hi, fun _ => h⟩)
          · have : i = p.size := by omega
            subst this
            exact kR.out.stop)
        have hcn := cur_nil h1 hlt
        have hml := more_len l ((p.data.toList.drop fr).take (i - fr))
        have hstop : i = p.size ∨ ∃ hi : i < p.size, ((((p[i]'hi).toNat : Nat) : Int) == 47) = true := by
          by_cases hi : i < p.size
          · refine Or.inr ⟨hi, ?_⟩
            have : p[i]'hi = 47 := Classical.byContradiction fun h => hend ⟨hi, fun _ => h⟩
            rw [this]; rfl
          · exact Or.inl (by omega)
        clear hend
        have hex := Go.Lib.extract_data p fr i
        by_cases hgt : fr < i
        · have km := Lib.hid (more_ne (l := l) (fun e => by have := hcn.1 e; omega : (p.data.toList.drop fr).take (i - fr) ≠ []))
          have hn2 : l.length ≤ 1099511627776 := by omega
          have kh := Lib.hid hex
          have hz0 : (0 : Int) ≤ (fr : Int) := by omega
          have hz1 : (fr : Int) ≤ (i : Int) := by omega
          have hz2 : (i : Int) ≤ (p.size : Int) := by omega
          clear hcn hml hex
          generalize hS : p.extract fr i = S at *
          have kS := Lib.hid hS
          clear hS
          have kc := Lib.hid (one_new wr (.string S) 9)
          have kw := Lib.hid (kL.out.grown (World.grownBy_alloc wr (.cells #[.string S] 9) none) (none_lt w.heap.size))
          have ka := Lib.hid (add_zero' wr.heap.size)
          have kz : w.heap.size ≤ (wr.alloc (.cells #[.string S] 9)).heap.size := by simp; omega
          rcases hstop with rfl | ⟨hi, e47⟩
          · go_wp2_with (first | (rw [kS.out]) | (at_builtin; refine wpList_append_loose _ rfl _ _ rfl w.heap.size (.slice oa l.length oc) rfl l kw.out ⟨wr.heap.size, 0, none⟩ 1 S rfl kc.out ka.out hn2 kz ?_; intro g cap w1 hL1 hgr hat; have kL1 := Lib.hid hL1; have kg1 := Lib.hid hgr; clear hat hL1 hgr))
            go_roundw
            case rel => exact ⟨p.size + 1, p.size + 1, l ++ [S.data.toList], by go_num, by go_num, by omega, by omega, by simp; omega, fun _ => by omega, fun _ => by omega, by have := kn.out; rw [km.out] at this; rw [kh.out]; exact this, kL1.out, below_row kB.out kB.out.size kg1.out (fun g e => (kL.out.lt g e).1)⟩
            case measure => simp [intOf]
          · have ei : ((i : Int) == (p.size : Int)) = false := by rw [beq_eq_false_iff_ne]; omega
            go_wp2_with (first | (rw [kS.out]) | (at_builtin; refine wpList_append_loose _ rfl _ _ rfl w.heap.size (.slice oa l.length oc) rfl l kw.out ⟨wr.heap.size, 0, none⟩ 1 S rfl kc.out ka.out hn2 kz ?_; intro g cap w1 hL1 hgr hat; have kL1 := Lib.hid hL1; have kg1 := Lib.hid hgr; clear hat hL1 hgr))
            go_roundw
            case rel => exact ⟨i + 1, i + 1, l ++ [S.data.toList], by go_num, by go_num, by omega, by omega, by simp; omega, fun _ => by omega, fun _ => by omega, by have := kn.out; rw [km.out] at this; rw [kh.out]; exact this, kL1.out, below_row kB.out kB.out.size kg1.out (fun g e => (kL.out.lt g e).1)⟩
            case measure => simp [intOf]; omega
        · have hfe : i = fr := by omega
          have km := Lib.hid (show more l ((p.data.toList.drop fr).take (i - fr)) = l by rw [hcn.2 hfe, more_nil])
          subst hfe
          clear hcn hml hex
          rcases hstop with rfl | ⟨hi, e47⟩
          · go_wp2
            go_roundw
            case rel => exact ⟨p.size + 1, p.size + 1, l, by go_num, by go_num, by omega, by omega, by omega, fun _ => by omega, fun _ => by omega, by have := kn.out; rw [km.out] at this; exact this, kL.out, kB.out⟩
            case measure => simp [intOf]
          · have ei : ((i : Int) == (p.size : Int)) = false := by rw [beq_eq_false_iff_ne]; omega
            go_wp2
            go_roundw
            case rel => exact ⟨i + 1, i + 1, l, by go_num, by go_num, by omega, by omega, by omega, fun _ => by omega, fun _ => by omega, by have := kn.out; rw [km.out] at this; exact this, kL.out, kB.out⟩
            case measure => simp [intOf]; omega
    · have kd := Lib.hid (kR.out.done (by omega) (h5 (by omega)))
      have hf : p.size < i := by omega
      go_wp2
      go_ret
      exact ⟨_, rfl, kd.out ▸ kL.out, kB.out⟩
end Go.Proofs.YtejofgdglpmlkaaGreatDoor
namespace Go.Proofs.YtejofgdglpmlkaaGreatDoor
open Go.RowKit

theorem LooseS.less {w : World} {B n cap : Nat} {a : Option Addr} {l : List Bs} (h : LooseS w B (.slice a n cap) l) : LooseS w B (.slice a (n - 1) cap) l.dropLast := by
  rcases h with ⟨e, rfl⟩ | ⟨g', cap', cur, e, hb, hg, hn, hm, hc, ht⟩
  · injection e with e1 e2 e3
    subst e1 e2 e3
    exact Or.inl ⟨rfl, rfl⟩
  · injection e with e1 e2 e3
    subst e1 e2 e3
    refine Or.inr ⟨g', cap, cur, by simp, hb, hg, by simp; omega, hm, hc, ?_⟩
    rw [List.length_dropLast]
    have : (cur.toList.take l.length).take (l.length - 1) = (bcells l).take (l.length - 1) := by rw [ht]
    rw [List.take_take, Nat.min_eq_left (by omega)] at this
    rw [this, List.dropLast_eq_take]
    simp [bcells, List.map_take]
theorem LooseS.cap {w : World} {B n cap : Nat} {a : Option Addr} {l : List Bs} (h : LooseS w B (.slice a n cap) l) (h0 : l ≠ []) : (n : Int) - 1 ≤ (cap : Int) ∧ (cap : Int) ≤ 9223372036854775807 := by
  rcases h with ⟨e, e'⟩ | ⟨g', cap', cur, e, _, _, hn, hm, _⟩
  · exact absurd e' h0
  · injection e with e1 e2 e3
    subst e2 e3
    unfold maxLen at hm
    omega
theorem mk_slash : mk [47] = ⟨#[47]⟩ := rfl
theorem mk_app (a b : Bs) : mk a ++ mk b = mk (a ++ b) := ba_ext (by rw [ba_append, mk_list, mk_list, mk_list])
theorem joinS_take {l : List Bs} {k : Nat} {x : Bs} (h : l[k]? = some x) : joinS (l.take (k + 1)) = if k = 0 then x else joinS (l.take k) ++ 47 :: x := by
  rw [take_more h]
  split
  · subst k; rw [List.take_zero, List.nil_append, joinS_one]
  · have hk := (List.getElem?_eq_some_iff.1 h).1
    rw [joinS_snoc]
    intro e
    have := congrArg List.length e
    simp only [List.length_take, List.length_nil] at this
    omega
theorem tot_take (l : List Bs) (k : Nat) : tot (l.take k) ≤ tot l := by
  have := tot_append (l.take k) (l.drop k)
  rw [List.take_append_drop] at this
  omega
set_option maxRecDepth 100000 in
set_option maxHeartbeats 1000000 in
theorem refslashed_calls (B : Nat) (v : Value) (l : List Bs) (w : World) (h : LooseS w B v l) (hl : tot l ≤ 17592186044416) :
    Calls Tryz.prog 57 #[v] w fun e w' => e = .returned (.string (mk (joinS l))) ∧ w = w' := by
  obtain ⟨oa, oc, hov⟩ := h.form
  subst hov
  have hll := tot_len l
  have kh := Lib.hid h
  clear h
  go_enter Tryz.func57, Tryz.ntmps57
  go_wp2
  go_loop [3, 4] (fun sv iv => ∃ k : Nat, k ≤ l.length ∧ iv = .int .i64 k ∧ sv = .string (mk (joinS (l.take k)))) (fun _ iv => l.length - (intOf iv).toNat)
  case atStart => exact ⟨0, Nat.zero_le _, rfl, rfl⟩
  case round =>
    obtain ⟨k, hk, rfl, rfl⟩ := hrel
    by_cases hlt : k < l.length
    · obtain ⟨x, hx⟩ : ∃ x, l[k]? = some x := ⟨_, List.getElem?_eq_getElem hlt⟩
      obtain ⟨g, cap', e, hbg, hg, hcell⟩ := kh.out.cells hx
      injection e with e1 e2 e3
      subst e1 e3
      have kj := Lib.hid (joinS_take hx)
      have hs1 : (mk (joinS (l.take k))).size ≤ 17592186044416 := by rw [mk_size]; have := joinS_len (l.take k); have := tot_take l k; omega
      have hs2 : (mk x).size ≤ 17592186044416 := by rw [mk_size]; have := tot_mem (List.mem_of_getElem? hx); omega
      have kx := Lib.hid hx
      clear hx
      by_cases h0 : k = 0
      · have hk1 : ¬ (0 : Int) < (k : Int) := by omega
        have k0 := Lib.hid h0
        clear h0
        go_wp2
        go_round
        case rel => exact ⟨k + 1, by omega, by go_num, by rw [kj.out, if_pos k0.out, mk_app, k0.out]; simp [joinS_nil]⟩
        case measure => simp [intOf]; omega
      · have hk1 : (0 : Int) < (k : Int) := by omega
        go_wp2
        go_round
        case rel => exact ⟨k + 1, by omega, by go_num, by rw [kj.out, if_neg h0, ← mk_slash, mk_app, mk_app]; simp⟩
        case measure => simp [intOf]; omega
    · have hkl : k = l.length := by omega
      subst hkl
      rw [List.take_length]
      go_wp2
      go_ret
      exact ⟨rfl, rfl⟩
theorem rstep_tot (l : List Bs) (n : Bs) : tot (rstep l n) ≤ tot l + n.length + 1 := by
  unfold rstep
  split
  · omega
  · split
    · have := tot_dropLast l; omega
    · rw [tot_append]; simp [tot]; omega
theorem rfold_tot : ∀ (r acc : List Bs), tot (r.foldl rstep acc) ≤ tot acc + tot r
  | [], acc => by simp [tot]
  | x :: r, acc => by
    have h1 := rfold_tot r (rstep acc x)
    have h2 := rstep_tot acc x
    rw [List.foldl_cons]
    have : tot (x :: r) = x.length + 1 + tot r := by simp [tot]
    omega
theorem rfold_take {L : List Bs} {k : Nat} {x : Bs} (h : L[k]? = some x) : (L.take (k + 1)).foldl rstep [] = rstep ((L.take k).foldl rstep []) x := by
  rw [take_more h, List.foldl_append]; rfl
theorem mk_ne {a b : Bs} (h : a ≠ b) : ((mk a).toList == (mk b).toList) = false := ba_ne (fun e => h (mk_inj e))
set_option maxRecDepth 100000 in
set_option maxHeartbeats 1000000 in
theorem refClean_calls (p : ByteArray) (w : World) (hp : p.size ≤ 1099511627775) :
    Calls Tryz.prog 54 #[.string p] w fun e w' => e = .returned (.string (mk (clean p.data.toList))) ∧ Below w.heap.size w w' := by
  have hN := Lib.hid (refNames_calls p w hp)
  go_enter Tryz.func54, Tryz.ntmps54
  go_wp2_with (go_at_call 55; refine (hN.out).mono ?_; rintro e w1 ⟨v, rfl, hl, hb⟩; obtain ⟨na, nc, hnv⟩ := hl.form; subst hnv; have kl := Lib.hid hl; have kb := Lib.hid hb; clear hl hb)
  have kcl := Lib.hid (rclean_eq p.data.toList)
  have htot := rnames_tot p.data.toList
  rw [← Go.Lib.size_eq] at htot
  generalize rnames p.data.toList = L at *
  have hLl := tot_len L
  clear hN
  go_loopw [4, 5] (fun ov iv wr => ∃ i : Nat, i ≤ L.length ∧ iv = .int .i64 i ∧ LooseS wr w1.heap.size ov ((L.take i).foldl rstep []) ∧ Below w1.heap.size w1 wr) (fun _ iv _ => L.length - (intOf iv).toNat)
  case atStart => exact ⟨0, Nat.zero_le _, rfl, LooseS.nil _ _, Below.refl _ _⟩
  case round =>
    obtain ⟨i, hi, rfl, hL, hB⟩ := hrel
    have hft := rfold_tot (L.take i) []
    have htt := tot_take L i
    have hfl := tot_len ((L.take i).foldl rstep [])
    have h0t : tot [] = 0 := rfl
    by_cases hlt : i < L.length
    · obtain ⟨x, hx⟩ : ∃ x, L[i]? = some x := ⟨_, List.getElem?_eq_getElem hlt⟩
      obtain ⟨g, cap', e, hbg, hg, hcell0⟩ := kl.out.cells hx
      injection e with e1 e2 e3
      subst e1 e3
      have hcell := (hB.cell (p := ⟨g, i, none⟩) hg).trans hcell0
      have kf := Lib.hid (rfold_take hx)
      have kx := Lib.hid hx
      have kB := Lib.hid hB
      have hwB := hB.size
      clear hx hcell0 hB
      generalize hacc : (L.take i).foldl rstep [] = acc at *
      clear hacc
      obtain ⟨oa, oc, hov⟩ := hL.form
      subst hov
      have kL := Lib.hid hL
      by_cases h1 : x = [46]
      · have kr := Lib.hid (show rstep acc x = acc by unfold rstep; rw [if_pos h1])
        rw [h1, show mk [46] = ⟨#[46]⟩ from rfl] at hcell
        clear h1 hL
        go_wp2
        go_roundw
        case rel => exact ⟨i + 1, by omega, by go_num, by rw [kf.out, kr.out]; exact kL.out, kB.out⟩
        case measure => simp [intOf]; omega
      · by_cases h2 : x = [46, 46]
        · have kr := Lib.hid (show rstep acc x = acc.dropLast by unfold rstep; rw [if_neg h1, if_pos h2])
          rw [h2, show mk [46, 46] = ⟨#[46, 46]⟩ from rfl] at hcell
          clear h1 h2
          by_cases h0 : 0 < acc.length
          · have hcap : acc.length ≤ oc ∧ oc ≤ maxLen := by
              rcases hL with ⟨e, e'⟩ | ⟨g', cap', cur, e, _, _, hn, hm, _⟩
              · rw [e'] at h0; simp at h0
              · injection e with e1 e2 e3; subst e3; exact ⟨hn, hm⟩
            obtain ⟨hcap1, hcap2⟩ := hcap
            unfold maxLen at hcap2
            have z1 : (1 : Int) ≤ (acc.length : Int) := by omega
            have z2 : (acc.length : Int) - 1 ≤ (oc : Int) := by omega
            have kq := Lib.hid (LooseS.less kL.out)
            clear hL
            go_wp2
            go_roundw
            case rel => exact ⟨i + 1, by omega, by go_num, by rw [kf.out, kr.out]; simpa using kq.out, kB.out⟩
            case measure => simp [intOf]; omega
          · have hz : acc = [] := List.length_eq_zero_iff.1 (by omega)
            subst hz
            clear hL
            go_wp2
            go_roundw
            case rel => exact ⟨i + 1, by omega, by go_num, by rw [kf.out, kr.out]; exact kL.out, kB.out⟩
            case measure => simp [intOf]; omega
        · have kr := Lib.hid (show rstep acc x = acc ++ [x] by unfold rstep; rw [if_neg h1, if_neg h2])
          have q1 : ((mk x).toList == [46]) = false := by rw [Go.Lib.toList_data, mk_list, beq_eq_false_iff_ne]; exact h1
          have q2 : ((mk x).toList == [46, 46]) = false := by rw [Go.Lib.toList_data, mk_list, beq_eq_false_iff_ne]; exact h2
          clear h1 h2 hL
          have hn2 : acc.length ≤ 1099511627776 := by omega
          have kml := Lib.hid (mk_list x)
          generalize hS : mk x = S at *
          clear hS
          have kc := Lib.hid (one_new wr (.string S) 9)
          have kw := Lib.hid (kL.out.grown (World.grownBy_alloc wr (.cells #[.string S] 9) none) (none_lt w1.heap.size))
          have ka := Lib.hid (add_zero' wr.heap.size)
          have kz : w1.heap.size ≤ (wr.alloc (.cells #[.string S] 9)).heap.size := by simp; omega
          go_wp2_with (at_builtin; refine wpList_append_loose _ rfl _ _ rfl w1.heap.size (.slice oa acc.length oc) rfl acc kw.out ⟨wr.heap.size, 0, none⟩ 1 S rfl kc.out ka.out hn2 kz ?_; intro g9 cap9 w9 hL9 hg9 hat; have kL9 := Lib.hid hL9; have kg9 := Lib.hid hg9; clear hat hL9 hg9)
          go_roundw
          case rel => exact ⟨i + 1, by omega, by go_num, by have := kL9.out; rw [kml.out] at this; rw [kf.out, kr.out]; simpa using this, below_row kB.out kB.out.size kg9.out (fun g e => (kL.out.lt g e).1)⟩
          case measure => simp [intOf]; omega
    · have hil : i = L.length := by omega
      subst hil
      rw [List.take_length] at hL hft hfl
      have kL := Lib.hid hL
      have kB := Lib.hid hB
      clear hL hB
      generalize hacc : L.foldl rstep [] = acc at *
      clear hacc
      have hsl := Lib.hid (fun v h => refslashed_calls w1.heap.size v acc wr h (by omega))
      go_wp2_with (go_at_call 57; refine (hsl.out _ kL.out).mono ?_; rintro e w2 ⟨rfl, rfl⟩)
      go_ret
      exact ⟨by rw [kcl.out]; rfl, kb.out.trans (kB.out.mono kb.out.size)⟩
set_option maxRecDepth 100000 in
set_option maxHeartbeats 1000000 in
theorem refParent_calls (p : ByteArray) (w : World) (hp : p.size ≤ 1099511627775) :
    Calls Tryz.prog 30 #[.string p] w fun e w' => e = .returned (.string (mk (parentP p.data.toList))) ∧ Below w.heap.size w w' := by
  have hcl := clean_len p.data.toList
  rw [← Go.Lib.size_eq] at hcl
  have hC := Lib.hid (refClean_calls p w hp)
  have kpar := Lib.hid (rparent_eq p.data.toList)
  generalize clean p.data.toList = q at *
  have hN := Lib.hid (fun w => refNames_calls (mk q) w (by rw [mk_size]; omega))
  have htot := rnames_tot q
  rw [mk_list] at hN
  generalize rnames q = L at *
  have hLl := tot_len L
  by_cases h0 : L = []
  · subst h0
    go_enter Tryz.func30, Tryz.ntmps30
    go_wp2_with (first | (go_at_call 54; refine (hC.out).mono ?_; rintro e w1 ⟨rfl, hb⟩; have kb1 := Lib.hid hb; clear hb) | (go_at_call 55; refine (hN.out _).mono ?_; rintro e w2 ⟨v, rfl, hl, hb⟩; obtain ⟨na, nc, hnv⟩ := hl.form; subst hnv; have kl := Lib.hid hl; have kb := Lib.hid hb; clear hl hb))
    go_ret
    exact ⟨by rw [← kpar.out]; rfl, kb1.out.trans (kb.out.mono kb1.out.size)⟩
  · have h1 : 0 < L.length := List.length_pos_iff.2 h0
    have z1 : ((L.length : Int) == 0) = false := by rw [beq_eq_false_iff_ne]; omega
    have z2 : (1 : Int) ≤ (L.length : Int) := by omega
    have htd := tot_dropLast L
    have hsl := Lib.hid (fun (B : Nat) (v : Value) (W : World) (h : LooseS W B v L.dropLast) => refslashed_calls B v L.dropLast W h (by omega))
    have k0 := Lib.hid h0
    clear h0
    go_enter Tryz.func30, Tryz.ntmps30
    go_wp2_with (first | (go_at_call 54; refine (hC.out).mono ?_; rintro e w1 ⟨rfl, hb⟩; have kb1 := Lib.hid hb; clear hb) | (go_at_call 55; refine (hN.out _).mono ?_; rintro e w2 ⟨v, rfl, hl, hb⟩; obtain ⟨na, nc, hnv⟩ := hl.form; subst hnv; have kl := Lib.hid hl; have kb := Lib.hid hb; clear hb; obtain ⟨z3, z4⟩ := hl.cap k0.out; have kq := Lib.hid (LooseS.less hl); clear hl) | (go_at_call 57; refine (hsl.out _ _ _ kq.out).mono ?_; rintro e w3 ⟨rfl, rfl⟩))
    go_ret
    exact ⟨by rw [kpar.out]; rfl, kb1.out.trans (kb.out.mono kb1.out.size)⟩
end Go.Proofs.YtejofgdglpmlkaaGreatDoor
