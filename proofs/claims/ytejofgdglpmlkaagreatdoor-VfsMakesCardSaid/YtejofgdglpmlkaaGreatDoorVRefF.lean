/-
  The reference's file system: looking for a path (a binary search), its weight. Conditions: at most 1000 nodes, data of at most 2^40 bytes.
-/
import Derived.Test.YtejofgdglpmlkaaGreatDoorVRefV
import Derived.Test.YtejofgdglpmlkaaGreatDoorVRight
namespace Go.Proofs.YtejofgdglpmlkaaGreatDoor
open Go.RowKit

theorem rising_lt {l : St} (h : Rising l) {i j : Nat} {x y : Bs × PN} (hij : i < j) (hx : l[i]? = some x) (hy : l[j]? = some y) : x.1 < y.1 := by
  obtain ⟨hi, rfl⟩ := List.getElem?_eq_some_iff.1 hx
  obtain ⟨hj, rfl⟩ := List.getElem?_eq_some_iff.1 hy
  exact List.pairwise_iff_getElem.1 h i j hi hj hij
theorem more_mk' {p y : Bs} (h : ¬ y < p) : Op.bytesLess (mk y).toList (mk p).toList = false := by
  rw [Go.Lib.toList_data, Go.Lib.toList_data, mk_list, mk_list, bytesLess_eq]
  simpa using h
/-- What the search keeps. -/
structure Seek (l : St) (p : Bs) (a b : Nat) : Prop where make ::
  ab : a ≤ b
  bl : b ≤ l.length
  lo : ∀ (i : Nat) (x : Bs × PN), i < a → l[i]? = some x → x.1 < p
  hi : ∀ (i : Nat) (x : Bs × PN), b ≤ i → l[i]? = some x → ¬ x.1 < p
theorem Seek.start (l : St) (p : Bs) : Seek l p 0 l.length := ⟨Nat.zero_le _, Nat.le_refl _, fun i x h => absurd h (Nat.not_lt_zero _), fun i x h hx => by have := (List.getElem?_eq_some_iff.1 hx).1; omega⟩
theorem Seek.up {l : St} {p : Bs} {a b m : Nat} {y : Bs × PN} (h : Seek l p a b) (hr : Rising l) (hy : l[m]? = some y) (hm : a ≤ m) (hb : m < b) (hlt : y.1 < p) : Seek l p (m + 1) b := by
  refine ⟨hb, h.bl, fun i x hi hx => ?_, h.hi⟩
  by_cases e : i = m
  · subst e; rw [hx] at hy; injection hy with hy; subst hy; exact hlt
  · exact List.lt_trans (rising_lt hr (by omega) hx hy) hlt
theorem Seek.down {l : St} {p : Bs} {a b m : Nat} {y : Bs × PN} (h : Seek l p a b) (hr : Rising l) (hy : l[m]? = some y) (hm : a ≤ m) (hb : m < b) (hlt : ¬ y.1 < p) : Seek l p a m := by
  refine ⟨hm, by have := h.bl; omega, h.lo, fun i x hi hx hxp => ?_⟩
  by_cases e : i = m
  · subst e; rw [hx] at hy; injection hy with hy; subst hy; exact hlt hxp
  · exact hlt (List.lt_trans (rising_lt hr (by omega) hy hx) hxp)
theorem Seek.none {l : St} {p : Bs} {a b : Nat} (h : Seek l p a b) (hab : ¬ a < b) (hr : Rising l) (hn : ∀ x, l[a]? = some x → x.1 ≠ p) : ∀ x ∈ l, x.1 ≠ p := by
  intro x hx e
  obtain ⟨i, hi⟩ := List.getElem?_of_mem hx
  by_cases h1 : i < a
  · have := h.lo i x h1 hi
    rw [e] at this
    exact List.lt_irrefl _ this
  · by_cases h2 : i = a
    · subst h2; exact hn x hi e
    · have ha : a < l.length := by have := (List.getElem?_eq_some_iff.1 hi).1; omega
      have hl := rising_lt hr (show a < i by omega) (List.getElem?_eq_getElem ha) hi
      rw [e] at hl
      exact h.hi a _ (by have := h.ab; omega) (List.getElem?_eq_getElem ha) hl
theorem half {a b : Nat} : ((a : Int) + (b : Int)).tdiv 2 = (((a + b) / 2 : Nat) : Int) := by
  rw [show ((a : Int) + (b : Int)) = ((a + b : Nat) : Int) by omega]
  rfl
/-- What the search answers. -/
def SeekAns (l : St) (p : Bs) (k : Int) : Prop := (k = -1 ∧ ∀ x ∈ l, x.1 ≠ p) ∨ ∃ (j : Nat) (x : Bs × PN), k = j ∧ l[j]? = some x ∧ x.1 = p
set_option maxRecDepth 100000 in
set_option maxHeartbeats 2000000 in
theorem refAt_calls {w : World} {fb : Nat} {sa : Option Addr} {sc : Nat} {c1 c2 : Value} {l : St} {T : Nat → Prop} (hb : w.heap[fb]? = some (.cells #[.slice sa l.length sc, c1, c2] 62 (0, 0))) (ht : TreeAt w (.slice sa l.length sc) l T) (hr : Rising l) (p : Bs) (hl : l.length ≤ 1099511627776) :
    Calls Tryz.prog 31 #[.pointer (some ⟨fb, 0, none⟩), .string (mk p)] w fun e w' => ∃ k : Int, e = .returned (.int .i64 k) ∧ SeekAns l p k ∧ w = w' := by
  obtain ⟨hc0, -⟩ := cells3 hb
  have hfl := heap_lt hb
  have kt := Lib.hid ht
  have kr := Lib.hid hr
  clear hb ht hr
  go_enter Tryz.func31, Tryz.ntmps31
  go_wp2
  go_loop [5, 6, 7] (fun av bv _ => ∃ a b : Nat, av = .int .i64 a ∧ bv = .int .i64 b ∧ Seek l p a b) (fun av bv _ => (intOf bv).toNat - (intOf av).toNat)
  case atStart => exact ⟨0, l.length, rfl, rfl, Seek.start l p⟩
  case round =>
    obtain ⟨a, b, rfl, rfl, hS⟩ := hrel
    have h1 := hS.ab
    have h2 := hS.bl
    have kS := Lib.hid hS
    clear hS
    by_cases hlt : a < b
    · have hhalf := half (a := a) (b := b)
      obtain ⟨m, hm⟩ : ∃ m, m = (a + b) / 2 := ⟨_, rfl⟩
      have hm1 : a ≤ m := by omega
      have hm2 : m < b := by omega
      rw [← hm] at hhalf
      clear hm
      obtain ⟨y, hy⟩ : ∃ y, l[m]? = some y := ⟨_, List.getElem?_eq_getElem (by omega)⟩
      obtain ⟨bb, off, dv, hta, hTb, hbl, hd0, -, -, -, -⟩ := kt.out.at hy
      subst hta
      have ky := Lib.hid hy
      clear hy hTb
      have z1 : (m : Int) < (l.length : Int) := by omega
      by_cases hyp : y.1 < p
      · have hq := less_mk hyp
        have kn := Lib.hid (kS.out.up kr.out ky.out hm1 hm2 hyp)
        clear hyp
        go_wp2
        go_round
        case rel => exact ⟨m + 1, b, by go_num, rfl, kn.out⟩
        case measure => simp [intOf]; omega
      · have hq := more_mk' hyp
        have kn := Lib.hid (kS.out.down kr.out ky.out hm1 hm2 hyp)
        clear hyp
        go_wp2
        go_round
        case rel => exact ⟨a, m, rfl, rfl, kn.out⟩
        case measure => simp [intOf]; omega
    · by_cases hal : a < l.length
      · obtain ⟨y, hy⟩ : ∃ y, l[a]? = some y := ⟨_, List.getElem?_eq_getElem hal⟩
        obtain ⟨bb, off, dv, hta, hTb, hbl, hd0, -, -, -, -⟩ := kt.out.at hy
        subst hta
        have ky := Lib.hid hy
        clear hy hTb
        have z1 : (a : Int) < (l.length : Int) := by omega
        by_cases hyp : y.1 = p
        · subst hyp
          go_wp2
          go_ret
          exact ⟨(a : Int), rfl, Or.inr ⟨a, y, rfl, ky.out, rfl⟩, rfl⟩
        · have hq : ((mk y.1).toList == (mk p).toList) = false := mk_ne hyp
          have kn := Lib.hid (kS.out.none hlt kr.out (fun x hx => by rw [ky.out] at hx; injection hx with hx; subst hx; exact hyp))
          clear hyp
          go_wp2
          go_ret
          exact ⟨-1, rfl, Or.inl ⟨rfl, kn.out⟩, rfl⟩
      · have kn := Lib.hid (kS.out.none hlt kr.out (fun x hx => absurd (List.getElem?_eq_some_iff.1 hx).1 hal))
        go_wp2
        go_ret
        exact ⟨-1, rfl, Or.inl ⟨rfl, kn.out⟩, rfl⟩
set_option maxRecDepth 100000 in
set_option maxHeartbeats 2000000 in
theorem refweight_calls {w : World} {sa : Option Addr} {sc : Nat} {l : St} {T : Nat → Prop} (ht : TreeAt w (.slice sa l.length sc) l T) (hl : l.length ≤ 1000) (hd : ∀ x ∈ l, x.2.data.length ≤ 1099511627776) :
    Calls Tryz.prog 32 #[.slice sa l.length sc] w fun e w' => e = .returned (.int .i64 ((l.length : Int) + (bytesOf l : Int))) ∧ w = w' := by
  have kt := Lib.hid ht
  have kd := Lib.hid hd
  clear ht hd
  go_enter Tryz.func32, Tryz.ntmps32
  go_wp2
  go_loop [3, 4] (fun nv iv => ∃ k : Nat, k ≤ l.length ∧ iv = .int .i64 k ∧ nv = .int .i64 ((l.length : Int) + (bytesOf (l.take k) : Int))) (fun _ iv => l.length - (intOf iv).toNat)
  case atStart => exact ⟨0, Nat.zero_le _, rfl, by simp [bytesOf]⟩
  case round =>
    obtain ⟨k, hk, rfl, rfl⟩ := hrel
    have hsum := bytes_small (l := l.take k) (by simp; omega) (fun y hy => kd.out y (List.mem_of_mem_take hy))
    by_cases hlt : k < l.length
    · obtain ⟨x, hx⟩ : ∃ x, l[k]? = some x := ⟨_, List.getElem?_eq_getElem hlt⟩
      obtain ⟨bb, off, dv, hta, hTb, hbl, -, -, -, hd3, hdv⟩ := kt.out.at hx
      obtain ⟨da, dc, hdf⟩ := hdv.form
      subst hta hdf
      have hdl := kd.out x (List.mem_of_getElem? hx)
      have htk := bytes_take hx
      clear hTb hdv hx
      go_wp2
      go_round
      case rel => exact ⟨k + 1, by omega, by go_num, by rw [htk]; congr 1; omega⟩
      case measure => simp [intOf]; omega
    · have hkl : k = l.length := by omega
      subst hkl
      rw [List.take_length]
      go_wp2
      go_ret
      exact ⟨rfl, rfl⟩
end Go.Proofs.YtejofgdglpmlkaaGreatDoor
