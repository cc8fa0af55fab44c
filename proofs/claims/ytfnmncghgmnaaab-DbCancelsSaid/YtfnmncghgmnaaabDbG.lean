/-
  A database's methods: Implicit (15), Named (18), Special (17) at ".PHONY", Rules (12). Conditions: lists of at most a million strings.
-/
import Derived.Test.YtfnmncghgmnaaabDbF
namespace Go.Proofs.Ytfnmncghgmnaaab
open Go.RowKit

theorem IntsAt.news {w : World} {ad : Addr} {n c : Nat} {l : List Int} (h : IntsAt w (.slice (some ad) n c) l) :
    n = l.length ∧ (l.map (Value.int .i64)).length = n * 1 ∧ ∀ (j : Nat) (u : Value), (l.map (Value.int .i64))[j]? = some u → w.cell? (ad.add j) = some u := by
  obtain ⟨a, n', c', e, h2, h3, h4, h5, h6⟩ := h
  injection e with e1 e2 e3
  subst e1 e2 e3
  refine ⟨h2, by rw [List.length_map, h2, Nat.mul_one], fun j u hu => ?_⟩
  have hj : j < l.length := by have := (List.getElem?_eq_some_iff.1 hu).1; simpa using this
  obtain ⟨b, off, e, hb, hcells⟩ := h5 (by omega)
  injection e with e
  subst e
  have ha : (⟨b, off, none⟩ : Addr).add j = ⟨b, off + j, none⟩ := by unfold Addr.add; split <;> simp_all
  rw [ha]
  simp only [List.getElem?_map, List.getElem?_eq_getElem hj, Option.map_some] at hu
  injection hu with hu
  rw [← hu]
  exact hcells j _ (List.getElem?_eq_getElem hj)

set_option maxHeartbeats 1000000 in
theorem implicit_calls (base bd nb : Nat) (rules given : List Ru) (I : List Int) (S : ByteArray → Bool) (w : World) (h : DbAt base bd nb rules given I S w) (hI : I.length ≤ 1000000) :
    Calls Try.prog 15 #[.pointer (some ⟨bd, 0, none⟩)] w fun e w' => ∃ v', e = .returned v' ∧ IntsAt w' v' I ∧ Below w.heap.size w w' := by
  obtain ⟨i3, hi3, hz3, hs3, hb3⟩ := info_parts info3
  obtain ⟨v0, v1, v4, be, bn, X, Y, h1, -, -, -, -, h8, -⟩ := h.ex
  obtain ⟨c4, -⟩ := cell_of_d (o := 4) h1 rfl
  have hi := Lib.hid h8
  obtain ⟨a, n, c, rfl, hn, hc, hm, hcell, hnone⟩ := h8
  clear hcell h h1
  cases a with
  | none =>
    obtain rfl : c = 0 := hnone rfl
    obtain rfl : n = 0 := by omega
    have hle : I = [] := List.length_eq_zero_iff.1 hn.symm
    subst hle
    clear hnone hi hI hn hm hc
    go_enter Try.func15, Try.ntmps15
    go_wp2
    go_ret
    exact ⟨_, rfl, ⟨none, 0, 0, rfl, rfl, Nat.le_refl _, by unfold maxLen; omega, fun h => by omega, fun _ => rfl⟩, Below.refl _ _⟩
  | some ad =>
    obtain ⟨e1, e2, e3⟩ := hi.out.news
    have e1' := Lib.hid e1
    have e2' := Lib.hid e2
    have e3' := Lib.hid e3
    have hnn : n ≤ 1000000 := by omega
    clear e1 e2 e3 hnone hn hI
    go_enter Try.func15, Try.ntmps15
    go_wp2_with (at_builtin; refine wpList_append_own _ rfl (.const (.slice none 0 0)) (.tmp 6) 45 rfl w.heap.size 3 i3 _ 1 8 Try.underlying45 hi3 hz3 hs3 hb3 rfl (by decide) _ _ _ rfl (World.ownsRow_nil _ _ _ _) ad n c (I.map (Value.int .i64)) rfl e2'.out e3'.out (ints_oneCell .i64 I) (by unfold maxLen; omega) (by omega) (Nat.le_refl _) ?_; intro v' w2 hown' hgrow _; rw [Nat.zero_add, List.nil_append, e1'.out] at hown'; have hB := Lib.hid ((Below.refl w.heap.size w).grown hgrow (Nat.le_refl _) (fun k e => by cases e)); clear hgrow)
    go_ret
    exact ⟨_, rfl, intsAt_own hown', hB.out⟩

set_option maxHeartbeats 1000000 in
theorem named_calls (base bd nb : Nat) (rules given : List Ru) (I : List Int) (S : ByteArray → Bool) (w : World) (h : DbAt base bd nb rules given I S w) (n : ByteArray) (hn : n.size ≤ maxLen) :
    Calls Try.prog 18 #[.pointer (some ⟨bd, 0, none⟩), .string n] w fun e w' => e = .returned (.bool (S n)) ∧ w = w' := by
  obtain ⟨v0, v1, v4, be, bn, X, Y, h1, -, -, -, -, -, m, D, hD, hS⟩ := h.ex
  obtain ⟨c5, -⟩ := cell_of_d (o := 5) h1 rfl
  have hkey := key71 nmB n (by decide) hn
  obtain ⟨c, hrun, hat, hwf⟩ := hD.lookup_int law71 Try.underlying54 Try.underlying3 (by kernel_rfl) hkey
  have hc := hS n hn
  rw [hat] at hc
  have hc2 : c = if S n then 1 else 0 := by injection hc with hc; injection hc
  unfold nmB at hrun
  clear hat hwf hc hD hS h h1 hkey
  go_enter Try.func18, Try.ntmps18
  cases hSn : S n
  · rw [hSn] at hc2
    simp only [Bool.false_eq_true, if_false] at hc2
    subst hc2
    go_wp2
    go_ret
    exact ⟨rfl, rfl⟩
  · rw [hSn] at hc2
    simp only [if_true] at hc2
    subst hc2
    go_wp2
    go_ret
    exact ⟨rfl, rfl⟩
end Go.Proofs.Ytfnmncghgmnaaab
