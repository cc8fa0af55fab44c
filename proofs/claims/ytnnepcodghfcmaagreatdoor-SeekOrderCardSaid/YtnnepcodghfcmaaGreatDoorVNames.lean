/-
  The names of a path (names, its inner function). Conditions: texts of at most 2^40 bytes.
-/
import Derived.Test.YtnnepcodghfcmaaGreatDoorVRow
import Derived.Lib.OthersKept
import Derived.OneCell
namespace Go.Proofs.YtnnepcodghfcmaaGreatDoor
open Go.RowKit

/-- Nothing below B has turned but block L. -/
structure ButL (L B : Nat) (w w' : World) : Prop where
  os : w'.os = w.os
  tape : w'.tape = w.tape
  output : w'.output = w.output
  size : w.heap.size ≤ w'.heap.size
  block : ∀ k, k < B → k ≠ L → w'.heap[k]? = w.heap[k]?
def TakeTo (L B : Nat) (l : List Bs) (w w' : World) : Prop := ∃ v, w'.heap[L]? = some (.cells #[v] 35 (0, 0)) ∧ LooseS w' B v l ∧ ButL L B w w'
theorem ButL.refl (L B : Nat) (w : World) : ButL L B w w := ⟨rfl, rfl, rfl, Nat.le_refl _, fun _ _ _ => rfl⟩
theorem one_cell {w : World} {b : Nat} {v : Value} {t : TypeId} (h : w.heap[b]? = some (.cells #[v] t (0, 0))) : w.cell? ⟨b, 0, none⟩ = some v ∧ w.frozen? ⟨b, 0, none⟩ = false := by
  constructor
  · simp [World.cell?, h]
  · simp [World.frozen?, h]

theorem add_zero' (g : Nat) : (⟨g, 0, none⟩ : Addr).add 0 = ⟨g, 0, none⟩ := by unfold Addr.add; split <;> simp_all
theorem one_new (w : World) (v : Value) (t : TypeId) : (w.alloc (.cells #[v] t)).cell? ⟨w.heap.size, 0, none⟩ = some v := by
  unfold World.cell?; rw [heap_alloc_new]; rfl
theorem none_lt (B : Nat) : ∀ g, (none : Option Nat) = some g → g < B := by simp
theorem TakeTo.set {L B : Nat} {w w1 : World} {v : Value} {l : List Bs} {row : Option Nat} (hL : ∃ u, w.heap[L]? = some (.cells #[u] 35 (0, 0))) (hg : w.grownBy w1 row) (hr : ∀ g, row = some g → B ≤ g) (hLB : L < B) (hB : B ≤ w.heap.size) (h : LooseS w1 B v l) : TakeTo L B l w (w1.setCell ⟨L, 0, none⟩ v) := by
  obtain ⟨u, hu⟩ := hL
  have hl := heap_lt hu
  have hne : some L ≠ row := fun e => by have := hr L e.symm; omega
  have h1 : w1.heap[L]? = some (.cells #[u] 35 (0, 0)) := (hg.block L hl hne).trans hu
  refine ⟨v, one_setCell h1, h.kept fun g e => ?_, ⟨hg.os, hg.tape, hg.output, by simpa using hg.size, fun k hk hkL => ?_⟩⟩
  · exact Below.heap_setCell _ _ _ _ (fun e' => by have := (h.lt g e).1; dsimp only at e'; omega)
  · rw [Below.heap_setCell _ _ _ _ (by simpa using hkL)]
    exact hg.block k (by omega) (fun e => by have := hr k e.symm; omega)

set_option maxHeartbeats 1000000 in
theorem take_calls (s : ByteArray) (L B : Nat) (v : Value) (l : List Bs) (w : World) (hL : w.heap[L]? = some (.cells #[v] 35 (0, 0))) (hLB : L < B) (hB : B ≤ w.heap.size) (h : LooseS w B v l) (hn : l.length ≤ 1099511627776) :
    Calls Tryz.prog 53 #[.string s, .pointer (some ⟨L, 0, none⟩)] w fun e w' => e = .returned (.tuple #[]) ∧ TakeTo L B (take1 l s.data.toList) w w' := by
  obtain ⟨hc, hf⟩ := one_cell hL
  have kL := Lib.hid hL
  have kh := Lib.hid h
  clear hL h
  by_cases h1 : s.data.toList = []
  · obtain rfl : s = ⟨#[]⟩ := ba_ext (by rw [h1])
    go_enter Tryz.func53, Tryz.ntmps53
    go_wp2
    go_end0
    exact ⟨rfl, v, kL.out, kh.out, ButL.refl _ _ _⟩
  by_cases h2 : s.data.toList = [46]
  · obtain rfl : s = ⟨#[46]⟩ := ba_ext (by rw [h2])
    go_enter Tryz.func53, Tryz.ntmps53
    go_wp2
    go_end0
    exact ⟨rfl, v, kL.out, kh.out, ButL.refl _ _ _⟩
  by_cases h3 : s.data.toList = [46, 46]
  · obtain rfl : s = ⟨#[46, 46]⟩ := ba_ext (by rw [h3])
    clear h1 h2 h3
    rcases kh.out with ⟨rfl, rfl⟩ | ⟨g, cap, cur, rfl, hbg, hg, hnc, hcm, hcs, ht⟩
    · go_enter Tryz.func53, Tryz.ntmps53
      go_wp2
      go_end0
      exact ⟨rfl, _, kL.out, LooseS.nil _ _, ButL.refl _ _ _⟩
    · have kht := Lib.hid ht
      have khg := Lib.hid hg
      clear ht hg
      unfold maxLen at hcm
      by_cases h0 : 0 < l.length
      · have z1 : (0 : Int) < (l.length : Int) := by omega
        go_enter Tryz.func53, Tryz.ntmps53
        go_wp2
        go_end0
        refine ⟨rfl, ?_⟩
        have e : take1 l [46, 46] = l.dropLast := by simp [take1]
        rw [e]
        exact TakeTo.set ⟨_, kL.out⟩ ⟨rfl, rfl, rfl, Nat.le_refl _, fun _ _ _ => rfl⟩ (row := none) (by simp) hLB hB (LooseS.pop kh.out)
      · have hz : l.length = 0 := by omega
        have hl : l = [] := List.length_eq_zero_iff.1 hz
        subst hl
        go_enter Tryz.func53, Tryz.ntmps53
        go_wp2
        go_end0
        exact ⟨rfl, _, kL.out, kh.out, ButL.refl _ _ _⟩
  · have e1 : s.toList.isEmpty = false := by rw [Go.Lib.toList_data]; cases hs : s.data.toList <;> simp_all
    have e2 : (s.toList == [46]) = false := by rw [Go.Lib.toList_data, beq_eq_false_iff_ne]; exact h2
    have e3 : (s.toList == [46, 46]) = false := by rw [Go.Lib.toList_data, beq_eq_false_iff_ne]; exact h3
    have kt := Lib.hid (show take1 l s.data.toList = l ++ [s.data.toList] by unfold take1; rw [if_neg (by simp [h1, h2]), if_neg h3])
    have kc := one_new w (.string s) 9
    have kw := kh.out.grown (World.grownBy_alloc w (.cells #[.string s] 9) none) (none_lt B)
    have ka := add_zero' w.heap.size
    have kB : B ≤ (w.alloc (.cells #[.string s] 9)).heap.size := by simp; omega
    have kw' := Lib.hid kw
    have kc' := Lib.hid kc
    have ka' := Lib.hid ka
    have kB' := Lib.hid kB
    have khL : ∀ (w1 : World) (row : Option Nat), (w.alloc (.cells #[.string s] 9)).grownBy w1 row → (∀ g, row = some g → B ≤ g) → w1.heap[L]? = some (.cells #[v] 35 (0, 0)) := fun w1 row hg hr =>
      ((hg.block L (by have := heap_lt kL.out; simp; omega) (fun e => by have := hr L e.symm; omega)).trans (heap_alloc_old w _ (heap_lt kL.out))).trans kL.out
    clear h1 h2 h3 kw kc ka kB
    go_enter Tryz.func53, Tryz.ntmps53
    go_wp2_with (at_builtin; refine wpList_append_loose _ rfl _ _ rfl B v rfl l kw'.out ⟨w.heap.size, 0, none⟩ 1 s rfl kc'.out ka'.out hn kB'.out ?_; intro g cap w1 hL1 hgr hat; obtain ⟨hc1, hf1⟩ := one_cell (khL w1 v.ownBlock hgr (fun g e => (kw'.out.lt g e).1)); clear hat)
    go_end0
    refine ⟨rfl, ?_⟩
    rw [kt.out]
    exact TakeTo.set ⟨_, kL.out⟩ ((World.grownBy_alloc w _ _).trans hgr) (fun g e => (kw'.out.lt g e).1) hLB hB hL1
theorem nrun_len : ∀ (l : List Bs) (n : Bs), (take1 l n).length ≤ l.length + 1 := by
  intro l n
  unfold take1
  split
  · omega
  · split
    · simp; omega
    · simp
theorem LooseS.mono {w : World} {B B' : Nat} {v : Value} {l : List Bs} (h : LooseS w B v l) (hb : B' ≤ B) : LooseS w B' v l := by
  rcases h with h | ⟨g, cap, cur, e, h1, r⟩
  · exact Or.inl h
  · exact Or.inr ⟨g, cap, cur, e, Nat.le_trans hb h1, r⟩
/-- What the loop of names keeps. -/
def NamesInv (p : ByteArray) (w wr : World) (fr pos : Nat) : Prop :=
  ∃ v l, wr.heap[w.heap.size]? = some (.cells #[v] 35 (0, 0)) ∧ LooseS wr (w.heap.size + 2) v l ∧ wr.heap[w.heap.size + 1]? = some (.stringIter p pos) ∧ Below w.heap.size w wr ∧ fr ≤ pos ∧ pos ≤ p.size ∧ l.length ≤ fr ∧ nrun (p.data.toList.drop pos) ((p.data.toList.drop fr).take (pos - fr)) l = cnames p.data.toList

theorem decode_cases (p : ByteArray) (pos : Nat) (h : pos < p.size) :
    (p.data.toList.drop pos = 47 :: p.data.toList.drop (pos + 1) ∧ Utf8.decode p pos = (47, 1)) ∨ ∃ c d : Nat, Utf8.decode p pos = (c, d) ∧ c ≠ 47 ∧ 1 ≤ d ∧ pos + d ≤ p.size ∧ ∀ x ∈ (p.data.toList.drop pos).take d, x ≠ 47 := by
  by_cases ha : (p[pos]'h).toNat < 128
  · have e := decode_ascii p pos h ha
    by_cases h47 : p[pos]'h = 47
    · left
      rw [drop_cons h, e, h47]
      exact ⟨rfl, rfl⟩
    · right
      refine ⟨_, _, e, fun e' => h47 (UInt8.toNat_inj.1 (by rw [e']; rfl)), Nat.le_refl _, by omega, fun x hx => ?_⟩
      rw [drop_cons h] at hx
      obtain rfl : x = p[pos]'h := by simpa using hx
      exact h47
  · right
    obtain ⟨f1, f2, f3, f4⟩ := decode_far p pos h (by omega)
    exact ⟨(Utf8.decode p pos).1, (Utf8.decode p pos).2, rfl, by omega, f1, f2, fun x hx e => by have := f3 x hx; rw [e] at this; simp at this⟩
theorem NamesInv.skip {p : ByteArray} {w wr : World} {fr pos d : Nat} (h : NamesInv p w wr fr pos) (h2 : pos + d ≤ p.size) (h3 : ∀ x ∈ (p.data.toList.drop pos).take d, x ≠ 47) : NamesInv p w (wr.iterAt (w.heap.size + 1) p (pos + d)) fr (pos + d) := by
  obtain ⟨v, l, hv, hl, hit, hb, g1, g2, g3, g4⟩ := h
  refine ⟨v, l, ?_, hl.kept fun g e => Lib.iterAt_other _ _ _ _ _ (by have := (hl.lt g e).1; omega), Lib.iterAt_heap _ _ _ _ _ hit, Lib.below_iterAt hb (by omega) _ _, by omega, h2, g3, ?_⟩
  · rw [Lib.iterAt_other _ _ _ _ _ (by omega)]; exact hv
  · rw [← g4]
    have e1 : p.data.toList.drop pos = (p.data.toList.drop pos).take d ++ p.data.toList.drop (pos + d) := by rw [← List.drop_drop, List.take_append_drop]
    rw [e1, nrun_skip _ _ _ _ h3]
    congr 1
    have e2 : p.data.toList.drop pos = (p.data.toList.drop fr).drop (pos - fr) := by rw [List.drop_drop]; congr 1; omega
    rw [e2, ← List.take_add]; congr 1; omega
theorem NamesInv.it {p : ByteArray} {w wr : World} {fr pos : Nat} (h : NamesInv p w wr fr pos) : wr.heap[w.heap.size + 1]? = some (.stringIter p pos) := by
  obtain ⟨v, l, hv, hl, hit, _⟩ := h; exact hit
theorem NamesInv.slash {p : ByteArray} {w wr w1 : World} {fr pos : Nat} {l : List Bs} (hg : Below w.heap.size w wr) (hL : wr.heap[w.heap.size + 1]? = some (.stringIter p pos)) (g2 : pos < p.size) (g1 : fr ≤ pos) (g3 : l.length ≤ fr)
    (g4 : nrun (p.data.toList.drop pos) ((p.data.toList.drop fr).take (pos - fr)) l = cnames p.data.toList) (h47 : p.data.toList.drop pos = 47 :: p.data.toList.drop (pos + 1))
    (ht : TakeTo w.heap.size (w.heap.size + 2) (take1 l (p.extract fr pos).data.toList) (wr.iterAt (w.heap.size + 1) p (pos + 1)) w1) : NamesInv p w w1 (pos + 1) (pos + 1) := by
  obtain ⟨v', hv', hl', hB⟩ := ht
  refine ⟨v', _, hv', hl', ?_, ?_, Nat.le_refl _, g2, Nat.le_trans (nrun_len _ _) (by omega), ?_⟩
  · rw [hB.block _ (by omega) (by omega)]; exact Lib.iterAt_heap _ _ _ _ _ hL
  · have hbi := Lib.below_iterAt hg (show w.heap.size ≤ w.heap.size + 1 by omega) p (pos + 1)
    exact ⟨hB.os.trans hbi.os, hB.tape.trans hbi.tape, hB.output.trans hbi.output, Nat.le_trans hbi.size hB.size, fun k hk => (hB.block k (by omega) (by omega)).trans (hbi.block k hk)⟩
  · rw [← g4, h47, nrun_slash, Go.Lib.extract_data, Nat.sub_self]; rfl

set_option maxHeartbeats 1000000 in
theorem names_calls (p : ByteArray) (w : World) (hp : p.size ≤ 1099511627775) :
    Calls Tryz.prog 35 #[.string p] w fun e w' => ∃ v, e = .returned v ∧ LooseS w' w.heap.size v (cnames p.data.toList) ∧ Below w.heap.size w w' := by
  go_enter Tryz.func35, Tryz.ntmps35
  go_wp2
  go_loopw [5] (fun fv wr => ∃ fr pos : Nat, fv = .int .i64 fr ∧ NamesInv p w wr fr pos) (fun _ wr => p.size - wr.iterPos (w.heap.size + 1))
  case atStart =>
    refine ⟨0, 0, rfl, .slice none 0 0, [], ?_, LooseS.nil _ _, ?_, ?_, Nat.le_refl _, Nat.zero_le _, Nat.le_refl _, ?_⟩
    · rw [World.iter, heap_alloc_old _ _ (by simp)]; exact heap_alloc_new w _
    · have := World.iter_heap (w.alloc (Obj.cells #[Value.slice none 0 0] 35)) p 0
      simpa using this
    · exact below_al (below_al (Below.refl _ _))
    · simp [cnames]
  case round =>
    obtain ⟨fr, pos, rfl, hI⟩ := hrel
    have kI := Lib.hid hI
    obtain ⟨v, l, hv, hl, hit, hb, g1, g2, g3, g4⟩ := hI
    have hp5 : pos ≤ 1099511627775 := by omega
    by_cases hlt : pos < p.size
    · rcases decode_cases p pos hlt with ⟨h47, e47⟩ | ⟨c, d, e, hc, hd, hpd, hch⟩
      · have hnx := fun ty => Lib.run_next_any_at (P := Tryz.prog) wr (w.heap.size + 1) p pos ty hit hlt
        rw [e47] at hnx
        have k1 := Lib.hid hv
        have k2 := Lib.hid hl
        have k3 := Lib.hid hit
        have k4 := Lib.hid g4
        have k5 := Lib.hid h47
        have k6 := Lib.hid hb
        clear hv hl hit g4 h47 e47 hb
        have a1 : (wr.iterAt (w.heap.size + 1) p (pos + 1)).heap[w.heap.size]? = some (.cells #[v] 35 (0, 0)) := by rw [Lib.iterAt_other _ _ _ _ _ (by omega)]; exact k1.out
        have a2 : w.heap.size + 2 ≤ (wr.iterAt (w.heap.size + 1) p (pos + 1)).heap.size := by rw [Lib.iterAt_size]; have := heap_lt k3.out; omega
        have a3 : LooseS (wr.iterAt (w.heap.size + 1) p (pos + 1)) (w.heap.size + 2) v l := k2.out.kept fun g e => Lib.iterAt_other _ _ _ _ _ (by have := (k2.out.lt g e).1; omega)
        have hct := Lib.hid (take_calls (p.extract fr pos) w.heap.size (w.heap.size + 2) v l _ a1 (by omega) a2 a3 (by omega))
        clear a1 a2 a3
        go_wp2_with (refine hct.out.mono ?_; rintro e1 w1 ⟨rfl, ht⟩; have kt := Lib.hid ht; clear ht)
        go_roundw
        case rel => exact ⟨pos + 1, pos + 1, by go_num, NamesInv.slash k6.out k3.out hlt g1 g3 k4.out k5.out kt.out⟩
        case measure => rw [iterPos_of k3.out, iterPos_of (NamesInv.slash k6.out k3.out hlt g1 g3 k4.out k5.out kt.out).it]; omega
      · have hnx := fun ty => Lib.run_next_any_at (P := Tryz.prog) wr (w.heap.size + 1) p pos ty hit hlt
        rw [e] at hnx
        have hc' : ((c : Int) == 47) = false := by simp; omega
        clear hv hl hit g4 e hb
        go_wp2
        have kI2 := Lib.hid (kI.out.skip hpd hch)
        go_roundw
        case rel => exact ⟨fr, pos + d, rfl, kI2.out⟩
        case measure => rw [iterPos_of kI.out.it, iterPos_of kI2.out.it]; omega
    · have hnx := fun ty => Lib.run_next_end_at (P := Tryz.prog) wr (w.heap.size + 1) p pos ty hit hlt
      have hpe : pos = p.size := by omega
      have a1 := hv
      have a2 : w.heap.size + 2 ≤ wr.heap.size := by have := heap_lt hit; omega
      have hz1 : (0 : Int) ≤ (fr : Int) := by omega
      have hz2 : (fr : Int) ≤ (p.size : Int) := by omega
      have hct := Lib.hid (take_calls (p.extract fr p.size) w.heap.size (w.heap.size + 2) v l _ a1 (by omega) a2 hl (by omega))
      have k4 := Lib.hid g4
      have k6 := Lib.hid hb
      clear a1 a2 hv hl hit g4 hb
      go_wp2_with (refine hct.out.mono ?_; rintro e1 w1 ⟨rfl, v', hv', hl', hB⟩; have hc1 := (one_cell hv').1; have kl := Lib.hid hl'; have kB := Lib.hid hB; clear hl' hB hv')
      go_ret
      refine ⟨v', rfl, ?_, ?_⟩
      · have e : take1 l (p.extract fr p.size).data.toList = cnames p.data.toList := by
          have hd : p.data.toList.drop p.size = [] := List.drop_eq_nil_of_le (by rw [← Go.Lib.size_eq]; exact Nat.le_refl _)
          rw [← k4.out, hpe, Go.Lib.extract_data, hd, nrun_end]
        rw [← e]
        exact (kl.out).mono (by omega)
      · exact ⟨kB.out.os.trans k6.out.os, kB.out.tape.trans k6.out.tape, kB.out.output.trans k6.out.output, Nat.le_trans k6.out.size kB.out.size, fun k hk => (kB.out.block k (by omega) (by omega)).trans (k6.out.block k hk)⟩
end Go.Proofs.YtnnepcodghfcmaaGreatDoor
