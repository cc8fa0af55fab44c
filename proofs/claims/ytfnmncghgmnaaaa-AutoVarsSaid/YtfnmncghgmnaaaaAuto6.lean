/-
  A list in memory of its own with one more behind it, and whether it is still there (functions 11, 13); are two lists of pairs the same (14). Conditions: lists of at most 1,000,000 strings.
-/
import Derived.Test.YtfnmncghgmnaaaaAuto5
import Derived.Laws.AppendOwnNone
namespace Go.Proofs.Ytfnmncghgmnaaaa
open Go.RowKit

theorem own_open {w : World} {base e size : Nat} {v : Value} {k : Nat} {xs : List Value} (h : w.ownsRow base e size v (k + 1) xs) :
    ∃ g cap, v = .slice (some ⟨g, 0, none⟩) (k + 1) cap ∧ k + 1 ≤ cap ∧ cap ≤ maxLen := by
  rcases h.2 with ⟨_, hn⟩ | ⟨g, cap, cur, rfl, _, _, hn, hm, _⟩
  · omega
  · exact ⟨g, cap, rfl, hn, hm⟩

/-- The mark behind a lent list. -/
def mark71 : ByteArray := ⟨#[45, 55, 49]⟩
def LentAt (w : World) (base : Nat) (v : Value) (l : List ByteArray) : Prop :=
  ∃ g cap, v = .slice (some ⟨g, 0, none⟩) l.length cap ∧ l.length + 1 ≤ cap ∧ cap ≤ maxLen ∧ w.ownsRow base 9 1 (.slice (some ⟨g, 0, none⟩) (l.length + 1) cap) (l ++ [mark71]).length (scells (l ++ [mark71]))
theorem LentAt.below {w w' : World} {base : Nat} {v : Value} {l : List ByteArray} (h : LentAt w base v l) (hb : Below w.heap.size w w') : LentAt w' base v l := by
  obtain ⟨g, cap, h1, h2, h3, h4⟩ := h
  exact ⟨g, cap, h1, h2, h3, h4.kept (row := none) ⟨hb.os, hb.tape, hb.output, hb.size, fun k hk _ => hb.block k hk⟩ (Or.inr (by simp [Value.ownBlock]))⟩
theorem LentAt.strs {w : World} {base : Nat} {v : Value} {l : List ByteArray} (h : LentAt w base v l) : StrsAt w v l := by
  obtain ⟨g, cap, rfl, h2, h3, h4⟩ := h
  obtain ⟨a, n, c, e, hn, hc, hm, hcell, _⟩ := strsAt_own h4
  injection e with e1 e2 e3
  subst e1; subst e2; subst e3
  refine ⟨_, _, _, rfl, rfl, by omega, h3, fun _ => ?_, fun h => by cases h⟩
  obtain ⟨b, off, ea, hb, hcells⟩ := hcell (by omega)
  exact ⟨b, off, ea, hb, fun k s hk => hcells k s (by rw [List.getElem?_append_left (List.getElem?_eq_some_iff.1 hk).1]; exact hk)⟩

set_option maxHeartbeats 1000000 in
theorem lent_calls (v : Value) (l : List ByteArray) (w : World) (h : StrsAt w v l) (hl : l.length ≤ 1000000) :
    Calls Try.prog 11 #[v] w fun e w' => ∃ v', e = .returned v' ∧ LentAt w' w.heap.size v' l ∧ Below w.heap.size w w' := by
  obtain ⟨i0, hi, hz0, hz1, hz2⟩ := info_parts info9
  obtain ⟨a, n, c, rfl, hn0, hc, hm, hcell, hnone⟩ := h
  have hnl : n ≤ 1000000 := by omega
  unfold maxLen at hm
  have hfit : (n + 1) * 16 ≤ 140737488355328 ∧ n + 1 ≤ maxLen := by unfold maxLen; omega
  have hfit0 : (0 + n) * 16 ≤ 140737488355328 ∧ 0 + n ≤ maxLen := by unfold maxLen; omega
  have hn := Lib.hid hn0
  have hsl : (scells l).length = n * 1 := by rw [scells, List.length_map, ← hn0, Nat.mul_one]
  have hsl' := Lib.hid hsl
  have hce := Lib.hid hcell
  clear hn0 hcell hsl hl
  have hfin : ∀ (W : World) (g cap : Nat), n + 1 ≤ cap → cap ≤ maxLen → W.ownsRow w.heap.size 9 1 (.slice (some ⟨g, 0, none⟩) (n + 1) cap) (n + 1) (scells l ++ [.string mark71]) → LentAt W w.heap.size (.slice (some ⟨g, 0, none⟩) n cap) l := by
    intro W g cap h1 h2 h3
    have e := hn.out
    subst e
    refine ⟨g, cap, rfl, h1, h2, ?_⟩
    have e2 : scells (l ++ [mark71]) = scells l ++ [.string mark71] := List.map_append
    rw [e2, List.length_append]; exact h3
  have hf := Lib.hid hfin
  clear hfin
  cases a with
  | none =>
    obtain rfl : c = 0 := hnone rfl
    obtain rfl : n = 0 := by omega
    have hle := Lib.hid (show scells l = [] from List.length_eq_zero_iff.1 (by rw [hsl'.out]))
    clear hnone
    go_enter Try.func11, Try.ntmps11
    go_wp2_with (at_builtin; refine wpList_append_own _ rfl (.tmp 4) (.tmp 5) 22 rfl w.heap.size 9 i0 _ 1 16 Try.underlying22 hi hz0 hz1 hz2 rfl (by decide) _ _ _ rfl (World.ownsRow_nil _ _ _ _) ⟨w.heap.size, 0, none⟩ 1 1 [.string mark71] rfl rfl (cells_new w _ 9) (by intro u hu; simp at hu; subst hu; rfl) hfit.2 hfit.1 (by simp) ?_; intro v' w2 hown' hgrow _; obtain ⟨g, cap, rfl, hg1, hg2⟩ := own_open (k := 0) hown'; have hg3 := hg2; unfold maxLen at hg3)
    go_ret
    exact ⟨_, rfl, hf.out w2 g cap hg1 hg2 (by rw [hle.out]; exact hown'), ((Below.refl _ _).alloc (Nat.le_refl _) _).grown hgrow (by simp) (fun k e => by cases e)⟩
  | some ad =>
    clear hnone
    have hnews : ∀ (j : Nat) (u : Value), (scells l)[j]? = some u → w.cell? (ad.add j) = some u := by
      intro j u hu
      have hj : j < l.length := by have := (List.getElem?_eq_some_iff.1 hu).1; simpa [scells] using this
      obtain ⟨b, off, e, hb, hcells⟩ := hce.out (by rw [hn.out]; omega)
      injection e with e
      subst e
      have ha : (⟨b, off, none⟩ : Addr).add j = ⟨b, off + j, none⟩ := by unfold Addr.add; split <;> simp_all
      rw [ha]
      simp only [scells, List.getElem?_map, List.getElem?_eq_getElem hj, Option.map_some] at hu
      injection hu with hu
      rw [← hu]
      exact hcells j _ (List.getElem?_eq_getElem hj)
    have hone : ∀ u ∈ scells l, u.oneCell' = true := by
      intro u hu
      simp only [scells, List.mem_map] at hu
      obtain ⟨s, _, rfl⟩ := hu
      rfl
    have hnews' := Lib.hid hnews
    have hone' := Lib.hid hone
    clear hnews hone
    go_enter Try.func11, Try.ntmps11
    go_wp2_with (first | (at_builtin; refine wpList_append_own _ rfl (.const (.slice none 0 0)) (.tmp 3) 22 rfl w.heap.size 9 i0 _ 1 16 Try.underlying22 hi hz0 hz1 hz2 rfl (by decide) _ _ _ rfl (World.ownsRow_nil _ _ _ _) ad n c (scells l) rfl hsl'.out hnews'.out hone'.out hfit0.2 hfit0.1 (Nat.le_refl _) ?_; intro v' w2 hown' hgrow _; rw [Nat.zero_add, List.nil_append] at hown'; have hw2 := hgrow.size) | (at_builtin; refine wpList_append_own _ rfl (.tmp 4) (.tmp 5) 22 rfl w.heap.size 9 i0 _ 1 16 Try.underlying22 hi hz0 hz1 hz2 rfl (by decide) _ _ _ rfl (hown'.alloc _) ⟨w2.heap.size, 0, none⟩ 1 1 [.string mark71] rfl rfl (cells_new w2 _ 9) (by intro u hu; simp at hu; subst hu; rfl) hfit.2 hfit.1 (by simp; omega) ?_; intro v'' w3 hown'' hgrow2 _; obtain ⟨g, cap, rfl, hg1, hg2⟩ := own_open hown''; have hg3 := hg2; unfold maxLen at hg3))
    go_ret
    exact ⟨_, rfl, hf.out w3 g cap hg1 hg2 hown'', (((Below.refl _ _).grown hgrow (Nat.le_refl _) (fun k e => by cases e)).alloc hw2 _).grown hgrow2 (by simp; omega) (fun k e => (hown'.lt k e).1)⟩

set_option maxHeartbeats 400000 in
theorem stays_calls (v u : Value) (l : List ByteArray) (w : World) {base : Nat} (h : LentAt w base v l) (h' : StrsAt w u l) (hl : l.length ≤ 1000000) :
    Calls Try.prog 13 #[v, u] w fun e w' => e = .returned (.bool true) ∧ Below w.heap.size w w' := by
  have hst := Lib.hid h.strs
  have hsu := Lib.hid h'
  obtain ⟨g, cap, rfl, hg1, hg2, hown⟩ := h
  have hc := hown.cells (g := g) rfl l.length (.string mark71) (by simp [scells])
  have ad : (⟨g, 0, none⟩ : Addr).add l.length = ⟨g, l.length, none⟩ := by unfold Addr.add; split <;> simp_all
  rw [ad] at hc
  have hc' : w.cell? ⟨g, l.length, none⟩ = some (.string ⟨#[45, 55, 49]⟩) := hc
  obtain ⟨a, n, c, rfl, hn0, hcc, hm, hcell, _⟩ := h'
  unfold maxLen at hg2
  have hcall := Lib.hid (same_calls (.slice (some ⟨g, 0, none⟩) l.length cap) (.slice a n c) l w hst.out hsu.out)
  rw [← hn0] at hc' hg1 hcall hl ⊢
  clear hc ad hown hcell hn0 hm
  go_enter Try.func13, Try.ntmps13
  go_wp2_with fail
  refine (hcall.out).mono ?_
  rintro e w1 ⟨rfl, hB⟩
  go_wp2
  go_ret
  exact ⟨rfl, hB⟩

/-- A slice of pairs that reads as a list. -/
def PairsAt (w : World) (v : Value) (l : List (ByteArray × ByteArray)) : Prop :=
  ∃ g off c, v = .slice (some ⟨g, off, none⟩) l.length c ∧ l.length ≤ c ∧ c ≤ maxLen ∧ g < w.heap.size ∧
    ∀ (k : Nat) (p : ByteArray × ByteArray), l[k]? = some p → w.cell? ⟨g, off + k * 2, none⟩ = some (.string p.1) ∧ w.cell? ⟨g, off + k * 2 + 1, none⟩ = some (.string p.2)
theorem PairsAt.below {w w' : World} {v : Value} {l : List (ByteArray × ByteArray)} (h : PairsAt w v l) (hb : Below w.heap.size w w') : PairsAt w' v l := by
  obtain ⟨g, off, c, h1, h2, h2', h3, h4⟩ := h
  exact ⟨g, off, c, h1, h2, h2', Nat.lt_of_lt_of_le h3 hb.size, fun k p hk => ⟨(hb.cell (p := ⟨g, off + k * 2, none⟩) h3).trans (h4 k p hk).1, (hb.cell (p := ⟨g, off + k * 2 + 1, none⟩) h3).trans (h4 k p hk).2⟩⟩

set_option maxHeartbeats 1000000 in
theorem samePairs_calls (v u : Value) (l : List (ByteArray × ByteArray)) (w : World) (h : PairsAt w v l) (h' : PairsAt w u l) :
    Calls Try.prog 14 #[v, u] w fun e w' => e = .returned (.bool true) ∧ Below w.heap.size w w' := by
  obtain ⟨g, off, c, rfl, hc, hm, hgl, hcells⟩ := h
  obtain ⟨g', off', c', rfl, hc', hm', hgl', hcells'⟩ := h'
  unfold maxLen at hm hm'
  obtain ⟨n, hn0⟩ : ∃ n, n = l.length := ⟨_, rfl⟩
  rw [← hn0] at hc hc' ⊢
  have hn := Lib.hid hn0
  have hce := Lib.hid hcells
  have hce' := Lib.hid hcells'
  clear hn0 hcells hcells'
  go_enter Try.func14, Try.ntmps14
  go_wp2_with fail
  go_loopw [5] (fun i wr => ∃ k : Nat, k ≤ n ∧ i = .int .i64 k ∧ Below w.heap.size w wr) (fun i _ => n - (intOf i).toNat)
  case atStart => exact ⟨0, Nat.zero_le _, rfl, Below.refl _ _⟩
  case round =>
    obtain ⟨k, hk, rfl, hB⟩ := hrel
    by_cases hlt : k < n
    · obtain ⟨p, hp⟩ : ∃ p, l[k]? = some p := ⟨_, List.getElem?_eq_getElem (by rw [← hn.out]; exact hlt)⟩
      obtain ⟨f1, f2⟩ := hce.out k p hp
      obtain ⟨f3, f4⟩ := hce'.out k p hp
      have e1 := (hB.cell (p := ⟨g, off + k * 2, none⟩) hgl).trans f1
      have e2 := (hB.cell (p := ⟨g, off + k * 2 + 1, none⟩) hgl).trans f2
      have e3 := (hB.cell (p := ⟨g', off' + k * 2, none⟩) hgl').trans f3
      have e4 := (hB.cell (p := ⟨g', off' + k * 2 + 1, none⟩) hgl').trans f4
      have y1 : (0 : Int) ≤ (k : Int) := by omega
      have y2 : (k : Int) < (n : Int) := by omega
      clear f1 f2 f3 f4 hp
      go_wp2_with fail
      go_quiet (fail)
      go_wp2
      exact ⟨⟨k + 1, by omega, by go_num, below_drewN' hB _⟩, by simp [intOf]; omega⟩
    · go_wp2
      go_ret
      exact ⟨rfl, hB⟩
end Go.Proofs.Ytfnmncghgmnaaaa
