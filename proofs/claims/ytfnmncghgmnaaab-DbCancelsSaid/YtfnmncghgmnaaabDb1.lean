/-
  Lists of strings in db: is one in a list (33), a copy without spare room (35). Conditions: lists of at most a million strings.
-/
import Derived.Test.YtfnmncghgmnaaabBase
import Derived.Test.YtfnmncghgmnaaabShelf
namespace Go.Proofs.Ytfnmncghgmnaaab
open Go.RowKit

theorem contains_calls (v : Value) (l : List ByteArray) (x : ByteArray) (w : World) (h : StrsAt w v l) :
    Calls Try.prog 33 #[v, .string x] w fun e w' => e = .returned (.bool (inL x l)) ∧ w = w' := by
  obtain ⟨a, n, c, rfl, hn, hc, hm, hcell, _⟩ := h
  unfold maxLen at hm
  by_cases h0 : 0 < n
  · obtain ⟨b, off, rfl, hb, hcells⟩ := hcell h0
    refine (Try.slices_Contains_string b off n c l x w (by omega) (by omega) (fun j hj => ?_)).mono ?_
    · rw [hcells j l[j] (List.getElem?_eq_getElem hj)]
      simp [List.getD, List.getElem?_eq_getElem hj]
    · rintro e w' ⟨rfl, rfl⟩
      refine ⟨?_, rfl⟩
      rw [List.take_of_length_le (by omega), show Lib.containsS l x = inL x l by rw [Bool.eq_iff_iff, Lib.containsS_iff, inL_iff]]
  · have hz : n = 0 := by omega
    have hl : l = [] := List.length_eq_zero_iff.1 (by omega)
    subst hz; subst hl
    refine (Try.slices_Contains_string_empty a c x w).mono ?_
    rintro e w' ⟨rfl, rfl⟩
    exact ⟨rfl, rfl⟩

/-- The slice's array is new. -/
def NewAt (base : Nat) (v : Value) : Prop := ∀ a n c, v = .slice (some a) n c → base ≤ a.block

/-- A slice that the call owns, cut to its length: opened. -/
theorem own_cases {w : World} {base : Nat} {v : Value} {l : List ByteArray} (h : w.ownsRow base 9 1 v l.length (scells l)) :
    (v = .slice none 0 0 ∧ l = []) ∨ ∃ g cap, v = .slice (some ⟨g, 0, none⟩) l.length cap ∧ base ≤ g ∧ l.length ≤ cap ∧ cap ≤ maxLen ∧ StrsAt w (.slice (some ⟨g, 0, none⟩) l.length l.length) l := by
  have hs := strsAt_own h
  obtain ⟨hl, h⟩ := h
  rcases h with ⟨rfl, hn⟩ | ⟨g, cap, cur, rfl, hb, hg, hn, hm, _⟩
  · exact Or.inl ⟨rfl, List.length_eq_zero_iff.1 hn⟩
  · right
    refine ⟨g, cap, rfl, hb, hn, hm, ?_⟩
    obtain ⟨a, n, c, e, h2, h3, h4, h5, h6⟩ := hs
    injection e with e1 e2 e3
    subst e1 e2 e3
    exact ⟨_, _, _, rfl, rfl, Nat.le_refl _, by omega, h5, fun h => by cases h⟩

set_option maxHeartbeats 1000000 in
theorem cut_calls (v : Value) (l : List ByteArray) (w : World) (h : StrsAt w v l) (hl : l.length ≤ 1000000) :
    Calls Try.prog 35 #[v] w fun e w' => ∃ v', e = .returned v' ∧ StrsAt w' v' l ∧ NewAt w.heap.size v' ∧ Below w.heap.size w w' := by
  obtain ⟨i0, hi, hz0, hz1, hz2⟩ := info_parts info9
  obtain ⟨a, n, c, rfl, hn0, hc, hm, hcell, hnone⟩ := h
  have hnl : n ≤ 1000000 := by omega
  unfold maxLen at hm
  have hfit0 : (0 + n) * 16 ≤ 140737488355328 ∧ 0 + n ≤ maxLen := by unfold maxLen; omega
  have hsl : (scells l).length = n * 1 := by rw [scells, List.length_map, ← hn0, Nat.mul_one]
  have hsl' := Lib.hid hsl
  have hn := Lib.hid hn0
  have hce := Lib.hid hcell
  clear hn0 hcell hsl hl
  cases a with
  | none =>
    obtain rfl : c = 0 := hnone rfl
    obtain rfl : n = 0 := by omega
    have hle : l = [] := List.length_eq_zero_iff.1 hn.out.symm
    subst hle
    clear hnone
    go_enter Try.func35, Try.ntmps35
    go_wp2
    go_ret
    exact ⟨_, rfl, ⟨none, 0, 0, rfl, rfl, Nat.le_refl _, by unfold maxLen; omega, fun h => by omega, fun _ => rfl⟩, fun a n c e => by simp at e, Below.refl _ _⟩
  | some ad =>
    clear hnone
    have hnews' := Lib.hid (show ∀ (j : Nat) (u : Value), (scells l)[j]? = some u → w.cell? (ad.add j) = some u by
      intro j u hu
      have hj : j < l.length := by have := (List.getElem?_eq_some_iff.1 hu).1; simpa [scells] using this
      obtain ⟨b, off, e, hb, hcells⟩ := hce.out (by rw [hn.out]; omega)
      injection e with e
      subst e
      have ha : (⟨b, off, none⟩ : Addr).add j = ⟨b, off + j, none⟩ := by unfold Addr.add; split <;> simp_all
      rw [ha]
      simp only [scells, List.getElem?_map, List.getElem?_eq_getElem hj, Option.map_some] at hu
      injection hu with hu
      rw [← hu]
      exact hcells j _ (List.getElem?_eq_getElem hj))
    have hone' := Lib.hid (show ∀ u ∈ scells l, u.oneCell' = true by
      intro u hu
      simp only [scells, List.mem_map] at hu
      obtain ⟨s, _, rfl⟩ := hu
      rfl)
    go_enter Try.func35, Try.ntmps35
    go_wp2_with (at_builtin; refine wpList_append_own _ rfl (.const (.slice none 0 0)) (.tmp 3) 25 rfl w.heap.size 9 i0 _ 1 16 Try.underlying25 hi hz0 hz1 hz2 rfl (by decide) _ _ _ rfl (World.ownsRow_nil _ _ _ _) ad n c (scells l) rfl hsl'.out hnews'.out hone'.out hfit0.2 hfit0.1 (Nat.le_refl _) ?_; intro v' w2 hown' hgrow _; rw [Nat.zero_add, List.nil_append, hn.out] at hown'; have hB := Lib.hid ((Below.refl w.heap.size w).grown hgrow (Nat.le_refl _) (fun k e => by cases e)); clear hgrow; rcases own_cases hown' with ⟨rfl, hl0⟩ | ⟨g, cap, rfl, hg1, hg2, hg3, hg4⟩)
    · subst hl0
      go_wp2
      go_ret
      exact ⟨_, rfl, ⟨none, 0, 0, rfl, rfl, Nat.le_refl _, by unfold maxLen; omega, fun h => by omega, fun _ => rfl⟩, fun a n c e => by simp at e, hB.out⟩
    · have hg4' := Lib.hid hg4
      unfold maxLen at hg3
      have e2 : (l.length : Int).toNat = l.length := by omega
      clear hg4
      go_wp2
      go_ret
      exact ⟨_, rfl, hg4'.out, fun a n c e => by simp at e; obtain ⟨rfl, _⟩ := e; exact hg1, hB.out⟩
end Go.Proofs.Ytfnmncghgmnaaab
