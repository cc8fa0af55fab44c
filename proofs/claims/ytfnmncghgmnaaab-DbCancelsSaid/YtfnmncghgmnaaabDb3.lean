/-
  Are two lists of strings the same (44), have two rules the same targets and prerequisites (38)? Conditions: none.
-/
import Derived.Test.YtfnmncghgmnaaabDb2
namespace Go.Proofs.Ytfnmncghgmnaaab
open Go.RowKit

theorem equal_calls (v u : Value) (l m : List ByteArray) (w : World) (h : StrsAt w v l) (h' : StrsAt w u m) :
    Calls Try.prog 44 #[v, u] w fun e w' => e = .returned (.bool (decide (l = m))) ∧ ∃ q, w' = w.drewN q := by
  obtain ⟨a, n, c, rfl, hn, hc, hm, hcell, _⟩ := h
  obtain ⟨a', n', c', rfl, hn', hc', hm', hcell', _⟩ := h'
  unfold maxLen at hm hm'
  by_cases hne : n = n'
  · subst hne
    by_cases h0 : 0 < n
    · obtain ⟨b, off, rfl, hb, hcells⟩ := hcell h0
      obtain ⟨b', off', rfl, hb', hcells'⟩ := hcell' h0
      refine (Try.slices_Equal_string b off n c b' off' n c' l m w (by omega) (by omega) (by omega) (by omega) (fun j hj => ?_) (fun j hj => ?_)).mono ?_
      · rw [hcells j l[j] (List.getElem?_eq_getElem hj)]; simp [List.getD, List.getElem?_eq_getElem hj]
      · rw [hcells' j m[j] (List.getElem?_eq_getElem hj)]; simp [List.getD, List.getElem?_eq_getElem hj]
      · rintro e w' ⟨rfl, q, rfl⟩
        exact ⟨by rw [List.take_of_length_le (by omega), List.take_of_length_le (by omega)], q, rfl⟩
    · have hz : n = 0 := by omega
      have hl : l = [] := List.length_eq_zero_iff.1 (by omega)
      have hl' : m = [] := List.length_eq_zero_iff.1 (by omega)
      subst hz; subst hl; subst hl'
      refine (Try.slices_Equal_string_empty a a' c 0 c' w (by omega)).mono ?_
      rintro e w' ⟨rfl, rfl⟩
      exact ⟨rfl, 0, rfl⟩
  · have hlm : l ≠ m := fun e => hne (by rw [hn, hn', e])
    refine (Try.slices_Equal_string_lens a a' n c n' c' w hne).mono ?_
    rintro e w' ⟨rfl, rfl⟩
    exact ⟨by rw [decide_eq_false hlm], 0, rfl⟩
def rcells' (r : Ru) (t p o rc : Value) : Array Value := #[t, p, o, .bool r.double, .bool r.pattern, .bool r.terminal, .string r.static, rc, .bool r.has, .string r.again, .bool r.builtin]
set_option maxHeartbeats 1000000 in
theorem alike_calls (r r' : Ru) (t p o rc t' p' o' rc' : Value) (w : World) (h : RuAt w r t p o rc) (h' : RuAt w r' t' p' o' rc') :
    Calls Try.prog 38 #[.agg (rcells r t p o rc), .agg (rcells r' t' p' o' rc')] w fun e w' => e = .returned (.bool (decide (r.targets = r'.targets) && decide (r.prereqs = r'.prereqs))) ∧ Below w.heap.size w w' := by
  have k1 := Lib.hid h.1
  have k2 := Lib.hid h'.1
  have k3 := Lib.hid h.2.1
  have k4 := Lib.hid h'.2.1
  clear h h'
  unfold rcells
  generalize r.targets = T at k1 ⊢
  generalize r'.targets = T' at k2 ⊢
  generalize r.prereqs = P at k3 ⊢
  generalize r'.prereqs = P' at k4 ⊢
  go_enter Try.func38, Try.ntmps38
  go_wp2_with fail
  have hb0 : Below w.heap.size w _ := below_al (o := .cells (rcells' r' t' p' o' rc') 43) (below_al (o := .cells (rcells' r t p o rc) 43) (Below.refl w.heap.size w))
  unfold rcells' at hb0
  refine (equal_calls t t' T T' _ (k1.out.below hb0) (k2.out.below hb0)).mono ?_
  rintro e w1 ⟨rfl, q, rfl⟩
  have hb1 := below_drewN' hb0 q
  by_cases hx : T = T'
  · rw [decide_eq_true hx]
    go_wp2_with fail
    refine (equal_calls p p' P P' _ (k3.out.below hb1) (k4.out.below hb1)).mono ?_
    rintro e w1 ⟨rfl, q', rfl⟩
    have hb2 := below_drewN' hb1 q'
    go_wp2
    go_ret
    exact ⟨by simp [hx], below_drewN' hb0 _⟩
  · rw [decide_eq_false hx]
    go_wp2
    go_ret
    exact ⟨by simp [hx], hb1⟩
end Go.Proofs.Ytfnmncghgmnaaab
