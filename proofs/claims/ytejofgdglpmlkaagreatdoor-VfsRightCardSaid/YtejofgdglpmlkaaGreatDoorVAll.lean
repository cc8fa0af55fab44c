/-
  A tree's nodes, well one after the other. Plain Lean. Conditions: none.
-/
import Derived.Test.YtejofgdglpmlkaaGreatDoorVBad
namespace Go.Proofs.YtejofgdglpmlkaaGreatDoor
open Go.RowKit

/-- All nodes ahead of k are well. -/
def okAll (clock : Int) (l : St) (k : Nat) : Prop := ∀ (j : Nat) (x : Bs × PN), j < k → l[j]? = some x → okNode clock (l.take j) x = true
theorem okAll.next {clock : Int} {l : St} {k : Nat} {x : Bs × PN} (h : okAll clock l k) (hx : l[k]? = some x) (ho : okNode clock (l.take k) x = true) : okAll clock l (k + 1) := by
  intro j y hj hy
  by_cases e : j = k
  · subst e; rw [hx] at hy; injection hy with hy; subst hy; exact ho
  · exact h j y (by omega) hy
theorem okAll.drop {clock : Int} {l : St} : ∀ {k : Nat}, k ≤ l.length → okAll clock l k → okFrom clock [] l = okFrom clock (l.take k) (l.drop k)
  | 0, _, _ => rfl
  | k + 1, hk, h => by
    have hx : l[k]? = some (l[k]'hk) := List.getElem?_eq_getElem hk
    rw [okAll.drop (k := k) (by omega) (fun j x hj hx => h j x (by omega) hx), okFrom_drop hx, h k _ (by omega) hx, Bool.true_and]
theorem okAll.bad {clock : Int} {l : St} {k : Nat} {x : Bs × PN} (h : okAll clock l k) (hx : l[k]? = some x) (hb : okNode clock (l.take k) x = false) : okFrom clock [] l = false := by
  have hk := (List.getElem?_eq_some_iff.1 hx).1
  rw [h.drop (by omega), okFrom_drop hx, hb, Bool.false_and]
theorem okAll.all {clock : Int} {l : St} (h : okAll clock l l.length) : okFrom clock [] l = true := by
  rw [h.drop (Nat.le_refl _), List.take_length, List.drop_length]; rfl
theorem rising_snoc {l : St} {x : Bs × PN} (h : Rising l) (hl : ∀ y, l.getLast? = some y → y.1 < x.1) : Rising (l ++ [x]) := by
  refine List.pairwise_append.2 ⟨h, List.pairwise_singleton _ _, fun y hy z hz => ?_⟩
  rw [List.mem_singleton] at hz
  subst hz
  rcases l.eq_nil_or_concat with e | ⟨a, u, e⟩
  · subst e; cases hy
  · rw [List.concat_eq_append] at e
    subst e
    have hu := hl u (by simp)
    rcases List.mem_append.1 hy with hy | hy
    · have := (List.pairwise_append.1 h).2.2 y hy u (by simp)
      exact List.lt_trans this hu
    · rw [List.mem_singleton] at hy; subst hy; exact hu
theorem okAll.rising {clock : Int} {l : St} : ∀ {k : Nat}, k ≤ l.length → okAll clock l k → Rising (l.take k)
  | 0, _, _ => List.Pairwise.nil
  | k + 1, hk, h => by
    have hx : l[k]? = some (l[k]'hk) := List.getElem?_eq_getElem hk
    rw [take_more hx]
    exact rising_snoc (okAll.rising (k := k) (by omega) (fun j x hj hx => h j x (by omega) hx)) (okNode_parts (h k _ (by omega) hx)).2.2.1

end Go.Proofs.YtejofgdglpmlkaaGreatDoor
