/-
  The lawbook's own fixed answers (function 9). Conditions: none.
-/
import Derived.Test.YtfnmncghgmnaaaaAuto8
namespace Go.Proofs.Ytfnmncghgmnaaaa
open Go.RowKit

theorem strs_block (w : World) (t : TypeId) (cs : Array Value) (n g : Nat) (l : List ByteArray) (hc : cs = (scells l).toArray) (hn : n = l.length) (hg : g = w.heap.size) (hm : n ≤ 100) : StrsAt (w.alloc (.cells cs t)) (.slice (some ⟨g, 0, none⟩) n n) l := by
  subst hc hn hg
  refine ⟨_, _, _, rfl, rfl, Nat.le_refl _, by unfold maxLen; omega, fun _ => ⟨w.heap.size, 0, rfl, by simp, fun k s hs => ?_⟩, fun h => by cases h⟩
  unfold World.cell?
  rw [heap_alloc_new]
  simp only [Option.isSome_none, Bool.false_eq_true, if_false]
  simp [scells, hs]

def aP : List (ByteArray × ByteArray) := autoP ⟨#[120]⟩ ⟨#[120]⟩ [⟨#[120, 46, 99]⟩, ⟨#[120, 46, 104]⟩, ⟨#[120, 46, 99]⟩] [⟨#[100]⟩] [⟨#[120, 46, 104]⟩]
theorem aP_len : aP.length = 8 := by decide +kernel
theorem aP_at : aP[0]? = some (⟨#[64]⟩, ⟨#[120]⟩) ∧ aP[2]? = some (⟨#[60]⟩, ⟨#[120, 46, 99]⟩) ∧ aP[3]? = some (⟨#[94]⟩, ⟨#[120, 46, 99, 32, 120, 46, 104]⟩) ∧
    aP[4]? = some (⟨#[43]⟩, ⟨#[120, 46, 99, 32, 120, 46, 104, 32, 120, 46, 99]⟩) ∧ aP[6]? = some (⟨#[124]⟩, ⟨#[100]⟩) := by decide +kernel

set_option maxHeartbeats 1000000 in
theorem alive_calls (w : World) :
    Calls Try.prog 9 #[] w fun e w' => e = .returned (.bool true) ∧ Below w.heap.size w w' := by
  go_enter Try.func9, Try.ntmps9
  go_wp2_with fail
  refine (vars_calls _ _ _ _ _ [⟨#[120, 46, 99]⟩, ⟨#[120, 46, 104]⟩, ⟨#[120, 46, 99]⟩] [⟨#[100]⟩] [⟨#[120, 46, 104]⟩] _ (by decide)
    (((strs_block w 9 _ 3 w.heap.size _ rfl rfl rfl (by omega)).below (below_al (Below.refl _ _))).below (below_al (Below.refl _ _)))
    ((strs_block _ 9 _ 1 (w.heap.size + 1) _ rfl rfl (by simp) (by omega)).below (below_al (Below.refl _ _)))
    (strs_block _ 9 _ 1 (w.heap.size + 1 + 1) _ rfl rfl (by simp) (by omega)) (by decide +kernel) (by decide +kernel) (by decide +kernel)).mono ?_
  rintro e w1 ⟨v, rfl, hp, hb⟩
  have hB := hb.mono' (below_al (below_al (below_al (Below.refl _ _))))
  clear hb
  have hp2 : PairsAt w1 v aP := hp
  clear hp
  obtain ⟨g, off, c, rfl, hc, hm, hgl, hcells⟩ := hp2
  have h0 := (hcells 0 _ aP_at.1).2
  have h2 := (hcells 2 _ aP_at.2.1).2
  have h3 := (hcells 3 _ aP_at.2.2.1).2
  have h4 := (hcells 4 _ aP_at.2.2.2.1).2
  have h6 := (hcells 6 _ aP_at.2.2.2.2).2
  rw [aP_len] at hc ⊢
  clear hcells
  go_wp2
  go_ret
  exact ⟨rfl, hB⟩
end Go.Proofs.Ytfnmncghgmnaaaa
