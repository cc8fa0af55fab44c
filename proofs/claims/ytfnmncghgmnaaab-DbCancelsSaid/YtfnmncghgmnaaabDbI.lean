/-
  small (16). Conditions: none.
-/
import Derived.Test.YtfnmncghgmnaaabDbH
namespace Go.Proofs.Ytfnmncghgmnaaab
open Go.RowKit

def zRu : Ru := ⟨[], [], [], false, false, false, ⟨#[]⟩, [], false, ⟨#[]⟩, false⟩
def smR1 : Ru := { zRu with targets := [⟨#[46, 99, 46, 111]⟩], has := true, recipe := [⟨#[120]⟩] }
def smR2 : Ru := { zRu with targets := [⟨#[46, 80, 72, 79, 78, 89]⟩], prereqs := [⟨#[97]⟩] }
def smR3 : Ru := { zRu with targets := [⟨#[97, 108, 108]⟩], prereqs := [⟨#[98]⟩] }
def smallRs : List Ru := [smR1, smR2, smR3]
/-- A slice of rules that a block was made of. -/
theorem rows_block (w : World) (cs : Array Value) (n g : Nat) (xs : List Pl) (hc : cs = (flat xs).toArray) (hn : n = xs.length) (hg : g = w.heap.size) (hm : n ≤ 1000) : RowAt (w.alloc (.cells cs 43)) (.slice (some ⟨g, 0, none⟩) n n) xs := by
  subst hc hn hg
  have h := World.ownsRow_lit (base := 0) (e := 43) (size := 11) w (flat xs).toArray xs.length (Nat.zero_le _) (by unfold maxLen; omega) (by simp [flat_length])
  exact rowAt_own (by simpa using h)

set_option maxRecDepth 100000 in
set_option maxHeartbeats 2000000 in
theorem small_calls (w : World) :
    Calls Try.prog 16 #[] w fun e w' => ∃ v xs, e = .returned (.agg #[v, .slice none 0 0, .slice none 0 0, .slice none 0 0, .slice none 0 0, .string ⟨#[]⟩, .slice none 0 0]) ∧ RulesAt w' v xs ∧ xs.map Pl.r = smallRs ∧ Below w.heap.size w w' := by
  go_enter Try.func16, Try.ntmps16
  go_wp2
  refine bodyPost_ret (v := .agg #[.slice (some ⟨w.heap.size + 1 + 1 + 1 + 1 + 1 + 1 + 1, 0, none⟩) 3 3, .slice none 0 0, .slice none 0 0, .slice none 0 0, .slice none 0 0, .string ⟨#[]⟩, .slice none 0 0]) (by simp [results, Try.results16, go_sem]) rfl ?_
  refine ⟨_, [⟨smR1, .slice (some ⟨w.heap.size + 1, 0, none⟩) 1 1, .slice none 0 0, .slice none 0 0, .slice (some ⟨w.heap.size + 1 + 1, 0, none⟩) 1 1⟩, ⟨smR2, .slice (some ⟨w.heap.size + 1 + 1 + 1, 0, none⟩) 1 1, .slice (some ⟨w.heap.size + 1 + 1 + 1 + 1, 0, none⟩) 1 1, .slice none 0 0, .slice none 0 0⟩, ⟨smR3, .slice (some ⟨w.heap.size + 1 + 1 + 1 + 1 + 1, 0, none⟩) 1 1, .slice (some ⟨w.heap.size + 1 + 1 + 1 + 1 + 1 + 1, 0, none⟩) 1 1, .slice none 0 0, .slice none 0 0⟩], rfl, ⟨rows_block _ _ 3 _ _ rfl rfl (by simp) (by omega), ?_⟩, rfl, (below_al (below_al (below_al (below_al (below_al (below_al (below_al (below_al (Below.refl _ _)))))))))⟩
  intro x hx
  simp only [List.mem_cons, List.not_mem_nil, or_false] at hx
  rcases hx with rfl | rfl | rfl
  · exact ⟨(strs_block _ 9 _ 1 _ [⟨#[46, 99, 46, 111]⟩] rfl rfl (by simp) (by omega)).below (below_al (below_al (below_al (below_al (below_al (below_al (Below.refl _ _))))))), strsAt_none _, strsAt_none _, (strs_block _ 9 _ 1 _ [⟨#[120]⟩] rfl rfl (by simp) (by omega)).below (below_al (below_al (below_al (below_al (below_al (Below.refl _ _))))))⟩
  · exact ⟨(strs_block _ 9 _ 1 _ [⟨#[46, 80, 72, 79, 78, 89]⟩] rfl rfl (by simp) (by omega)).below (below_al (below_al (below_al (below_al (Below.refl _ _))))), (strs_block _ 9 _ 1 _ [⟨#[97]⟩] rfl rfl (by simp) (by omega)).below (below_al (below_al (below_al (Below.refl _ _)))), strsAt_none _, strsAt_none _⟩
  · exact ⟨(strs_block _ 9 _ 1 _ [⟨#[97, 108, 108]⟩] rfl rfl (by simp) (by omega)).below (below_al (below_al (Below.refl _ _))), (strs_block _ 9 _ 1 _ [⟨#[98]⟩] rfl rfl (by simp) (by omega)).below (below_al (Below.refl _ _)), strsAt_none _, strsAt_none _⟩
end Go.Proofs.Ytfnmncghgmnaaab
