/-
  alive (5). Conditions: none.
-/
import Derived.Test.YtfnmncghgmnaaabDbI
namespace Go.Proofs.Ytfnmncghgmnaaab
open Go.RowKit

def pr0 : Ru := ⟨[⟨#[37, 46, 111]⟩], [⟨#[37, 46, 99]⟩], [], false, true, false, ⟨#[]⟩, [⟨#[120]⟩], true, ⟨#[]⟩, false⟩
def aliveRs : List Ru := [pr0, smR2, smR3, bR1, bR2, bR3, bR4]
theorem alive_rules : newRules false smallRs = aliveRs := by kernel_rfl
theorem alive_impl : (implR aliveRs 3 7).length = 4 := by kernel_rfl
theorem alive_a : namedR aliveRs ⟨#[97]⟩ = false := by kernel_rfl
theorem alive_b : namedR aliveRs ⟨#[98]⟩ = true := by kernel_rfl
theorem alive_s : smallRs.any (isPhony ⟨#[97]⟩) = true := by kernel_rfl
theorem small_small : BaseSmall smallRs := by
  refine ⟨by decide, by decide +kernel, ?_, ?_, ?_, ?_⟩ <;> intro r hr <;> simp only [smallRs, List.mem_cons, List.not_mem_nil, or_false] at hr <;> rcases hr with rfl | rfl | rfl <;> simp [RuSmall, smR1, smR2, smR3, zRu, big] <;> decide
theorem alive_small : ∀ r ∈ aliveRs, RuSmall r := by
  intro r hr
  simp only [aliveRs, List.mem_cons, List.not_mem_nil, or_false] at hr
  rcases hr with rfl | rfl | rfl | rfl | rfl | rfl | rfl <;> simp [RuSmall, smR2, smR3, zRu, pr0, bR1, bR2, bR3, bR4, madeR]

set_option maxRecDepth 100000 in
set_option maxHeartbeats 2000000 in
theorem alive_calls (w : World) : Calls Try.prog 5 #[] w fun e w' => e = .returned (.bool true) ∧ Below w.heap.size w w' := by
  go_enter Try.func5, Try.ntmps5
  go_wp2_with fail
  refine (small_calls w).mono ?_
  rintro e w1 ⟨v, xs, rfl, hR, hxs, hB1⟩
  have hB1' := Lib.hid hB1
  have hR' := Lib.hid hR
  have hl3 : xs.length = 3 := by rw [← List.length_map (f := Pl.r), hxs]; rfl
  have hxs' := Lib.hid hxs
  clear hB1 hR hxs
  go_wp2_with fail
  refine (new_calls v none none none none none 0 0 0 0 0 0 0 0 0 0 ⟨#[]⟩ xs false w1 hR'.out (by rw [hxs'.out]; exact small_small)).mono ?_
  rintro e w2 ⟨bd, rfl, hB2, hD⟩
  rw [hxs'.out, alive_rules, hl3] at hD
  have hD2 := Lib.hid hD
  have hB2' := Lib.hid (hB2.mono' hB1'.out)
  clear hD hB2 hl3
  go_wp2_with fail
  refine (rules_calls _ bd 3 aliveRs smallRs _ _ w2 hD2.out alive_small (by decide)).mono ?_
  rintro e w3 ⟨v', Z, rfl, hL, hZ⟩
  have hD3 := Lib.hid (hD2.out.below hL.below)
  have hB3 := Lib.hid (hL.below.mono' hB2'.out)
  have hZl : Z.length = 7 := by rw [← List.length_map (f := Pl.r), hZ]; rfl
  obtain ⟨z0, hz0⟩ : ∃ z, Z[0]? = some z := ⟨_, List.getElem?_eq_getElem (by omega)⟩
  have hz0r : z0.r = pr0 := by
    have h1 : (Z.map Pl.r)[0]? = some z0.r := by simp [hz0]
    rw [hZ] at h1
    injection h1 with h1
    exact h1.symm
  obtain ⟨g, cap, rfl⟩ : ∃ g cap, v' = .slice (some ⟨g, 0, none⟩) 7 cap := by
    rcases hL.r.2 with ⟨rfl, h0⟩ | ⟨g, cap, cur, rfl, -⟩
    · omega
    · exact ⟨_, _, by rw [hZl]⟩
  have hcells : ∀ j, j < 11 → w3.cell? ⟨g, j, none⟩ = z0.cells[j]? := fun j hj => by
    have h1 := hL.r
    rw [hZl] at h1
    rw [h1.cellAt j (by omega)]
    have := flat_get Z 0 j z0 hz0 hj
    simpa using this
  have hza := (hL.all z0 (List.mem_of_getElem? hz0)).1
  obtain ⟨r, t, p, o, rc⟩ := z0
  obtain rfl : r = pr0 := hz0r
  obtain ⟨at1, nt1, ct1, et, -, -, -, hct, -⟩ := hza.1
  obtain ⟨ap1, np1, cp1, ep, -, -, -, hcp, -⟩ := hza.2.1
  have hnt : nt1 = 1 := by
    have h1 := hza.1
    change StrsAt _ _ pr0.targets at h1
    rw [et] at h1
    exact h1.len.1
  have hnp : np1 = 1 := by
    have h1 := hza.2.1
    change StrsAt _ _ pr0.prereqs at h1
    rw [ep] at h1
    exact h1.len.1
  subst hnt hnp
  obtain ⟨bt, ot, rfl, -, ht⟩ := hct (by omega)
  obtain ⟨bp, op, rfl, -, hp⟩ := hcp (by omega)
  have ht0 := ht 0 ⟨#[37, 46, 111]⟩ rfl
  have hp0 := hp 0 ⟨#[37, 46, 99]⟩ rfl
  rw [Nat.add_zero] at ht0 hp0
  dsimp only at et ep
  subst et ep
  have q4 : w3.cell? ⟨g, 4, none⟩ = some (.bool true) := hcells 4 (by omega)
  have q0 : w3.cell? ⟨g, 0, none⟩ = some (.slice (some ⟨bt, ot, none⟩) 1 ct1) := hcells 0 (by omega)
  have q1 : w3.cell? ⟨g, 1, none⟩ = some (.slice (some ⟨bp, op, none⟩) 1 cp1) := hcells 1 (by omega)
  clear hcells hza hct hcp ht hp hz0 hL hZ hZl hD2
  go_wp2_with fail
  refine (implicit_calls _ bd 3 aliveRs smallRs _ _ w3 hD3.out (by rw [show aliveRs.length = 7 from rfl, alive_impl]; omega)).mono ?_
  rintro e w4 ⟨v4, rfl, hI4, hB4⟩
  obtain ⟨a4, n4, c4, rfl, hn4, -⟩ := hI4
  rw [show aliveRs.length = 7 from rfl, alive_impl] at hn4
  subst hn4
  have hD4 := Lib.hid (hD3.out.below hB4)
  have hB4' := Lib.hid (hB4.mono' hB3.out)
  clear hB4
  go_wp2_with fail
  refine (special_phony_calls _ bd 3 aliveRs smallRs _ _ w4 hD4.out ⟨#[97]⟩).mono ?_
  rintro e w5 ⟨rfl, hB5⟩
  rw [alive_s]
  have hD5 := Lib.hid (hD4.out.below hB5)
  have hB5' := Lib.hid (hB5.mono' hB4'.out)
  clear hB5
  go_wp2_with fail
  refine (named_calls _ bd 3 aliveRs smallRs _ _ w5 hD5.out ⟨#[97]⟩ (by decide)).mono ?_
  rintro e w6 ⟨rfl, rfl⟩
  rw [alive_a]
  go_wp2_with fail
  refine (named_calls _ bd 3 aliveRs smallRs _ _ w5 hD5.out ⟨#[98]⟩ (by decide)).mono ?_
  rintro e w6 ⟨rfl, rfl⟩
  rw [alive_b]
  go_wp2
  go_ret
  exact ⟨rfl, hB5'.out⟩
end Go.Proofs.Ytfnmncghgmnaaab
