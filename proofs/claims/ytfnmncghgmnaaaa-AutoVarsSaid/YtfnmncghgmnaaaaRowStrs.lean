/-
  A slice of strings that came in, opened as a list of strings, each within the form's reach.
-/
import Derived.Test.YtfnmncghgmnaaaaRows
import Derived.Test.YtfnmncghgmnaaaaBase
import Derived.WalkKit
import Derived.ProofKit
import Derived.OpenShut
import Derived.SizedLaws
import Derived.SliceStrings
namespace Go.Proofs.Ytfnmncghgmnaaaa
open Go.ChangeShapes Go.WideShapes Go.ChangeAt Go.RowKit

theorem weights_strs {H : Type} (s : ByteArray) : ∀ l : List ByteArray, s ∈ l → s.size ∈ DataW.weightsAll (H := H) Try.prog 9 (strs l)
  | [], h => by simp at h
  | x :: l, h => by
    rw [strs, List.map_cons, DataW.weightsAll, List.mem_append]
    rcases List.mem_cons.1 h with rfl | h
    · left; simp [DataW.weights]
    · right; exact weights_strs s l h

theorem strs_open {H : Type} {enc : TypeId × Value → H} {w : World} {v : Value} {d : DataW H} {ps : List MemPlace} {r : Reach} {b0 : Nat} (hval : Value.okWide Try.prog w r b0 22 v)
    (h : DataW.Trod enc Try.prog w 0 (fun _ => true) true 22 v d ps) (hsz : ∀ n ∈ d.weights Try.prog 22, n ≤ reachBytes) : ∃ l, StrsAt w v l ∧ ∀ s ∈ l, s.size ≤ 140737488351232 := by
  obtain ⟨a0, len, cap, rfl⟩ := okWide_slice Try.underlying22 hval
  obtain ⟨fuel, hf⟩ := h
  rcases open_strings Try.underlying22 Try.underlying9 (by kernel_rfl) hf with ⟨hcs, hx⟩ | ⟨a, len', cap', ss, hcs, _, hl, hm, hz, hx, hcell, hws⟩
  · simp [Value.cells] at hcs
    obtain ⟨rfl, rfl, rfl⟩ := hcs
    exact ⟨[], ⟨none, 0, 0, rfl, rfl, Nat.le_refl _, by unfold maxLen; omega, fun h => by omega, fun _ => rfl⟩, by simp⟩
  · simp [Value.cells] at hcs
    obtain ⟨rfl, rfl, rfl⟩ := hcs
    simp at hz
    have hd : d = .slice (strs (ss.take len)) (strs (ss.drop len)) := congrArg Prod.fst hx
    refine ⟨ss.take len, ⟨some a, len, cap, rfl, by rw [List.length_take]; omega, hl, hm, fun h0 => ?_, fun h => by cases h⟩, fun s hs => ?_⟩
    · obtain ⟨b, off, sp⟩ := a
      have h1 := hcell 0 (by omega)
      have e0 : (⟨b, off, sp⟩ : Addr).add 0 = ⟨b, off, sp⟩ := rfl
      rw [e0] at h1
      have hb : b < w.heap.size := by
        unfold World.cell? at h1
        cases hg : w.heap[b]? with
        | none => rw [hg] at h1; simp at h1
        | some o => exact heap_lt hg
      have hsp : sp = none := by
        cases sp with
        | none => rfl
        | some x => unfold World.cell? at h1; split at h1 <;> simp at h1
      subst hsp
      refine ⟨b, off, rfl, hb, fun k s hk => ?_⟩
      have hk' : k < len := by have := (List.getElem?_eq_some_iff.1 hk).1; simp at this; omega
      have h2 := hcell k (by omega)
      have ad : (⟨b, off, none⟩ : Addr).add k = ⟨b, off + k, none⟩ := by unfold Addr.add; split <;> simp_all
      rw [ad] at h2
      rw [h2]
      rw [List.getElem?_take_of_lt hk'] at hk
      rw [List.getD_eq_getElem?_getD, hk]; rfl
    · refine hsz _ ?_
      rw [hd]
      simp only [DataW.weights, Try.underlying22]
      exact List.mem_cons_of_mem _ (List.mem_append_left _ (weights_strs s _ hs))
end Go.Proofs.Ytfnmncghgmnaaaa
