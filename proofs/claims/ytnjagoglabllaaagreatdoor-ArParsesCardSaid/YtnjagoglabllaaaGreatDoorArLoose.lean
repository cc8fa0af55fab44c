/-
  Bytes that were answered may be written over. Conditions: at most 2^40 bytes.
-/
import Derived.Test.YtnjagoglabllaaaGreatDoorArLive
namespace Go.Proofs.YtnjagoglabllaaaGreatDoor
open Go.RowKit

/-- Bytes in a row of the call's own, whatever stands there. -/
def XLoose (w : World) (B : Nat) (v : Value) (n : Nat) : Prop :=
  ∃ a c, v = .slice a n c ∧ n ≤ 1099511627776 ∧ (0 < n → ∃ b cur m, a = some ⟨b, 0, none⟩ ∧ B ≤ b ∧ w.heap[b]? = some (.cells cur 5 m) ∧ (m = (0, 0) ∨ m = (n, n + 1)) ∧ ∀ k, k < n → ∃ u : UInt8, cur[k]? = some (.int .u8 u.toNat))
theorem OutX.loose {w : World} {B : Nat} {v : Value} {d : Bs} (h : OutX w B v d) (hl : d.length ≤ 1099511627776) : XLoose w B v d.length := by
  rcases h with ⟨rfl, rfl⟩ | ⟨hp, h | ⟨g, rfl, hB, hc⟩⟩
  · exact ⟨none, 0, rfl, hl, fun h => absurd h (Nat.lt_irrefl _)⟩
  · rcases h.2 with ⟨rfl, h0⟩ | ⟨g, cap, cur, rfl, hB, hc, hn, hm, hs, ht⟩
    · omega
    · refine ⟨_, cap, rfl, hl, fun _ => ⟨g, cur, (0, 0), rfl, hB, hc, Or.inl rfl, fun k hk => ?_⟩⟩
      rw [Nat.mul_one] at ht
      have e : (ucells d)[k]? = some (.int .u8 (d[k]'hk).toNat) := ucells_get (List.getElem?_eq_getElem hk)
      rw [← ht, List.getElem?_take, if_pos hk, Array.getElem?_toList] at e
      exact ⟨_, e⟩
  · refine ⟨_, _, rfl, hl, fun _ => ⟨g, _, _, rfl, hB, hc, Or.inr rfl, fun k hk => ⟨d[k]'hk, ?_⟩⟩⟩
    have e : (ucells d)[k]? = some (.int .u8 (d[k]'hk).toNat) := ucells_get (List.getElem?_eq_getElem hk)
    simpa using e
theorem XLoose.at {w : World} {B n k : Nat} {a : Option Addr} {c : Nat} (h : XLoose w B (.slice a n c) n) (hk : k < n) : ∃ b, ∃ u : UInt8, a = some ⟨b, 0, none⟩ ∧ B ≤ b ∧ b < w.heap.size ∧ w.cell? ⟨b, k, none⟩ = some (.int .u8 u.toNat) ∧ w.frozen? ⟨b, k, none⟩ = false := by
  obtain ⟨a', c', e, h1, h2⟩ := h
  injection e with e1 e2 e3
  subst e1
  obtain ⟨b, cur, m, ha, hB, hc, hm, hu⟩ := h2 (by omega)
  obtain ⟨u, hu⟩ := hu k hk
  refine ⟨b, u, ha, hB, heap_lt hc, by rw [cell_of_row w b k cur 5 _ hc]; exact hu, ?_⟩
  rcases hm with rfl | rfl
  · simp [World.frozen?, hc]
  · simp [World.frozen?, hc]; omega
theorem XLoose.put {w : World} {B n : Nat} {a : Option Addr} {c : Nat} (h : XLoose w B (.slice a n c) n) (b k : Nat) (ha : a = some ⟨b, 0, none⟩) (u : UInt8) : XLoose (w.setCell ⟨b, k, none⟩ (.int .u8 u.toNat)) B (.slice a n c) n := by
  obtain ⟨a', c', e, h1, h2⟩ := h
  refine ⟨a', c', e, h1, fun hn => ?_⟩
  injection e with e1 e2 e3
  subst e1
  obtain ⟨b', cur, m, ha', hB, hc, hm, hu⟩ := h2 hn
  rw [ha] at ha'
  injection ha' with ha'
  injection ha' with ha'
  subst ha'
  refine ⟨b, cur.setIfInBounds k (.int .u8 u.toNat), m, ha, hB, ?_, hm, fun j hj => ?_⟩
  · unfold World.setCell
    simp only [Array.getElem?_modify, if_true]
    rw [hc]; rfl
  · obtain ⟨u', hu⟩ := hu j hj
    rw [Array.getElem?_setIfInBounds]
    by_cases e2 : k = j
    · rw [if_pos e2]
      have : k < cur.size := by rw [e2]; exact (Array.getElem?_eq_some_iff.1 hu).1
      rw [if_pos this]; exact ⟨u, rfl⟩
    · rw [if_neg e2]; exact ⟨u', hu⟩
theorem loose_below {w w' : World} {B b k : Nat} {v : Value} (h : Below B w w') (hB : B ≤ b) : Below B w (w'.setCell ⟨b, k, none⟩ v) := h.setCell (p := ⟨b, k, none⟩) hB v
theorem arch_out (l : List Mem) : (archP l).1.length ≤ 65536 := by
  unfold archP
  split
  · exact Nat.zero_le _
  · split
    · exact Nat.zero_le _
    · rename_i h1 h2
      rw [arch_len (by simpa using h2) (by omega)]; omega
end Go.Proofs.YtnjagoglabllaaaGreatDoor
