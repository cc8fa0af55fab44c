/-
  Members that a call has built may be written over. Conditions: at most 2^40 bytes each.
-/
import Derived.Test.YtnjagoglabllaaaGreatDoorArOwn
import Derived.Lib.SmallJoins
namespace Go.Proofs.YtnjagoglabllaaaGreatDoor
open Go.RowKit

/-- Members in a row of one's own that may be written over. -/
def MSpoil (w : World) (B hi : Nat) (nv : Value) (n : Nat) : Prop :=
  ∃ a c, nv = .slice a n c ∧ (0 < n → ∃ g cur, a = some ⟨g, 0, none⟩ ∧ B ≤ g ∧ g < hi ∧ w.heap[g]? = some (.cells cur 37 (0, 0)) ∧ n * 3 ≤ cur.size ∧ ∀ j, j < n → ∃ dv, cur[j * 3 + 2]? = some dv ∧ ULoose w B hi g dv)
theorem MSpoil.form {w : World} {B hi n : Nat} {nv : Value} (h : MSpoil w B hi nv n) : ∃ a c, nv = .slice a n c := by obtain ⟨a, c, e, _⟩ := h; exact ⟨a, c, e⟩
theorem MemsOwn.spoil {w : World} {B : Nat} {v : Value} {L : List NV} (h : MemsOwn w B v L) (hd : ∀ x ∈ L, x.m.data.length ≤ 1099511627776) : MSpoil w B w.heap.size v L.length := by
  rcases h.1.2 with ⟨rfl, hn⟩ | ⟨g, cap, cur, rfl, hbg, hg, hn, hm, hs, ht⟩
  · exact ⟨none, 0, by rw [hn], fun h0 => by omega⟩
  · refine ⟨_, cap, rfl, fun _ => ⟨g, cur, rfl, hbg, heap_lt hg, hg, by omega, fun j hj => ?_⟩⟩
    obtain ⟨x, hx⟩ : ∃ x, L[j]? = some x := ⟨_, List.getElem?_eq_getElem hj⟩
    refine ⟨x.dv, ?_, ?_⟩
    · have h1 := nflat_get L j 2 x hx (by omega)
      rw [← ht, List.getElem?_take_of_lt (by omega)] at h1
      rw [← Array.getElem?_toList, h1]; rfl
    · have hu := h.2 x (List.mem_of_getElem? hx)
      obtain ⟨a, c, e, _, _, _, h0⟩ := hu.1
      refine ⟨a, _, c, e, hd x (List.mem_of_getElem? hx), fun hl => ?_⟩
      obtain ⟨b, off, e1, hs, hb, hc⟩ := h0 hl
      subst e1
      obtain ⟨cur', hcur⟩ := hu.2 b off _ c e hl
      refine ⟨b, off, cur', rfl, hs.1, hb, fun e' => hs.2.2 (by simp [Value.ownBlock, e']), hcur, fun k hk => ?_⟩
      obtain ⟨y, hy⟩ : ∃ y, x.m.data[k]? = some y := ⟨_, List.getElem?_eq_getElem hk⟩
      have := hc k y hy
      rw [cell_of_row w b (off + k) cur' 5 (0, 0) hcur] at this
      exact ⟨y, this⟩
/-- What the loops over members keep. -/
structure MInv (w : World) (B hi : Nat) (nv : Value) (n : Nat) (wr : World) : Prop where make ::
  below : Below B w wr
  at' : MSpoil wr B hi nv n
theorem MInv.name {w wr : World} {B hi n c g i : Nat} {v : Value} (h : MInv w B hi (.slice (some ⟨g, 0, none⟩) n c) n wr) (hi' : i < n) : MInv w B hi (.slice (some ⟨g, 0, none⟩) n c) n (wr.setCell ⟨g, i * 3, none⟩ v) := by
  obtain ⟨a, c', e, h0⟩ := h.at'
  injection e with e1 e2 e3
  subst e1
  obtain ⟨g', cur, e', hB, hh, hg, hs, hj⟩ := h0 (by omega)
  injection e' with e'; injection e' with e'
  subst e'
  refine ⟨h.below.setCell (p := ⟨g, i * 3, none⟩) hB v, some ⟨g, 0, none⟩, c, rfl, fun _ => ⟨g, _, rfl, hB, hh, set_heap hg _ v, by simpa using hs, fun j hj' => ?_⟩⟩
  obtain ⟨dv, k1, k2⟩ := hj j hj'
  refine ⟨dv, by rw [Array.getElem?_setIfInBounds, if_neg (by omega)]; exact k1, k2.of_heap (fun j' _ _ hne => Below.heap_setCell _ _ _ _ (fun e => hne (by simpa using e)))⟩
theorem MInv.byte {w wr : World} {B hi n c g b o : Nat} {u : UInt8} (h : MInv w B hi (.slice (some ⟨g, 0, none⟩) n c) n wr) (hb : B ≤ b) (hne : b ≠ g) : MInv w B hi (.slice (some ⟨g, 0, none⟩) n c) n (wr.setCell ⟨b, o, none⟩ (.int .u8 u.toNat)) := by
  refine ⟨h.below.setCell (p := ⟨b, o, none⟩) hb _, ?_⟩
  obtain ⟨a, c', e, h0⟩ := h.at'
  injection e with e1 e2 e3
  subst e1
  refine ⟨some ⟨g, 0, none⟩, c, rfl, fun hn => ?_⟩
  obtain ⟨g', cur, e', hB, hh, hg, hs, hj⟩ := h0 hn
  injection e' with e'; injection e' with e'
  subst e'
  refine ⟨g, cur, rfl, hB, hh, ((set_grown wr b o _).block g (heap_lt hg) (fun e' => hne (by injection e' with e'; exact e'.symm))).trans hg, hs, fun j hj' => ?_⟩
  obtain ⟨dv, k1, k2⟩ := hj j hj'
  exact ⟨dv, k1, k2.put b o u⟩
theorem MInv.drew {w wr : World} {B hi n : Nat} {nv : Value} (h : MInv w B hi nv n wr) (k : Nat) : MInv w B hi nv n (wr.drewN k) := by
  refine ⟨below_drewN' h.below k, ?_⟩
  obtain ⟨a, c, e, h0⟩ := h.at'
  refine ⟨a, c, e, fun hn => ?_⟩
  obtain ⟨g, cur, e', hB, hh, hg, hs, hj⟩ := h0 hn
  refine ⟨g, cur, e', hB, hh, hg, hs, fun j hj' => ?_⟩
  obtain ⟨dv, k1, k2⟩ := hj j hj'
  exact ⟨dv, k1, k2.of_heap (fun _ _ _ _ => rfl)⟩
end Go.Proofs.YtnjagoglabllaaaGreatDoor
