/-
  Stays: a lent tree is as it was. Conditions: what Lent tells of it.
-/
import Derived.Test.YtejofgdglpmlkaaGreatDoorVLent
import Derived.Test.YtejofgdglpmlkaaGreatDoorVSame
namespace Go.Proofs.YtejofgdglpmlkaaGreatDoor
open Go.RowKit

theorem node_dv {w : World} {B g c n : Nat} {L : List NV} (h : NodesOwn w B (.slice (some ⟨g, 0, none⟩) n c) L) {i : Nat} {x : NV} (hx : L[i]? = some x) : w.cell? ⟨g, i * 4 + 3, none⟩ = some x.dv := by
  have := h.1.cells (g := g) rfl (i * 4 + 3) x.dv ((nflat_get L i 3 x hx (by omega)).trans rfl)
  rwa [addr_lit, Nat.zero_add] at this
theorem node_g {w : World} {B g c n : Nat} {L : List NV} (h : NodesOwn w B (.slice (some ⟨g, 0, none⟩) n c) L) : g < w.heap.size ∧ (c : Int) ≤ 9223372036854775807 := by
  refine ⟨(h.lt g rfl).2, ?_⟩
  rcases h.1.2 with ⟨e, _⟩ | ⟨g', cap, cur, e, _, _, _, hm, _⟩
  · cases e
  · injection e with e1 e2 e3
    subst e3
    unfold maxLen at hm
    omega
theorem BytesAt.cap_le {w : World} {a : Option Addr} {n c : Nat} {v : Value} {d : Bs} {S : Nat → Prop} (h : BytesAt w v d S) (e : v = .slice a n c) : (c : Int) ≤ 9223372036854775807 := by
  obtain ⟨a', c', e1, h1, h2, _⟩ := h
  rw [e] at e1
  injection e1 with e1 e2 e3
  subst e3
  unfold maxLen at h2
  omega
section
variable {l : St} {clock room : Int} {nv : Value} {T : Nat → Prop} {w : World}
set_option maxRecDepth 100000 in
set_option maxHeartbeats 4000000 in
theorem stays_calls {B g c : Nat} {L : List NV} (hL : L.map NV.nd = l) (hN : NodesOwn w B (.slice (some ⟨g, 0, none⟩) l.length c) L) (hS : ∀ x ∈ L, Spare w B (.slice (some ⟨g, 0, none⟩) l.length c) x) (hc : l.length < c) (hm : w.cell? ⟨g, l.length * 4 + 2, none⟩ = some (.int .i64 (-71)))
    (ht : TreeAt w nv l T) (hT : ∀ k, T k → k < w.heap.size) (hl : l.length ≤ 1099511627775) (hd : ∀ x ∈ l, x.2.data.length ≤ 1099511627776) :
    Calls Tryz.prog 10 #[.agg #[.slice (some ⟨g, 0, none⟩) l.length c, .int .i64 clock, .int .i64 room], .agg #[nv, .int .i64 clock, .int .i64 room]] w fun e w' => e = .returned (.bool true) ∧ Below w.heap.size w w' := by
  obtain ⟨hgl, hcm⟩ := node_g hN
  have hLl : L.length = l.length := by have := congrArg List.length hL; rwa [List.length_map] at this
  have kb1 := Lib.hid (show Below w.heap.size w ((w.alloc (.cells #[.slice (some ⟨g, 0, none⟩) l.length c, .int .i64 clock, .int .i64 room] 24)).alloc (.cells #[nv, .int .i64 clock, .int .i64 room] 24)) from below_al (below_al (Below.refl _ _)))
  have hTree := hN.tree
  rw [hL] at hTree
  have hSm := Lib.hid (same_calls (c1 := clock) (c2 := clock) (r1 := room) (r2 := room) (hTree.of_heap (T' := fun j => B ≤ j ∧ j < w.heap.size) (fun j hj => kb1.out.block j hj.2) (fun _ h => h)) (ht.of_heap (T' := T) (fun j hj => kb1.out.block j (hT j hj)) (fun _ h => h)) (fun j hj => Nat.lt_of_lt_of_le hj.2 kb1.out.size) (fun j hj => Nat.lt_of_lt_of_le (hT j hj) kb1.out.size) hl)
  have hst : sameT l l clock room clock room = true := by unfold sameT; rw [sameL_refl]; simp
  rw [hst] at hSm
  obtain ⟨ta, tc, hnv⟩ := ht.form
  subst hnv
  have kN := Lib.hid hN
  have kS := Lib.hid hS
  have kL := Lib.hid hL
  have kLl := Lib.hid hLl
  have kT2 := Lib.hid (TwoB.start w (.slice (some ⟨g, 0, none⟩) l.length c) (.slice ta l.length tc) clock room)
  have kd := Lib.hid hd
  clear hTree ht hT hst hN hS hL hLl hd
  go_enter Tryz.func10, Tryz.ntmps10
  go_wp2_with (go_at_call 15; refine hSm.out.mono ?_; rintro e w2 ⟨rfl, hb2⟩; have kb2 := Lib.hid hb2; have kT := Lib.hid (kT2.out.on hb2); obtain ⟨b00, b01, b02, b10, b11, b12, bl⟩ := kT.out.cells; have hm2 := (kT.out.below.cell (p := ⟨g, l.length * 4 + 2, none⟩) hgl).trans hm; have hg2 := Nat.lt_of_lt_of_le hgl kT.out.below.size; clear hb2 b01 b02 b11 b12)
  go_loop [7, 8] (fun iv _ => ∃ i : Nat, i ≤ l.length ∧ iv = .int .i64 i) (fun iv _ => l.length - (intOf iv).toNat)
  case atStart => exact ⟨0, Nat.zero_le _, rfl⟩
  case round =>
    obtain ⟨i, hi, rfl⟩ := hrel
    by_cases hlt : i < l.length
    · obtain ⟨x, hx⟩ : ∃ x, L[i]? = some x := ⟨_, List.getElem?_eq_getElem (by have := kLl.out; omega)⟩
      have hxd := kd.out x.nd (by rw [← kL.out]; exact List.mem_map_of_mem (List.mem_of_getElem? hx))
      have hdv := (kT.out.below.cell (p := ⟨g, i * 4 + 3, none⟩) hgl).trans (node_dv kN.out hx)
      obtain ⟨gg, cc, e1, e2, e3, e4, -, e6⟩ := kS.out x (List.mem_of_getElem? hx)
      rw [e1] at hdv
      have hcx := (kT.out.below.cell (p := ⟨gg, x.n.data.length, none⟩) e4).trans e6
      have hgx := Nat.lt_of_lt_of_le e4 kT.out.below.size
      have hxd' : x.n.data.length ≤ 1099511627776 := hxd
      have hccm := (kN.out.2 x (List.mem_of_getElem? hx)).1.cap_le e1
      generalize x.n.data.length = n at *
      clear hxd e1 e3 e4 e6 hx
      go_wp2
      go_round
      case rel => exact ⟨i + 1, by omega, by go_num⟩
      case measure => simp [intOf]; omega
    · go_wp2
      go_ret
      exact ⟨rfl, kT.out.below⟩
end
end Go.Proofs.YtejofgdglpmlkaaGreatDoor
