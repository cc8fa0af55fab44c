/-
  stay: lent members are as they were. Conditions: what lent tells of them.
-/
import Derived.Test.YtnjagoglabllaaaGreatDoorArLent
import Derived.Test.YtnjagoglabllaaaGreatDoorArSame
namespace Go.Proofs.YtnjagoglabllaaaGreatDoor
open Go.RowKit

theorem mem_dv {w : World} {B g c n : Nat} {L : List NV} (h : MemsOwn w B (.slice (some ⟨g, 0, none⟩) n c) L) {i : Nat} {x : NV} (hx : L[i]? = some x) : w.cell? ⟨g, i * 3 + 2, none⟩ = some x.dv := by
  have := h.1.cells (g := g) rfl (i * 3 + 2) x.dv ((nflat_get L i 2 x hx (by omega)).trans rfl)
  rwa [addr_lit, Nat.zero_add] at this
theorem BytesAt.cap_le {w : World} {a : Option Addr} {n c : Nat} {v : Value} {d : Bs} {S : Nat → Prop} (h : BytesAt w v d S) (e : v = .slice a n c) : (c : Int) ≤ 9223372036854775807 := by
  obtain ⟨a', c', e1, h1, h2, _⟩ := h
  rw [e] at e1
  injection e1 with e1 e2 e3
  subst e3
  unfold maxLen at h2
  omega
section
variable {l : List Mem} {nv : Value} {T : Nat → Prop} {w : World}
set_option maxRecDepth 100000 in
set_option maxHeartbeats 4000000 in
theorem stay_calls {B g c : Nat} {L : List NV} (hL : L.map NV.m = l) (hN : MemsOwn w B (.slice (some ⟨g, 0, none⟩) l.length c) L) (hS : ∀ x ∈ L, Spare w B (.slice (some ⟨g, 0, none⟩) l.length c) x) (hc : l.length < c) (hm : w.cell? ⟨g, l.length * 3 + 1, none⟩ = some (.int .i64 (-71)))
    (ht : MemsAt w nv l T) (hT : ∀ k, T k → k < w.heap.size) (hl : l.length ≤ 1099511627775) (hd : ∀ x ∈ l, x.data.length ≤ 1099511627776) :
    Calls Tryz.prog 12 #[.slice (some ⟨g, 0, none⟩) l.length c, nv] w fun e w' => e = .returned (.bool true) ∧ Below w.heap.size w w' := by
  have hgl := (hN.lt g rfl).2
  have hcm := lent_cap hN
  have hLl : L.length = l.length := by have := congrArg List.length hL; rwa [List.length_map] at this
  have hMems := hN.mems
  rw [hL] at hMems
  have hSm := Lib.hid (same_calls hMems ht (fun j hj => hj.2) hT hl hl)
  rw [sameB_true rfl] at hSm
  obtain ⟨ta, tc, hnv⟩ := ht.form
  subst hnv
  have kN := Lib.hid hN
  have kS := Lib.hid hS
  have kL := Lib.hid hL
  have kLl := Lib.hid hLl
  have kd := Lib.hid hd
  clear hMems ht hT hN hS hL hLl hd
  have y0 : (l.length : Int) + 1 ≤ (c : Int) := by omega
  have e0 : IntKind.i64.wrap ((l.length : Int) + 1) = ((l.length + 1 : Nat) : Int) := by rw [IntWalk.i64_in _ (by omega)]; omega
  go_enter Tryz.func12, Tryz.ntmps12
  go_wp2_with (go_at_call 17; refine hSm.out.mono ?_; rintro e w2 ⟨rfl, hb2⟩; have kb2 := Lib.hid hb2; have hm2 := (kb2.out.cell (p := ⟨g, l.length * 3 + 1, none⟩) hgl).trans hm; have hg2 := Nat.lt_of_lt_of_le hgl kb2.out.size; clear hb2)
  go_loop [7, 8] (fun iv _ => ∃ i : Nat, i ≤ l.length ∧ iv = .int .i64 i) (fun iv _ => l.length - (intOf iv).toNat)
  case atStart => exact ⟨0, Nat.zero_le _, rfl⟩
  case round =>
    obtain ⟨i, hi, rfl⟩ := hrel
    by_cases hlt : i < l.length
    · obtain ⟨x, hx⟩ : ∃ x, L[i]? = some x := ⟨_, List.getElem?_eq_getElem (by have := kLl.out; omega)⟩
      have hxd := kd.out x.m (by rw [← kL.out]; exact List.mem_map_of_mem (List.mem_of_getElem? hx))
      have hdv := (kb2.out.cell (p := ⟨g, i * 3 + 2, none⟩) hgl).trans (mem_dv kN.out hx)
      obtain ⟨gg, cc, e1, e2, e3, e4, -, e6⟩ := kS.out x (List.mem_of_getElem? hx)
      rw [e1] at hdv
      have hcx := (kb2.out.cell (p := ⟨gg, x.m.data.length, none⟩) e4).trans e6
      have hgx := Nat.lt_of_lt_of_le e4 kb2.out.size
      have hxd' : x.m.data.length ≤ 1099511627776 := hxd
      have hccm := (kN.out.2 x (List.mem_of_getElem? hx)).1.cap_le e1
      generalize x.m.data.length = n at *
      clear hxd e1 e3 e4 e6 hx
      go_wp2
      go_round
      case rel => exact ⟨i + 1, by omega, by go_num⟩
      case measure => simp [intOf]; omega
    · go_wp2
      go_ret
      exact ⟨rfl, kb2.out⟩
end
end Go.Proofs.YtnjagoglabllaaaGreatDoor
