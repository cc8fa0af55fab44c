/-
  alive. Conditions: Itoa's table reads as laid.
-/
import Derived.Test.YtnjagoglabllaaaGreatDoorArAlive
namespace Go.Proofs.YtnjagoglabllaaaGreatDoor
open Go.RowKit

theorem row_bytes {w : World} {b : Nat} {xs : Bs} {m : Nat × Nat} (h : w.heap[b]? = some (.cells (ucells xs).toArray 5 m)) (hl : xs.length ≤ 1099511627776) : BytesAt w (.slice (some ⟨b, 0, none⟩) xs.length xs.length) xs (fun k => k = b) := by
  refine ⟨_, _, rfl, Nat.le_refl _, by unfold maxLen; omega, (fun e => by cases e), fun _ => ⟨b, 0, rfl, rfl, heap_lt h, fun k y hk => ?_⟩⟩
  rw [Nat.zero_add, cell_of_row w b k _ 5 _ h]
  have := ucells_get hk
  simpa using this
theorem OutX.bytes {w : World} {B : Nat} {v : Value} {d : Bs} (h : OutX w B v d) (hl : d.length ≤ 1099511627776) : BytesAt w v d (fun k => B ≤ k ∧ k < w.heap.size) := by
  rcases h with ⟨rfl, rfl⟩ | ⟨-, h | ⟨g, rfl, hB, hc⟩⟩
  · exact BytesAt.nil _ _
  · exact bytes_own h
  · exact (row_bytes hc hl).mono (fun k e => by subst e; exact ⟨hB, heap_lt hc⟩)
theorem OutX.on {w w' : World} {B : Nat} {v : Value} {d : Bs} (h : OutX w B v d) (hb : Below w.heap.size w w') : OutX w' B v d := by
  rcases h with h | h
  · exact Or.inl h
  · exact Or.inr (h.below hb)
theorem arch_alive : archP [aliveM] = (archB [aliveM], 0) ∧ (archB [aliveM]).length = 70 := by
  have hs : sizeN [aliveM] = 70 := by decide
  have hf : [aliveM].all fairB = true := by decide
  refine ⟨?_, ?_⟩
  · unfold archP
    rw [hs, hf]
    rfl
  · rw [arch_len hf (by omega), hs]
theorem arch_none : archP [] = (magicB, 0) := by
  have e : archB [] = magicB := by decide
  unfold archP
  rw [e]; rfl
theorem mems_nil (w : World) : MemsAt w (.slice none 0 0) [] (fun _ => False) := MemsAt.nil _ _
set_option maxRecDepth 100000 in
set_option maxHeartbeats 4000000 in
theorem alive_calls (w : World) (htab : Tab w.heap.size w) :
    Calls Tryz.prog 8 #[] w fun e w' => e = .returned (.bool true) ∧ Below w.heap.size w w' := by
  have hmc := ab_conv w
  have kab := Lib.hid (show Below w.heap.size w (abW w) from below_al (Below.refl _ _))
  have kmem := Lib.hid (alive_mems w)
  have ktab := Lib.hid htab
  clear htab
  go_enter Tryz.func8, Tryz.ntmps8
  have kw := Lib.hid (fun W (hW : W = (abW w).alloc (.cells #[.string (mk [120, 46, 111]), .int .i64 5, .slice (some ⟨w.heap.size, 0, none⟩) 2 2] 37)) => by
    have hB : Below w.heap.size w W := hW ▸ kab.out.alloc (by simp [abW]) _
    have h := write_calls ((ktab.out.on hB).mono hB.size) (kmem.out W hW) (fun _ h => h) (by intro x hx; rw [List.mem_singleton.1 hx]; decide) (by decide)
    rw [arch_alive.1] at h
    exact (show _ ∧ _ from ⟨hB, h⟩))
  go_upto_region 2 with (go_at_call 11; refine (kw.out _ rfl).2.mono ?_; rintro e w1 ⟨v1, rfl, ho, hb⟩; have ko1 := Lib.hid ho; have kB1 := Lib.hid (((kw.out _ rfl).1).trans (hb.mono (kw.out _ rfl).1.size)); clear ho hb)
  obtain ⟨a1, c1, hv1⟩ := (ko1.out.bytes (by rw [arch_alive.2]; decide)).form
  rw [arch_alive.2] at hv1
  subst hv1
  have kw2 := Lib.hid (write_calls ((ktab.out.on kB1.out).mono kB1.out.size) (mems_nil w1) (fun _ h => h.elim) (by intro x hx; cases hx) (by decide))
  rw [arch_none] at kw2
  go_upto_region 3 with (go_at_call 11; refine kw2.out.mono ?_; rintro e w2 ⟨v2, rfl, ho, hb⟩; have ko2 := Lib.hid ho; have kB2 := Lib.hid (kB1.out.trans (hb.mono kB1.out.size)); clear ho hb)
  have kp := Lib.hid (parse_nil w2)
  go_upto_region 4 with (go_at_call 15; refine kp.out.mono ?_; rintro e w3 ⟨rfl, hb⟩; have ko3 := Lib.hid (ko2.out.on hb); have kB3 := Lib.hid (kB2.out.trans (hb.mono kB2.out.size)); clear hb)
  have hstr : (convert 26 9 v2).run Tryz.prog w3 = .ok (.string { data := #[33, 60, 97, 114, 99, 104, 62, 10] }) w3 := bytes_str (ko3.out.bytes (by decide))
  go_wp2_with (first | (go_at_call 14; refine (num_calls 0 w3).mono ?_; rintro e w4 ⟨rfl, rfl⟩) | (go_at_call 14; refine (num_calls 20 w3).mono ?_; rintro e w4 ⟨rfl, rfl⟩))
  go_ret
  exact ⟨rfl, kB3.out⟩
end Go.Proofs.YtnjagoglabllaaaGreatDoor
