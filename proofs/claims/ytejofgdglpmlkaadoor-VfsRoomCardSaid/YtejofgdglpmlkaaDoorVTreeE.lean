/-
  paths and Tree of an empty file system. Conditions: none.
-/
import Derived.Test.YtejofgdglpmlkaaDoorVSmall
import Derived.Test.YtejofgdglpmlkaaDoorVRemove
namespace Go.Proofs.YtejofgdglpmlkaaDoor
open Go.RowKit

section
variable {f mb : Nat} {N : Bs → Nat} {S : Nat → Prop} {clock room : Int} {w : World}
set_option maxRecDepth 100000 in
set_option maxHeartbeats 4000000 in
theorem paths_empty (h : FsIn w f mb N S [] clock room) : Calls Tryd.prog 21 #[.pointer (some ⟨f, 0, none⟩)] w fun e w' => e = .returned (.slice none 0 0) ∧ Below w.heap.size w w' := by
  have kh := Lib.hid h
  have hc0 := (cells4 h.cells).1
  obtain ⟨D, hown, hsz, hD⟩ := h.map
  have kD := Lib.hid (fun x hx => (hD x hx).2)
  have kown := Lib.hid hown
  have hfl := h.lt f h.sf
  have hSort := Lib.hid (fun w => Tryd.slices_Sort_string_none none 0 w)
  clear hD hsz hown h
  go_enter Tryd.func21, Tryd.ntmps21
  go_wp2_with (at_range; refine wpList_range_own _ rfl _ 42 rfl 9 47 lawS Tryd.underlying42 ptrElem mb (Maps.size D) D rfl kown.out ?_; intro w0 hrg0 hg0 hs0; have kI0 := Lib.hid (RemInv.start (Pn := fun _ => False) kh.out (Below.refl _ _) hrg0 hg0 kD.out); clear hrg0 hg0 hs0)
  go_frame
  go_loopw [3, 4] (fun lv _ wr => lv = .slice none 0 0 ∧ RemInv w f mb w.heap.size N S [] clock room (fun _ => False) wr) (fun _ _ wr => wr.rangeLeft mb w.heap.size)
  case atStart => exact ⟨rfl, kI0.out⟩
  case round =>
    obtain ⟨rfl, hI⟩ := hrel
    have kI := Lib.hid hI
    clear hI
    obtain ⟨D2, left, cnt, hrg, hD2, hno, hF, hB⟩ := kI.out
    have krg := Lib.hid hrg
    have kD2 := Lib.hid hD2
    have kB := Lib.hid hB
    clear hrg hD2 hno hF hB
    go_wp2_with (at_next; refine wpList_next_ranges _ rfl _ rfl 9 lawS ptrElem Go.Proofs.encStr mkP inv_str inv_ptr mb w.heap.size (Maps.size D2) D2 left cnt rfl krg.out ?_ ?_)
    · intro _ _
      go_wp2_with (go_at_call 30; refine (hSort.out _).mono ?_; rintro e w3 ⟨rfl, rfl⟩)
      go_ret
      exact ⟨rfl, kB.out⟩
    · intro x c kl yd yp w2 cnt2 hkey hlk hv hat hrg2 hlt hg2 hs2 hen
      obtain ⟨x', ex, rfl, hxl⟩ := Maps.keyOf_str Tryd.underlying9 hkey
      obtain rfl : x = x' := encStr_inj ex
      have hfx : (find [] x).isSome = true := by rw [← kD2.out x hxl]; exact Maps.has_true_of_atKey hat
      cases hfx
theorem treeE_cells {w3 : World} (hb : Below ((w.alloc (.cells #[.slice none 0 0, .int .i64 0, .int .i64 0] 29)).alloc (.cells #[.slice none 0 0, .int .i64 clock, .int .i64 room] 29)).drew.heap.size ((w.alloc (.cells #[.slice none 0 0, .int .i64 0, .int .i64 0] 29)).alloc (.cells #[.slice none 0 0, .int .i64 clock, .int .i64 room] 29)).drew w3) :
    w3.cell? ⟨w.heap.size, 0, none⟩ = some (.slice none 0 0) ∧ w3.cell? ⟨w.heap.size, 1, none⟩ = some (.int .i64 0) ∧ w3.cell? ⟨w.heap.size, 2, none⟩ = some (.int .i64 0) ∧ (∀ o, w3.frozen? ⟨w.heap.size, o, none⟩ = false) ∧
      w3.cell? ⟨w.heap.size + 1, 0, none⟩ = some (.slice none 0 0) ∧ w3.cell? ⟨w.heap.size + 1, 1, none⟩ = some (.int .i64 clock) ∧ w3.cell? ⟨w.heap.size + 1, 2, none⟩ = some (.int .i64 room) ∧ (∀ o, w3.frozen? ⟨w.heap.size + 1, o, none⟩ = false) ∧ w.heap.size + 1 < w3.heap.size := by
  generalize hA : Obj.cells #[.slice none 0 0, .int .i64 0, .int .i64 0] 29 = A at *
  generalize hC : Obj.cells #[.slice none 0 0, .int .i64 clock, .int .i64 room] 29 = C at *
  have hs : ((w.alloc A).alloc C).drew.heap.size = w.heap.size + 2 := by show ((w.alloc A).alloc C).heap.size = _; simp
  have h2 : ((w.alloc A).alloc C).drew.heap[w.heap.size + 1]? = some C := by
    have := heap_alloc_new (w.alloc A) C
    have e : (w.alloc A).heap.size = w.heap.size + 1 := by simp
    rw [e] at this
    exact this
  have h1 : ((w.alloc A).alloc C).drew.heap[w.heap.size]? = some A := (heap_alloc_old (w.alloc A) C (by simp)).trans (heap_alloc_new w A)
  subst hA hC
  obtain ⟨c0, c1, c2, cf⟩ := cells3 ((hb.block w.heap.size (by omega)).trans h1)
  obtain ⟨d0, d1, d2, df⟩ := cells3 ((hb.block (w.heap.size + 1) (by omega)).trans h2)
  exact ⟨c0, c1, c2, cf, d0, d1, d2, df, by have := hb.size; omega⟩
set_option maxRecDepth 100000 in
set_option maxHeartbeats 4000000 in
theorem tree_empty (h : FsIn w f mb N S [] clock room) : Calls Tryd.prog 11 #[.pointer (some ⟨f, 0, none⟩)] w fun e w' => e = .returned (.agg #[.slice none 0 0, .int .i64 clock, .int .i64 room]) ∧ Below w.heap.size w w' := by
  have kh := Lib.hid h
  obtain ⟨-, hc1, hc2, -, -⟩ := cells4 h.cells
  have hfl := h.lt f h.sf
  clear h
  go_enter Tryd.func11, Tryd.ntmps11
  go_wp2_with fail
  go_region
  have kb0 := Lib.hid (show Below w.heap.size w (((w.alloc (.cells #[.slice none 0 0, .int .i64 0, .int .i64 0] 29)).alloc (.cells #[.slice none 0 0, .int .i64 clock, .int .i64 room] 29)).drew) from (below_al (below_al (Below.refl _ _))).trans ⟨rfl, rfl, rfl, Nat.le_refl _, fun _ _ => rfl⟩)
  have hP := Lib.hid (paths_empty (kh.out.below kb0.out))
  clear kh hc1 hc2 hfl
  go_wp2_with (go_at_call 21; refine hP.out.mono ?_; rintro e w3 ⟨rfl, hb⟩; have kb3 := Lib.hid hb; clear hb; obtain ⟨c0, c1, c2, cf, d0, d1, d2, df, hl⟩ := treeE_cells (clock := clock) (room := room) kb3.out)
  have kB := Lib.hid (kb0.out.trans (kb3.out.mono kb0.out.size))
  have cf0 := cf 0
  have cf1 := cf 1
  have cf2 := cf 2
  clear cf df kb0 kb3
  go_loop [19] (fun iv => iv = .int .i64 0) (fun _ => 0)
  case atStart => rfl
  case round =>
    subst hrel
    go_wp2_with fail
    refine bodyPost_ret (v := .agg #[.slice none 0 0, .int .i64 clock, .int .i64 room]) (by simp [results, Tryd.results11, go_sem, c0, c1, c2]) rfl ⟨rfl, ?_⟩
    exact ((kB.out.setCell (Nat.le_refl _) _).setCell (Nat.le_refl _) _).setCell (Nat.le_refl _) _
end
end Go.Proofs.YtejofgdglpmlkaaDoor
