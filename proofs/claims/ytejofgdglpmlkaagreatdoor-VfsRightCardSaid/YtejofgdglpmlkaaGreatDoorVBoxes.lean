/-
  A tree that is not too big; a tree's box. Conditions: none.
-/
import Derived.Test.YtejofgdglpmlkaaGreatDoorVBig
namespace Go.Proofs.YtejofgdglpmlkaaGreatDoor
open Go.RowKit

theorem totB_mem {l : St} {x : Bs × PN} (h : x ∈ l) : 1 + x.1.length + x.2.data.length ≤ totB l := by
  induction l with
  | nil => cases h
  | cons y r ih =>
    rw [totB]
    rcases List.mem_cons.1 h with rfl | h
    · omega
    · have := ih h; omega
theorem wt_small {l : St} (h : totB l ≤ 300000) (hl : l.length ≤ 1100) : wt l ≤ 1099511627775 := by
  have : ∀ l : St, bytesOf l ≤ totB l := by
    intro l
    induction l with
    | nil => simp [bytesOf, totB]
    | cons x r ih => unfold bytesOf at *; simp only [List.map_cons, List.sum_cons, totB]; omega
  have := this l
  unfold wt
  omega
/-- A tree's box, somewhere. -/
def TBox (b : Nat) (v : Value) (clock room : Int) (W : World) : Prop := W.heap[b]? = some (.cells #[v, .int .i64 clock, .int .i64 room] 24 (0, 0))
theorem TBox.cell {b : Nat} {v : Value} {clock room : Int} {W : World} (h : TBox b v clock room W) : W.cell? ⟨b, 0, none⟩ = some v ∧ W.cell? ⟨b, 1, none⟩ = some (.int .i64 clock) ∧ W.cell? ⟨b, 2, none⟩ = some (.int .i64 room) := by
  obtain ⟨a, b, c, -⟩ := cells3 h
  exact ⟨a, b, c⟩
theorem TBox.on {b : Nat} {v : Value} {clock room : Int} {W W' : World} (h : TBox b v clock room W) (hb : Below W.heap.size W W') : TBox b v clock room W' := (hb.block b (heap_lt h)).trans h
theorem TBox.kept {b : Nat} {v : Value} {clock room : Int} {W W' : World} {S : Nat → Prop} (h : TBox b v clock room W) (hk : Kept S W W') (hS : ¬ S b) : TBox b v clock room W' := (hk.block b (heap_lt h) hS).trans h
end Go.Proofs.YtejofgdglpmlkaaGreatDoor
