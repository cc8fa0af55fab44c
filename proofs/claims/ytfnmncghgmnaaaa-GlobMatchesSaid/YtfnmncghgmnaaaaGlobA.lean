/-
  The reference's Glob (function 18): which beginnings of a name the parts so far match, kept part by part, comes to the plain side's match. Condition: pattern and name have at most 1,000,000 bytes.
-/
import Derived.Test.YtfnmncghgmnaaaaGlob9
import Derived.Laws.MakeOwn
import Derived.Deep.RegionWith
namespace Go.Proofs.Ytfnmncghgmnaaaa
open Go.RowKit

/-- One of the beginnings marked, and the rest is matched. -/
def reach : List Bool → List Gl.Part → List UInt8 → Bool
  | [], _, _ => false
  | b :: nb, qs, s => (b && Gl.mt qs s) || reach nb qs s.tail
def scanOr : Bool → List Bool → List Bool
  | _, [] => []
  | a, b :: l => (a || b) :: scanOr (a || b) l
def stepOne (q : Gl.Part) : List Bool → List UInt8 → List Bool
  | b :: nb, c :: s => (b && Gl.one q c) :: stepOne q nb s
  | _, _ => []

theorem reach_cons (b : Bool) (nb : List Bool) (qs : List Gl.Part) (c : UInt8) (s : List UInt8) : reach (b :: nb) qs (c :: s) = ((b && Gl.mt qs (c :: s)) || reach nb qs s) := rfl
theorem reach_star (l : List Gl.Part) : ∀ (nb : List Bool) (s : List UInt8) (a : Bool), nb.length = s.length + 1 →
    reach (scanOr a nb) l s = ((a && Gl.mt (.star :: l) s) || reach nb (.star :: l) s)
  | [], s, a, h => by simp at h
  | [b], [], a, _ => by
    have e : Gl.mt (.star :: l) [] = Gl.mt l [] := by rw [Gl.mt]
    simp only [scanOr, reach, e]
    cases a <;> cases b <;> simp
  | [b], _ :: _, a, h => by simp at h
  | b :: b' :: nb, [], a, h => by simp at h
  | b :: b' :: nb, c :: s, a, h => by
    have e : Gl.mt (.star :: l) (c :: s) = (Gl.mt l (c :: s) || Gl.mt (.star :: l) s) := by rw [Gl.mt]
    have ih := reach_star l (b' :: nb) s (a || b) (by simpa using h)
    rw [scanOr, reach_cons, ih, reach_cons, e]
    cases a <;> cases b <;> cases Gl.mt l (c :: s) <;> simp
theorem reach_one (q : Gl.Part) (l : List Gl.Part) (hq : q ≠ .star) : ∀ (nb : List Bool) (s : List UInt8), nb.length = s.length + 1 →
    reach (stepOne q nb s) l s.tail = reach nb (q :: l) s
  | [], s, h => by simp at h
  | [b], [], _ => by simp [stepOne, reach, Gl.mt_one_nil l hq]
  | [b], _ :: _, h => by simp at h
  | b :: b' :: nb, [], h => by simp at h
  | b :: b' :: nb, c :: s, h => by
    have ih := reach_one q l hq (b' :: nb) s (by simpa using h)
    have e : reach (stepOne q (b :: b' :: nb) (c :: s)) l s = ((b && Gl.one q c && Gl.mt l s) || reach (stepOne q (b' :: nb) s) l s.tail) := rfl
    rw [List.tail_cons, e, ih, reach_cons, Gl.mt_one l c s hq, Bool.and_assoc]
theorem reach_end : ∀ (nb : List Bool) (s : List UInt8), nb.length = s.length + 1 → nb[s.length]? = some (reach nb [] s)
  | [], s, h => by simp at h
  | [b], [], _ => by simp [reach, Gl.mt_nil]
  | [b], _ :: _, h => by simp at h
  | b :: b' :: nb, [], h => by simp at h
  | b :: b' :: nb, c :: s, h => by
    have ih := reach_end (b' :: nb) s (by simpa using h)
    rw [reach, List.tail_cons, Gl.mt_nil]
    simpa using ih
theorem reach_none : ∀ (n : Nat) (l : List Gl.Part) (s : List UInt8), reach (List.replicate n false) l s = false
  | 0, _, _ => rfl
  | n + 1, l, s => by rw [List.replicate_succ, reach, reach_none n]; rfl
theorem reach_start (n : Nat) (l : List Gl.Part) (s : List UInt8) : reach (true :: List.replicate n false) l s = Gl.mt l s := by
  rw [reach, reach_none, Bool.or_false, Bool.true_and]

theorem scan_at : ∀ (nb : List Bool) (a : Bool) (k : Nat), k < nb.length → (scanOr a nb)[k]? = some (a || (nb.take (k + 1)).any id)
  | [], _, k, h => by simp at h
  | b :: nb, a, 0, _ => by simp [scanOr]
  | b :: nb, a, k + 1, h => by
    rw [scanOr, List.getElem?_cons_succ, scan_at nb (a || b) k (by simpa using h)]
    simp [Bool.or_assoc]
theorem scan_len : ∀ (nb : List Bool) (a : Bool), (scanOr a nb).length = nb.length
  | [], _ => rfl
  | b :: nb, a => by simp [scanOr, scan_len nb]
theorem step_at (q : Gl.Part) : ∀ (nb : List Bool) (s : List UInt8) (k : Nat) (b : Bool) (c : UInt8), nb[k]? = some b → s[k]? = some c → (stepOne q nb s)[k]? = some (b && Gl.one q c)
  | [], _, k, b, c, h, _ => by simp at h
  | _ :: _, [], k, b, c, _, h => by simp at h
  | b' :: nb, c' :: s, 0, b, c, h1, h2 => by simp at h1 h2; subst h1; subst h2; rfl
  | b' :: nb, c' :: s, k + 1, b, c, h1, h2 => by
    simp at h1 h2
    rw [stepOne, List.getElem?_cons_succ]; exact step_at q nb s k b c h1 h2
theorem step_len (q : Gl.Part) : ∀ (nb : List Bool) (s : List UInt8), nb.length = s.length + 1 → (stepOne q nb s).length = s.length
  | [], s, h => by simp at h
  | [b], [], _ => rfl
  | [b], _ :: _, h => by simp at h
  | b :: b' :: nb, [], h => by simp at h
  | b :: b' :: nb, c :: s, h => by rw [stepOne, List.length_cons, step_len q (b' :: nb) s (by simpa using h)]; rfl

/-- A row of bools as it lies in memory. -/
def bools (l : List Bool) : Array Value := (l.map Value.bool).toArray
def BoolsAt (w : World) (g : Nat) (l : List Bool) : Prop := w.heap[g]? = some (.cells (bools l) 4 (0, 0))
theorem BoolsAt.cell {w : World} {g : Nat} {l : List Bool} (h : BoolsAt w g l) {k : Nat} {b : Bool} (hk : l[k]? = some b) : w.cell? ⟨g, k, none⟩ = some (.bool b) := by
  unfold World.cell?; rw [h]; simp [bools, hk]
theorem BoolsAt.frozen {w : World} {g : Nat} {l : List Bool} (h : BoolsAt w g l) (k : Nat) : w.frozen? ⟨g, k, none⟩ = false := by
  unfold World.frozen?; rw [h]; simp
theorem BoolsAt.lt {w : World} {g : Nat} {l : List Bool} (h : BoolsAt w g l) : g < w.heap.size := heap_lt h
theorem BoolsAt.below {w w' : World} {g : Nat} {l : List Bool} (h : BoolsAt w g l) (hb : Below w.heap.size w w') : BoolsAt w' g l := (hb.block g h.lt).trans h
theorem BoolsAt.set {w : World} {g : Nat} {l : List Bool} (h : BoolsAt w g l) (k : Nat) (b : Bool) : BoolsAt (w.setCell ⟨g, k, none⟩ (.bool b)) g (l.set k b) := by
  unfold BoolsAt at h ⊢
  simp only [World.setCell, Array.getElem?_modify, if_true, h, Option.map_some, Option.isSome_none, Bool.false_eq_true, if_false]
  simp [bools, List.map_set]
theorem BoolsAt.other {w : World} {g g' : Nat} {l : List Bool} (h : BoolsAt w g l) (hne : g ≠ g') (k : Nat) (v : Value) : BoolsAt (w.setCell ⟨g', k, none⟩ v) g l :=
  (Below.heap_setCell w ⟨g', k, none⟩ v g hne).trans h
theorem BoolsAt.alloc {w : World} {g : Nat} {l : List Bool} (h : BoolsAt w g l) (o : Obj) : BoolsAt (w.alloc o) g l := (Below.heap_alloc w o g h.lt).trans h
theorem BoolsAt.new (w : World) (l : List Bool) : BoolsAt (w.alloc (.cells (bools l) 4)) w.heap.size l := heap_alloc_new w _

theorem info4 : (Try.prog.info? 4).map (fun i => (i.zero, i.size, i.bytes)) = some (some (.bool false), 1, 1) := by kernel_rfl
theorem make_bools (n : Nat) (hn : n ≤ 1000000) (w : World) : (Instr.makeSlice 53 (.int .i64 ((n : Int) + 1)) (.int .i64 ((n : Int) + 1))).run Try.prog w =
    .ok (.slice (some ⟨w.heap.size, 0, none⟩) (n + 1) (n + 1)) (w.alloc (.cells (bools (List.replicate (n + 1) false)) 4)) := by
  obtain ⟨i0, hi, hz0, hz1, hz2⟩ := info_parts info4
  have := run_make (P := Try.prog) w 53 4 i0 _ Try.underlying53 hi hz0 .i64 .i64 ((n : Int) + 1) ((n : Int) + 1) (by omega) (by omega) (by rw [hz2]; omega) (by omega)
  rw [this, hz1]
  have e : ((n : Int) + 1).toNat = n + 1 := by omega
  rw [e]
  have e2 : madeCells (Value.bool false).cells ((n + 1) * 1) = bools (List.replicate (n + 1) false) := by
    apply Array.ext
    · simp [madeCells, bools]
    · intro i h1 h2
      simp [madeCells, bools, Value.cells, Nat.mod_one]
  rw [e2]

end Go.Proofs.Ytfnmncghgmnaaaa
