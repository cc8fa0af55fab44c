/-
  Lent: a tree in memory of its own, with one more behind each list. Conditions: at most 2^40 nodes, data of at most 2^40 bytes.
-/
import Derived.Test.YtejofgdglpmlkaaGreatDoorM15
import Derived.Test.YtejofgdglpmlkaaGreatDoorM31
import Derived.Lib.SmallJoins
namespace Go.Proofs.YtejofgdglpmlkaaGreatDoor
open Go.RowKit

theorem wpList_append_node {ops : Array Oper} {rest : List Oper} {o : Oper} {a : Act} {Q : Exit → Act → World → Prop} (w : World) (hgd : o.guard = none) (s x : Operand)
    (hop : o.op = Op.call { callee := Callee.builtin Builtin.append, args := #[s, x], argTypes := #[22, 22] }) (B : Nat) (v : Value) (L : List NV) (hs : a.eval s = v) (h : NodesOwn w B v L) (y : NV) (ad : Addr) (c : Nat) (hx : a.eval x = .slice (some ad) 1 c)
    (hc : ∀ j u, y.cells[j]? = some u → w.cell? (ad.add j) = some u) (hb : UBytes w y.dv y.n.data (fun j => B ≤ j ∧ j < w.heap.size ∧ v.ownBlock ≠ some j)) (hl : L.length ≤ 1099511627775) (hB : B ≤ w.heap.size)
    (hK : ∀ a' c' w', NodesOwn w' B (.slice a' (L.length + 1) c') (L ++ [y]) → w.grownBy w' v.ownBlock → ((Value.slice a' (L.length + 1) c').ownBlock = v.ownBlock ∨ (Value.slice a' (L.length + 1) c').ownBlock = some w.heap.size) → wpList Tryz.prog ops Q rest (a.put o.dst (.slice a' (L.length + 1) c')) w') :
    wpList Tryz.prog ops Q (o :: rest) a w := by
  refine wpList_plain hgd fun K hK' => ?_
  obtain ⟨a', c', w', hrun, r1, r2, r3⟩ := run_append_node w B v L h y ad c o.type hc hb hl hB
  unfold Oper.wp
  simp [execOp, hop, resolve, invoke, builtin, hs, hx, hrun, Result.andThen]
  exact hK' _ _ (hK a' c' w' r1 r2 r3)
theorem NodesOwn.keepb {w w' : World} {B : Nat} {v : Value} {L : List NV} (h : NodesOwn w B v L) (he : ∀ j, j < w.heap.size → w'.heap[j]? = w.heap[j]?) (hs : w.heap.size ≤ w'.heap.size) : NodesOwn w' B v L := by
  obtain ⟨⟨h1, h2⟩, h3⟩ := h
  refine ⟨⟨h1, ?_⟩, fun x hx => (h3 x hx).of_heap (fun j hj => he j hj.2.1) (fun j hj => ⟨hj.1, Nat.lt_of_lt_of_le hj.2.1 hs, hj.2.2⟩)⟩
  rcases h2 with h2 | ⟨g, cap, cur, e, hb, hg, r⟩
  · exact Or.inl h2
  · exact Or.inr ⟨g, cap, cur, e, hb, (he g (heap_lt hg)).trans hg, r⟩
/-- The bytes without the one behind. -/
theorem ubytes_less {w : World} {B g c : Nat} {d : Bs} (h : w.ownsRow B 5 1 (.slice (some ⟨g, 0, none⟩) (d ++ [167]).length c) (d ++ [167]).length (ucells (d ++ [167]))) :
    UBytes w (.slice (some ⟨g, 0, none⟩) d.length c) d (fun j => j = g) ∧ d.length < c ∧ B ≤ g ∧ g < w.heap.size ∧ w.cell? ⟨g, d.length, none⟩ = some (.int .u8 167) := by
  have hc := fun j u hu => h.cells (g := g) rfl j u hu
  rcases h.2 with ⟨e, _⟩ | ⟨g', cap, cur, e, hb, hg, hn, hm, hs, ht⟩
  · cases e
  · injection e with e1 e2 e3
    injection e1 with e1; injection e1 with e1
    subst e1 e3
    have cell : ∀ (j : Nat) (y : UInt8), (d ++ [167])[j]? = some y → w.cell? ⟨g, j, none⟩ = some (.int .u8 y.toNat) := fun j y hy => by
      have := hc j _ (ucells_get hy)
      rwa [addr_lit, Nat.zero_add] at this
    have hl : (d ++ [167]).length = d.length + 1 := by simp
    refine ⟨⟨⟨_, c, rfl, by omega, hm, (fun e => by cases e), fun _ => ⟨g, 0, rfl, rfl, heap_lt hg, fun k y hk => ?_⟩⟩, fun b off n c' e hn' => ?_⟩, by omega, hb, heap_lt hg, cell d.length 167 (by rw [List.getElem?_append_right (Nat.le_refl _), Nat.sub_self]; rfl)⟩
    · rw [Nat.zero_add]
      exact cell k y (by rw [List.getElem?_append_left (List.getElem?_eq_some_iff.1 hk).1]; exact hk)
    · injection e with e1 e2 e3
      injection e1 with e1; injection e1 with e1
      subst e1
      exact ⟨cur, hg⟩
/-- One byte more behind a node's bytes. -/
def Spare (w : World) (B : Nat) (lv : Value) (x : NV) : Prop :=
  ∃ g c, x.dv = .slice (some ⟨g, 0, none⟩) x.n.data.length c ∧ x.n.data.length < c ∧ B ≤ g ∧ g < w.heap.size ∧ lv.ownBlock ≠ some g ∧ w.cell? ⟨g, x.n.data.length, none⟩ = some (.int .u8 167)
theorem Spare.on {w w' : World} {B : Nat} {lv lv' : Value} {x : NV} (h : Spare w B lv x) (hg : ∀ g, B ≤ g → g < w.heap.size → lv.ownBlock ≠ some g → w'.heap[g]? = w.heap[g]? ∧ lv'.ownBlock ≠ some g) (hs : w.heap.size ≤ w'.heap.size) : Spare w' B lv' x := by
  obtain ⟨g, c, h1, h2, h3, h4, h5, h6⟩ := h
  obtain ⟨e1, e2⟩ := hg g h3 h4 h5
  exact ⟨g, c, h1, h2, h3, Nat.lt_of_lt_of_le h4 hs, e2, (World.cell?_of_block (a := ⟨g, _, none⟩) e1).trans h6⟩
/-- Behind the first append: its row, what has stayed. -/
structure LentA (W1 : World) (xs : Bs) (row : Value) (w4 : World) : Prop where make ::
  below : Below W1.heap.size W1 w4
  own : w4.ownsRow W1.heap.size 5 1 row xs.length (ucells xs)
theorem LentA.of_A {W1 w4 : World} {xs : Bs} {row : Value} (ho : w4.ownsRow W1.heap.size 5 1 row xs.length (ucells xs)) (hg : W1.drew.grownBy w4 (Value.slice none 0 0).ownBlock) : LentA W1 xs row w4 :=
  ⟨⟨hg.os, hg.tape, hg.output, hg.size, fun j hj => hg.block j hj (by simp [Value.ownBlock])⟩, ho⟩
theorem LentA.of_B {W1 w4 : World} {xs : Bs} {row : Value} {o : Obj} (ho : w4.ownsRow W1.heap.size 5 1 row xs.length (ucells xs)) (hg : (W1.drew.alloc o).grownBy w4 (Value.slice none 0 0).ownBlock) : LentA W1 xs row w4 := by
  have h2 := hg.size
  simp at h2
  exact ⟨⟨hg.os, hg.tape, hg.output, by show W1.heap.size ≤ _; have : W1.drew.heap.size = W1.heap.size := rfl; omega, fun j hj => (hg.block j (by simp; have : W1.drew.heap.size = W1.heap.size := rfl; omega) (by simp [Value.ownBlock])).trans (heap_alloc_old W1.drew o hj)⟩, ho⟩
theorem LentA.cell {W1 w4 : World} {xs : Bs} {row v : Value} {xb o : Nat} (h : LentA W1 xs row w4) (hx : W1.cell? ⟨xb, o, none⟩ = some v) : w4.cell? ⟨xb, o, none⟩ = some v := (h.below.cell (p := ⟨xb, o, none⟩) (World.block_lt_of_cell? W1 _ hx)).trans hx
theorem LentA.cell5 {W1 w4 : World} {xs : Bs} {row v : Value} {xb o : Nat} (h : LentA W1 xs row w4) (hx : W1.cell? ⟨xb, o, none⟩ = some v) (ob : Obj) : (w4.alloc ob).cell? ⟨xb, o, none⟩ = some v :=
  (World.cell?_alloc_lt _ _ _ (World.block_lt_of_cell? w4 _ (h.cell hx))).trans (h.cell hx)
theorem lent_cell5 {W1 : World} {v : Value} {xb o : Nat} (hx : W1.cell? ⟨xb, o, none⟩ = some v) (ob : Obj) : (W1.drew.alloc ob).cell? ⟨xb, o, none⟩ = some v :=
  (World.cell?_alloc_lt W1.drew _ _ (World.block_lt_of_cell? W1 _ hx)).trans hx
theorem LentA.size5 {W1 w4 : World} {xs : Bs} {row : Value} {o : Obj} (h : LentA W1 xs row w4) : W1.heap.size ≤ (w4.alloc o).heap.size := by have := h.below.size; simp; omega
theorem LentA.own5 {W1 w4 : World} {xs : Bs} {row : Value} {o : Obj} (h : LentA W1 xs row w4) : (w4.alloc o).ownsRow W1.heap.size 5 1 row xs.length (ucells xs) := by
  refine h.own.kept (row := none) (World.grownBy_alloc _ _ _) ?_
  by_cases e : row.ownBlock = none
  · exact Or.inl e
  · exact Or.inr (fun e' => e (by cases h0 : row.ownBlock with | none => rfl | some g => rw [h0] at e'; cases e'))
theorem LentA.keep {W1 w4 : World} {ys : Bs} {v : Value} {o : Obj} (hb : BytesAt (W1.drew.alloc o) v ys (fun j => j = W1.drew.heap.size)) (h : w4.heap[W1.drew.heap.size]? = (W1.drew.alloc o).heap[W1.drew.heap.size]?) : BytesAt w4 v ys (fun j => j = W1.heap.size) :=
  hb.of_heap (fun j hj => by subst hj; exact h) (fun _ h => h)
/-- Behind the second append. -/
structure LentM (W1 : World) (xs : Bs) (row : Value) (w6 : World) : Prop where make ::
  below : Below W1.heap.size W1 w6
  own : w6.ownsRow W1.heap.size 5 1 row (xs ++ [167]).length (ucells (xs ++ [167]))
theorem LentM.of_A {W1 w4 w6 : World} {xs : Bs} {row row2 : Value} {o : Obj} (h : LentA W1 xs row w4) (ho : w6.ownsRow W1.heap.size 5 1 row2 (xs ++ [167]).length (ucells (xs ++ [167]))) (hg : (w4.alloc o).grownBy w6 row.ownBlock) : LentM W1 xs row2 w6 := by
  have h1 := h.below.size
  have h2 := hg.size
  simp at h2
  exact ⟨⟨hg.os.trans h.below.os, hg.tape.trans h.below.tape, hg.output.trans h.below.output, by omega, fun j hj => (hg.block j (by simp; omega) (fun e => by have := (h.own.lt j e.symm).1; omega)).trans ((heap_alloc_old _ _ (by omega)).trans (h.below.block j hj))⟩, ho⟩
theorem LentM.of_B {W1 w4 w6 : World} {xs : Bs} {row row2 : Value} (h : LentA W1 xs row w4) (ho : w6.ownsRow W1.heap.size 5 1 row2 (xs ++ [167]).length (ucells (xs ++ [167]))) (hg : w4.grownBy w6 row.ownBlock) : LentM W1 xs row2 w6 := by
  have h1 := h.below.size
  have h2 := hg.size
  exact ⟨⟨hg.os.trans h.below.os, hg.tape.trans h.below.tape, hg.output.trans h.below.output, by omega, fun j hj => (hg.block j (by omega) (fun e => by have := (h.own.lt j e.symm).1; omega)).trans (h.below.block j hj)⟩, ho⟩
theorem LentM.form {W1 w6 : World} {xs : Bs} {a2 : Option Addr} {m2 c2 : Nat} (h : LentM W1 xs (.slice a2 m2 c2) w6) (_ : Hid (m2 = (xs ++ [167]).length)) : ∃ g2, a2 = some ⟨g2, 0, none⟩ ∧ xs.length < c2 := by
  rcases h.own.2 with ⟨_, hn⟩ | ⟨g, cap, cur, e, _, _, hn, _⟩
  · simp at hn
  · injection e with e1 e2 e3
    exact ⟨g, e1, by simp at hn; omega⟩
theorem LentM.cell {W1 w6 : World} {xs : Bs} {row v : Value} {xb o : Nat} (h : LentM W1 xs row w6) (hx : W1.cell? ⟨xb, o, none⟩ = some v) : w6.cell? ⟨xb, o, none⟩ = some v := (h.below.cell (p := ⟨xb, o, none⟩) (World.block_lt_of_cell? W1 _ hx)).trans hx
theorem LentM.frozen {W1 w6 : World} {xs : Bs} {row : Value} {xb : Nat} {cs : Array Value} {t : TypeId} (h : LentM W1 xs row w6) (hx : W1.heap[xb]? = some (.cells cs t (0, 0))) : w6.frozen? ⟨xb, 3, none⟩ = false := Go.Joins.unfrozen_of_block ((h.below.block xb (heap_lt hx)).trans hx) 3
section
variable {l : St} {clock room : Int} {nv : Value} {T : Nat → Prop} {w : World}
/-- What Lent's loop keeps. -/
structure LentInv (w : World) (nv : Value) (clock room : Int) (l : St) (i : Nat) (lv : Value) (wr : World) : Prop where make ::
  box : wr.heap[w.heap.size]? = some (.cells #[nv, .int .i64 clock, .int .i64 room] 24 (0, 0))
  res : wr.heap[w.heap.size + 1]? = some (.cells #[.slice none 0 0, .int .i64 0, .int .i64 0] 24 (0, 0))
  below : Below w.heap.size w wr
  list : ∃ L, L.map NV.nd = l.take i ∧ NodesOwn wr (w.heap.size + 2) lv L ∧ ∀ x ∈ L, Spare wr (w.heap.size + 2) lv x
theorem LentInv.start (w : World) : LentInv w nv clock room l 0 (.slice none 0 0) ((w.alloc (.cells #[nv, .int .i64 clock, .int .i64 room] 24)).alloc (.cells #[.slice none 0 0, .int .i64 0, .int .i64 0] 24)) := by
  refine ⟨(heap_alloc_old (w.alloc _) _ (by simp)).trans (heap_alloc_new w _), ?_, below_al (below_al (Below.refl _ _)), [], rfl, NodesOwn.nil _ _, fun _ h => by cases h⟩
  have := heap_alloc_new (w.alloc (.cells #[nv, .int .i64 clock, .int .i64 room] 24)) (.cells #[.slice none 0 0, .int .i64 0, .int .i64 0] 24)
  have e : (w.alloc (.cells #[nv, .int .i64 clock, .int .i64 room] 24)).heap.size = w.heap.size + 1 := by simp
  rw [e] at this
  exact this
theorem lent_below {wr W1 w6 : World} {xb : Nat} {v : Value} {o : Obj} (hx : wr.heap.size = xb) (hW : Below xb wr W1) (h6 : Below W1.heap.size W1 w6) : Below wr.heap.size wr ((w6.setCell ⟨xb, 3, none⟩ v).alloc o) := by
  subst hx
  exact below_al ((hW.trans (h6.mono hW.size)).setCell (p := ⟨wr.heap.size, 3, none⟩) (Nat.le_refl _) v)
theorem LentM.size2 {W1 w6 : World} {xs : Bs} {g2 m2 c2 : Nat} (h : LentM W1 xs (.slice (some ⟨g2, 0, none⟩) m2 c2) w6) : W1.heap.size ≤ g2 ∧ g2 < w6.heap.size := h.own.lt g2 rfl
theorem lent_pack {wr W1 w6 : World} {xb g2 c2 : Nat} {x : Bs × PN} {lv dv : Value} {L : List NV} {B : Nat} (hx : wr.heap.size = xb) (hW : Below xb wr W1) (hX : W1.heap[xb]? = some (.cells #[.string (mk x.1), .bool x.2.dir, .int .i64 x.2.time, dv] 54 (0, 0))) (h6 : Below W1.heap.size W1 w6) (hg2 : W1.heap.size ≤ g2 ∧ g2 < w6.heap.size)
    (hU : UBytes w6 (.slice (some ⟨g2, 0, none⟩) x.2.data.length c2) x.2.data (fun j => j = g2) ∧ x.2.data.length < c2 ∧ B ≤ g2 ∧ g2 < w6.heap.size ∧ w6.cell? ⟨g2, x.2.data.length, none⟩ = some (.int .u8 167)) (hN : NodesOwn wr (w.heap.size + 2) lv L) (hw2 : w.heap.size + 2 ≤ wr.heap.size) :
    NodesOwn ((w6.setCell ⟨xb, 3, none⟩ (.slice (some ⟨g2, 0, none⟩) x.2.data.length c2)).alloc (.cells #[.string (mk x.1), .bool x.2.dir, .int .i64 x.2.time, .slice (some ⟨g2, 0, none⟩) x.2.data.length c2] 54)) (w.heap.size + 2) lv L ∧
    (∀ j u, (NV.make x.1 x.2 (.slice (some ⟨g2, 0, none⟩) x.2.data.length c2)).cells[j]? = some u → ((w6.setCell ⟨xb, 3, none⟩ (.slice (some ⟨g2, 0, none⟩) x.2.data.length c2)).alloc (.cells #[.string (mk x.1), .bool x.2.dir, .int .i64 x.2.time, .slice (some ⟨g2, 0, none⟩) x.2.data.length c2] 54)).cell? ((⟨w6.heap.size, 0, none⟩ : Addr).add j) = some u) ∧
    UBytes ((w6.setCell ⟨xb, 3, none⟩ (.slice (some ⟨g2, 0, none⟩) x.2.data.length c2)).alloc (.cells #[.string (mk x.1), .bool x.2.dir, .int .i64 x.2.time, .slice (some ⟨g2, 0, none⟩) x.2.data.length c2] 54)) (.slice (some ⟨g2, 0, none⟩) x.2.data.length c2) x.2.data (fun j => w.heap.size + 2 ≤ j ∧ j < ((w6.setCell ⟨xb, 3, none⟩ (.slice (some ⟨g2, 0, none⟩) x.2.data.length c2)).alloc (.cells #[.string (mk x.1), .bool x.2.dir, .int .i64 x.2.time, .slice (some ⟨g2, 0, none⟩) x.2.data.length c2] 54)).heap.size ∧ lv.ownBlock ≠ some j) ∧
    w.heap.size + 2 ≤ ((w6.setCell ⟨xb, 3, none⟩ (.slice (some ⟨g2, 0, none⟩) x.2.data.length c2)).alloc (.cells #[.string (mk x.1), .bool x.2.dir, .int .i64 x.2.time, .slice (some ⟨g2, 0, none⟩) x.2.data.length c2] 54)).heap.size ∧
    w.heap.size + 2 ≤ g2 ∧ wr.heap.size ≤ g2 ∧ g2 < ((w6.setCell ⟨xb, 3, none⟩ (.slice (some ⟨g2, 0, none⟩) x.2.data.length c2)).alloc (.cells #[.string (mk x.1), .bool x.2.dir, .int .i64 x.2.time, .slice (some ⟨g2, 0, none⟩) x.2.data.length c2] 54)).heap.size ∧
    ((w6.setCell ⟨xb, 3, none⟩ (.slice (some ⟨g2, 0, none⟩) x.2.data.length c2)).alloc (.cells #[.string (mk x.1), .bool x.2.dir, .int .i64 x.2.time, .slice (some ⟨g2, 0, none⟩) x.2.data.length c2] 54)).cell? ⟨g2, x.2.data.length, none⟩ = some (.int .u8 167) := by
  have hxl := heap_lt hX
  have h8 := lent_below (v := .slice (some ⟨g2, 0, none⟩) x.2.data.length c2) (o := .cells #[.string (mk x.1), .bool x.2.dir, .int .i64 x.2.time, .slice (some ⟨g2, 0, none⟩) x.2.data.length c2] 54) hx hW h6
  have hz : ((w6.setCell ⟨xb, 3, none⟩ (.slice (some ⟨g2, 0, none⟩) x.2.data.length c2)).alloc (.cells #[.string (mk x.1), .bool x.2.dir, .int .i64 x.2.time, .slice (some ⟨g2, 0, none⟩) x.2.data.length c2] 54)).heap.size = w6.heap.size + 1 := by simp
  have he : ((w6.setCell ⟨xb, 3, none⟩ (.slice (some ⟨g2, 0, none⟩) x.2.data.length c2)).alloc (.cells #[.string (mk x.1), .bool x.2.dir, .int .i64 x.2.time, .slice (some ⟨g2, 0, none⟩) x.2.data.length c2] 54)).heap[g2]? = w6.heap[g2]? :=
    (heap_alloc_old _ _ (by simp; omega)).trans ((set_grown w6 xb 3 _).block g2 hg2.2 (fun e => by injection e with e; omega))
  have hW1 := hW.size
  refine ⟨hN.keepb h8.block h8.size, ?_, hU.1.of_heap (fun j hj => by subst hj; exact he) (fun j hj => by subst hj; exact ⟨by omega, by omega, fun e => by have := (hN.lt _ e).2; omega⟩), by omega, by omega, by omega, by omega, (World.cell?_of_block (a := ⟨g2, _, none⟩) he).trans hU.2.2.2.2⟩
  intro j u hu
  have := cells_new (w6.setCell ⟨xb, 3, none⟩ (.slice (some ⟨g2, 0, none⟩) x.2.data.length c2)) (NV.make x.1 x.2 (.slice (some ⟨g2, 0, none⟩) x.2.data.length c2)).cells 54 j u hu
  have e : (w6.setCell ⟨xb, 3, none⟩ (.slice (some ⟨g2, 0, none⟩) x.2.data.length c2)).heap.size = w6.heap.size := by simp
  rw [e] at this
  exact this
/-- A node more: what Lent's loop keeps. -/
theorem LentInv.next {i g2 c2 : Nat} {wr w9 : World} {lv lv' : Value} {L : List NV} {x : Bs × PN} {W8 : World} (h : LentInv w nv clock room l i lv wr) (hx : l[i]? = some x) (hL : L.map NV.nd = l.take i) (hN : NodesOwn wr (w.heap.size + 2) lv L) (hS : ∀ y ∈ L, Spare wr (w.heap.size + 2) lv y)
    (h8 : Below wr.heap.size wr W8) (hb : w.heap.size + 2 ≤ g2) (hgw : wr.heap.size ≤ g2) (hg8 : g2 < W8.heap.size) (hc : x.2.data.length < c2) (h167 : W8.cell? ⟨g2, x.2.data.length, none⟩ = some (.int .u8 167))
    (h9 : NodesOwn w9 (w.heap.size + 2) lv' (L ++ [NV.make x.1 x.2 (.slice (some ⟨g2, 0, none⟩) x.2.data.length c2)])) (hg9 : W8.grownBy w9 lv.ownBlock) (hat : lv'.ownBlock = lv.ownBlock ∨ lv'.ownBlock = some W8.heap.size) : LentInv w nv clock room l (i + 1) lv' w9 := by
  have hlv := fun g hg => hN.lt g hg
  have h8z := h8.size
  have h9z := hg9.size
  have hbz := h.below.size
  have far : ∀ j, j < wr.heap.size → lv.ownBlock ≠ some j → w9.heap[j]? = wr.heap[j]? := fun j hj hne => (hg9.block j (by omega) (fun e => hne e.symm)).trans (h8.block j hj)
  have hlow : ∀ j, j < w.heap.size + 2 → lv.ownBlock ≠ some j := fun j hj e => by have := (hlv j e).1; omega
  have new : ∀ g, g < W8.heap.size → lv.ownBlock ≠ some g → lv'.ownBlock ≠ some g := fun g hg hne e => by
    rcases hat with h1 | h1
    · rw [h1] at e; exact hne e
    · rw [h1] at e; injection e with e; omega
  have hg2 : lv.ownBlock ≠ some g2 := fun e => by have := (hlv g2 e).2; omega
  refine ⟨(far _ (heap_lt h.box) (hlow _ (by omega))).trans h.box, (far _ (heap_lt h.res) (hlow _ (by omega))).trans h.res, ⟨(hg9.os.trans h8.os).trans h.below.os, (hg9.tape.trans h8.tape).trans h.below.tape, (hg9.output.trans h8.output).trans h.below.output, by omega, fun j hj => (far j (by omega) (hlow j (by omega))).trans (h.below.block j hj)⟩, _, ?_, h9, fun y hy => ?_⟩
  · rw [List.map_append, hL, take_more hx]; rfl
  · rcases List.mem_append.1 hy with hy | hy
    · exact (hS y hy).on (fun g hg1 hg2 hg3 => ⟨far g hg2 hg3, new g (by omega) hg3⟩) (by omega)
    · rw [List.mem_singleton] at hy
      subst hy
      exact ⟨g2, c2, rfl, hc, hb, by omega, new g2 hg8 hg2, (World.cell?_of_block (a := ⟨g2, _, none⟩) (hg9.block g2 hg8 (fun e => hg2 e.symm))).trans h167⟩
theorem lent_form {w9 : World} {B : Nat} {a9 : Option Addr} {c9 : Nat} {L : List NV} {y : NV} (h : NodesOwn w9 B (.slice a9 (L.length + 1) c9) (L ++ [y])) : ∃ g9, a9 = some ⟨g9, 0, none⟩ ∧ L.length + 1 ≤ c9 := by
  rcases h.1.2 with ⟨_, hn⟩ | ⟨g, cap, cur, e, _, _, hn, _⟩
  · simp at hn
  · injection e with e1 e2 e3
    exact ⟨g, e1, by simp at hn; omega⟩
theorem lent_far {wr w9 : World} {lv : Value} {o ob : Obj} {b B : Nat} (hb : wr.heap[b]? = some ob) (hr : ∀ g, lv.ownBlock = some g → B ≤ g) (hg : (wr.alloc o).grownBy w9 lv.ownBlock) (hB : b < B) : w9.heap[b]? = some ob :=
  (hg.block b (by have := heap_lt hb; simp; omega) (fun e => by have := hr b e.symm; omega)).trans ((heap_alloc_old _ _ (heap_lt hb)).trans hb)
theorem lent_row {B : Nat} {w wr w1 : World} {o : Obj} {row : Option Nat} (h : Below B w wr) (hB : B ≤ wr.heap.size) (hg : (wr.alloc o).grownBy w1 row) (hr : ∀ g, row = some g → B ≤ g) : Below B w w1 := by
  have hz := hg.size
  refine h.trans ⟨hg.os, hg.tape, hg.output, ?_, fun j hj => ?_⟩
  · simp at hz; omega
  · exact (hg.block j (by simp; omega) (fun e => by have := hr j e.symm; omega)).trans (heap_alloc_old _ _ (by omega))
theorem lent_world {w9 : World} {f : Nat} {x0 x1 x2 y0 y1 y2 z : Value} {t : TypeId} (h : w9.heap[f + 1]? = some (.cells #[y0, y1, y2] t (0, 0))) :
    ((((w9.setCell ⟨f, 0, none⟩ z).setCell ⟨f + 1, 0, none⟩ x0).setCell ⟨f + 1, 1, none⟩ x1).setCell ⟨f + 1, 2, none⟩ x2).heap[f + 1]? = some (.cells #[x0, x1, x2] t (0, 0)) ∧
    (∀ j, f + 2 ≤ j → ((((w9.setCell ⟨f, 0, none⟩ z).setCell ⟨f + 1, 0, none⟩ x0).setCell ⟨f + 1, 1, none⟩ x1).setCell ⟨f + 1, 2, none⟩ x2).heap[j]? = w9.heap[j]?) ∧
    ((((w9.setCell ⟨f, 0, none⟩ z).setCell ⟨f + 1, 0, none⟩ x0).setCell ⟨f + 1, 1, none⟩ x1).setCell ⟨f + 1, 2, none⟩ x2).heap.size = w9.heap.size ∧
    ∀ {w : World}, Below f w w9 → Below f w ((((w9.setCell ⟨f, 0, none⟩ z).setCell ⟨f + 1, 0, none⟩ x0).setCell ⟨f + 1, 1, none⟩ x1).setCell ⟨f + 1, 2, none⟩ x2) := by
  refine ⟨?_, fun j hj => ?_, by simp, fun hb => (((hb.setCell (p := ⟨f, 0, none⟩) (Nat.le_refl _) z).setCell (p := ⟨f + 1, 0, none⟩) (Nat.le_succ _) x0).setCell (p := ⟨f + 1, 1, none⟩) (Nat.le_succ _) x1).setCell (p := ⟨f + 1, 2, none⟩) (Nat.le_succ _) x2⟩
  · have h1 : (w9.setCell ⟨f, 0, none⟩ z).heap[f + 1]? = some (.cells #[y0, y1, y2] t (0, 0)) := by
      rw [Below.heap_setCell _ _ _ _ (by simp)]; exact h
    have := set_heap (set_heap (set_heap h1 0 x0) 1 x1) 2 x2
    simpa using this
  · rw [Below.heap_setCell _ _ _ _ (by simp; omega), Below.heap_setCell _ _ _ _ (by simp; omega), Below.heap_setCell _ _ _ _ (by simp; omega), Below.heap_setCell _ _ _ _ (by simp; omega)]
/-- The end of Lent: the last node is cut off, what lies behind it is told. -/
theorem lent_end {wr w9 W : World} {lv : Value} {L : List NV} {g9 c9 n B B0 : Nat} {o : Obj} (h9 : NodesOwn w9 B (.slice (some ⟨g9, 0, none⟩) (L.length + 1) c9) (L ++ [NV.make [] ⟨false, -71, []⟩ (.slice none 0 0)])) (hS : ∀ x ∈ L, Spare wr B lv x) (hg9 : (wr.alloc o).grownBy w9 lv.ownBlock)
    (hat : (Value.slice (some ⟨g9, 0, none⟩) (L.length + 1) c9).ownBlock = lv.ownBlock ∨ (Value.slice (some ⟨g9, 0, none⟩) (L.length + 1) c9).ownBlock = some (wr.alloc o).heap.size) (hn : L.length = n) (hB : B0 ≤ B) (hW : ∀ j, B ≤ j → W.heap[j]? = w9.heap[j]?) (hs : W.heap.size = w9.heap.size) :
    NodesOwn W B0 (.slice (some ⟨g9, 0, none⟩) n c9) L ∧ (∀ x ∈ L, Spare W B0 (.slice (some ⟨g9, 0, none⟩) n c9) x) ∧ n < c9 ∧ W.cell? ⟨g9, n * 4 + 2, none⟩ = some (.int .i64 (-71)) := by
  subst hn
  have hc := fun j u hu => h9.1.cells (g := g9) rfl j u hu
  obtain ⟨⟨h1, h2⟩, h3⟩ := h9
  rcases h2 with ⟨e, _⟩ | ⟨g, cap, cur, e, hbg, hg, hnc, hm, hsz, ht⟩
  · cases e
  injection e with e1 e2 e3
  injection e1 with e1; injection e1 with e1
  subst e1 e3
  have hlast : (L ++ [NV.make [] ⟨false, -71, []⟩ (.slice none 0 0)])[L.length]? = some (NV.make [] ⟨false, -71, []⟩ (.slice none 0 0)) := by
    rw [List.getElem?_append_right (Nat.le_refl _), Nat.sub_self]; rfl
  have hcell := hc _ _ (nflat_get _ L.length 2 _ hlast (by omega))
  refine ⟨⟨⟨nflat_length L, Or.inr ⟨g9, c9, cur, rfl, Nat.le_trans hB hbg, (hW g9 hbg).trans hg, by omega, hm, hsz, ?_⟩⟩, fun x hx => ?_⟩, fun x hx => ?_, by omega, ?_⟩
  · have := congrArg (List.take (L.length * 4)) ht
    rw [List.take_take, nflat_append, List.take_append_of_le_length (by rw [nflat_length]; omega), Nat.min_eq_left (by simp; omega)] at this
    rw [this, List.take_of_length_le (by rw [nflat_length]; omega)]
  · exact (h3 x (List.mem_append_left _ hx)).of_heap (fun j hj => hW j hj.1) (fun j hj => ⟨Nat.le_trans hB hj.1, by rw [hs]; exact hj.2.1, hj.2.2⟩)
  · obtain ⟨g, c, e1, e2, e3, e4, e5, e6⟩ := hS x hx
    have hz := hg9.size
    have e7 : w9.heap[g]? = wr.heap[g]? := (hg9.block g (by simp; omega) (fun e => e5 e.symm)).trans (heap_alloc_old _ _ e4)
    refine ⟨g, c, e1, e2, Nat.le_trans hB e3, by rw [hs]; simp at hz; omega, fun e => ?_, (World.cell?_of_block (a := ⟨g, _, none⟩) ((hW g e3).trans e7)).trans e6⟩
    have e' : (Value.slice (some ⟨g9, 0, none⟩) (L.length + 1) c9).ownBlock = some g := e
    rcases hat with h | h
    · rw [h] at e'; exact e5 e'
    · rw [h] at e'; injection e' with e'; simp at e'; omega
  · rw [addr_lit, Nat.zero_add] at hcell
    exact (World.cell?_of_block (a := ⟨g9, _, none⟩) (hW g9 hbg)).trans hcell
set_option maxRecDepth 100000 in
set_option maxHeartbeats 8000000 in
theorem lent_calls (ht : TreeAt w nv l T) (hT : ∀ k, T k → k < w.heap.size) (hd : ∀ x ∈ l, x.2.data.length ≤ 1099511627776) (hl : l.length ≤ 1099511627770) :
    Calls Tryz.prog 8 #[.agg #[nv, .int .i64 clock, .int .i64 room]] w fun e w' => ∃ g c L, e = .returned (.agg #[.slice (some ⟨g, 0, none⟩) l.length c, .int .i64 clock, .int .i64 room]) ∧ L.map NV.nd = l ∧ NodesOwn w' w.heap.size (.slice (some ⟨g, 0, none⟩) l.length c) L ∧ (∀ x ∈ L, Spare w' w.heap.size (.slice (some ⟨g, 0, none⟩) l.length c) x) ∧ l.length < c ∧ w'.cell? ⟨g, l.length * 4 + 2, none⟩ = some (.int .i64 (-71)) ∧ Below w.heap.size w w' := by
  obtain ⟨ta, tc, hnv⟩ := ht.form
  subst hnv
  have kt := Lib.hid ht
  have kT := Lib.hid hT
  have kd := Lib.hid hd
  clear ht hT hd
  go_enter Tryz.func8, Tryz.ntmps8
  go_wp2
  have k0 := Lib.hid (LentInv.start (nv := .slice ta l.length tc) (clock := clock) (room := room) (l := l) w)
  go_loopw [3, 4, 5] (fun lv iv _ wr => ∃ i : Nat, i ≤ l.length ∧ iv = .int .i64 i ∧ LentInv w (.slice ta l.length tc) clock room l i lv wr) (fun _ iv _ _ => l.length - (intOf iv).toNat)
  case atStart => exact ⟨0, Nat.zero_le _, rfl, k0.out⟩
  case round =>
    obtain ⟨i, hi, rfl, hI⟩ := hrel
    have kI := Lib.hid hI
    obtain ⟨bx0, bx1, bx2, -⟩ := cells3 hI.box
    have hbl := heap_lt hI.box
    clear hI
    by_cases hlt : i < l.length
    · obtain ⟨x, hx⟩ : ∃ x, l[i]? = some x := ⟨_, List.getElem?_eq_getElem hlt⟩
      have kx := Lib.hid hx
      obtain ⟨b, off, dv, hta, hTb, hbl2, hc0, hc1, hc2, hc3, hdv⟩ := (kt.out.of_heap (w' := wr) (T' := T) (fun j hj => kI.out.below.block j (kT.out j hj)) (fun _ h => h)).at hx
      obtain ⟨da, dc, hdf⟩ := hdv.form
      subst hta hdf
      have hdl := kd.out x (List.mem_of_getElem? kx.out)
      clear hTb hx
      go_wp2
      obtain ⟨L, hLm, hLN, hLS⟩ := kI.out.list
      have kLl := Lib.hid (show L.length ≤ i by have := congrArg List.length hLm; simp at this; omega)
      have kLm := Lib.hid hLm
      have kN := Lib.hid hLN
      have kS := Lib.hid hLS
      clear hLm hLN hLS
      have kXh := Lib.hid (heap_alloc_new wr (.cells #[.string (mk x.1), .bool x.2.dir, .int .i64 x.2.time, .slice da x.2.data.length dc] 54 (0, 0)))
      have kd1 := Lib.hid (hdv.of_heap (w' := wr.alloc (.cells #[.string (mk x.1), .bool x.2.dir, .int .i64 x.2.time, .slice da x.2.data.length dc] 54 (0, 0))) (fun j hj => heap_alloc_old _ _ (Nat.lt_of_lt_of_le (kT.out j hj) kI.out.below.size)) (fun _ h => h))
      have kTl := Lib.hid (show ∀ j, T j → j < (wr.alloc (.cells #[.string (mk x.1), .bool x.2.dir, .int .i64 x.2.time, .slice da x.2.data.length dc] 54 (0, 0))).heap.size from fun j hj => by have := kT.out j hj; have := kI.out.below.size; simp; omega)
      have kW := Lib.hid (below_al (o := .cells #[.string (mk x.1), .bool x.2.dir, .int .i64 x.2.time, .slice da x.2.data.length dc] 54 (0, 0)) (Below.refl wr.heap.size wr))
      generalize wr.alloc (.cells #[.string (mk x.1), .bool x.2.dir, .int .i64 x.2.time, .slice da x.2.data.length dc] 54 (0, 0)) = W1 at *
      generalize hxb : wr.heap.size = xb at *
      obtain ⟨x0, x1, x2, hx3, -⟩ := cells4 kXh.out
      have kX := Lib.hid hx3
      clear hc0 hc1 hc2 hc3 hdv bx0 bx1 bx2 hbl hbl2 x0 x1 x2
      refine lbegin 10 (fun w' => w'.cell? ⟨xb, 3, none⟩ = some (.slice da x.2.data.length dc)) (by kernel_rfl) ?_
      refine ltake 10 0 (some 18) ?_ rfl hx3 (by rfl) (fun w' hw => ?_) ?_
      rotate_left 1
      · go_simp; first | done | with_reducible rfl
      try simp only [pz0, pz1, pz2, pz3]
      refine ltake 10 1 (some 19) ?_ rfl hx3 (by rfl) (fun w' hw => ?_) ?_
      rotate_left 1
      · go_simp; first | done | with_reducible rfl
      try simp only [pz0, pz1, pz2, pz3]
      refine ltake 10 5 (some 23) ?_ rfl hx3 (by rfl) (fun w' hw => ?_) ?_
      rotate_left 1
      · go_simp; first | done | with_reducible rfl
      try simp only [pz0, pz1, pz2, pz3]
      refine ltake 10 6 (some 24) ?_ rfl hx3 (by rfl) (fun w' hw => ?_) ?_
      rotate_left 1
      · go_simp; first | done | with_reducible rfl
      try simp only [pz0, pz1, pz2, pz3]
      refine ltake 10 7 (some 25) ?_ rfl hx3 (by rfl) (fun w' hw => ?_) ?_
      rotate_left 1
      · go_simp; first | done | with_reducible rfl
      try simp only [pz0, pz1, pz2, pz3]
      refine lready (rs := [2, 3]) (by kernel_rfl) (by simp) (lcons rfl (fun K hK => ?_) (lcons rfl (fun K hK => ?_) (lnil)))
      · refine step_append_bytes (by rfl) _ _ (by rfl) W1.heap.size (.slice none 0 0) [] (by rfl) (World.ownsRow_nil _ _ _ _) (.slice da x.2.data.length dc) x.2.data T (by rfl) (kd1.out.of_heap (fun _ _ => rfl) (fun _ h => h)) (by simp; omega) (Nat.le_refl _) ?_
        intro a1 m1 c1 w4 hm1 ho1 hg1
        have kA := Lib.hid (LentA.of_A ho1 hg1)
        have hx4 := kA.out.cell kX.out
        refine hK.out _ _ (fun _ => hx4) (fun hH1 => ?_)
        clear hK K ho1 hg1
        try simp only [pz0, pz1, pz2, pz3]
        refine lready (rs := [3]) (by kernel_rfl) (by simp) (lcons rfl (fun K hK => ?_) (lnil))
        rw [if_pos (by rfl)]
        go_simp
        have hx5 := kA.out.cell5 kX.out (.cells #[.int .u8 167] 5)
        refine hK.out _ _ (fun _ => hx5) (fun hH2 => ?_)
        clear hK K
        try simp only [pz0, pz1, pz2, pz3]
        refine lready (rs := [4]) (by kernel_rfl) (by simp) (lcons rfl (fun K hK => ?_) (lnil))
        refine step_append_bytes (by rfl) _ _ (by rfl) W1.heap.size (.slice a1 m1 c1) ([] ++ x.2.data) (by rfl) kA.out.own5 _ [167] (fun j => j = w4.heap.size) (by rfl) (bytes_block w4 _ _ [167] _ _ rfl rfl (by decide)) (by simp; omega) kA.out.size5 ?_
        intro a2 m2 c2 w6 hm2 ho2 hg2
        have kM := Lib.hid (LentM.of_A kA.out ho2 hg2)
        obtain ⟨g2, rfl, hc2⟩ := kM.out.form hm2
        have hx6 := kM.out.cell kX.out
        have hc2' : (x.2.data.length : Int) ≤ c2 := by simp at hc2; omega
        refine hK.out _ _ (fun _ => hx6) (fun hH3 => ?_)
        clear hK K ho2 hg2
        try simp only [pz0, pz1, pz2, pz3]
        refine ltake 10 8 (some 26) ?_ rfl hx6 (by rfl) (fun w' hw => ?_) ?_
        rotate_left 1
        · go_simp; first | done | with_reducible rfl
        try simp only [pz0, pz1, pz2, pz3]
        refine ltake 10 9 (some 27) ?_ rfl hx6 (by rfl) (fun w' hw => ?_) ?_
        rotate_left 1
        · go_simp; first | done | with_reducible rfl
        try simp only [pz0, pz1, pz2, pz3]
        refine lready (rs := [10]) (by kernel_rfl) (by simp) (lcons rfl (fun K hK => ?_) (lnil))
        rw [if_pos (by rfl)]
        have hf6 := kM.out.frozen kXh.out
        go_simp
        refine hK.out _ _ (fun h => absurd rfl h) (fun _ => ?_)
        clear hK K
        refine ldone (by kernel_rfl) ?_ _
        have kx6 := Lib.hid ((kM.out.below.block xb (heap_lt kXh.out)).trans kXh.out)
        obtain ⟨y0, y1, y2, -, -⟩ := cells4 kx6.out
        have hl6 := heap_lt kx6.out
        have kU := Lib.hid (ubytes_less (d := x.2.data) (by have := kM.out.own; rw [hm2.out] at this; exact this))
        have kW8 := Lib.hid (lent_below (v := .slice (some ⟨g2, 0, none⟩) x.2.data.length c2) (o := .cells #[.string (mk x.1), .bool x.2.dir, .int .i64 x.2.time, .slice (some ⟨g2, 0, none⟩) x.2.data.length c2] 54) hxb kW.out kM.out.below)
        have kZ := Lib.hid (lent_pack hxb kW.out kXh.out kM.out.below kM.out.size2 kU.out kN.out (by have := heap_lt kI.out.res; omega))
        go_wp2_with (at_builtin; refine wpList_append_node _ rfl _ _ rfl (w.heap.size + 2) u3 L rfl kZ.out.1 (NV.make x.1 x.2 (.slice (some ⟨g2, 0, none⟩) x.2.data.length c2)) ⟨w6.heap.size, 0, none⟩ 1 rfl kZ.out.2.1 kZ.out.2.2.1 (by have := kLl.out; omega) kZ.out.2.2.2.1 ?_; intro a9 c9 w9 h9 hg9 hat9; have k9 := Lib.hid h9; have kg9 := Lib.hid hg9; have kh9 := Lib.hid hat9; clear h9 hg9 hat9)
        exact ⟨⟨i + 1, by omega, by go_num, LentInv.next kI.out kx.out kLm.out kN.out kS.out kW8.out kZ.out.2.2.2.2.1 kZ.out.2.2.2.2.2.1 kZ.out.2.2.2.2.2.2.1 kU.out.2.1 kZ.out.2.2.2.2.2.2.2 k9.out kg9.out kh9.out⟩, by simp [intOf]; omega⟩
      · rw [if_pos (by rfl)]
        go_simp
        have hx5 := lent_cell5 kX.out (.cells #[.int .u8 167] 5)
        refine hK.out _ _ (fun _ => hx5) (fun hH4 => ?_)
        clear hK K
        try simp only [pz0, pz1, pz2, pz3]
        refine lready (rs := [2]) (by kernel_rfl) (by simp) (lcons rfl (fun K hK => ?_) (lnil))
        refine step_append_bytes (by rfl) _ _ (by rfl) W1.heap.size (.slice none 0 0) [] (by rfl) (World.ownsRow_nil _ _ _ _) (.slice da x.2.data.length dc) x.2.data T (by rfl) (kd1.out.of_heap (fun j hj => heap_alloc_old _ _ (kTl.out j hj)) (fun _ h => h)) (by simp; omega) (by simp) ?_
        intro a1 m1 c1 w4 hm1 ho1 hg1
        have kA := Lib.hid (LentA.of_B ho1 hg1)
        have kby := Lib.hid (LentA.keep (bytes_block W1.drew 5 (0, 0) [167] _ _ rfl rfl (by decide)) (hg1.block _ (by simp) (by simp [Value.ownBlock])))
        have hx4 := kA.out.cell kX.out
        refine hK.out _ _ (fun _ => hx4) (fun hH5 => ?_)
        clear hK K ho1 hg1
        try simp only [pz0, pz1, pz2, pz3]
        refine lready (rs := [4]) (by kernel_rfl) (by simp) (lcons rfl (fun K hK => ?_) (lnil))
        refine step_append_bytes (by rfl) _ _ (by rfl) W1.heap.size (.slice a1 m1 c1) ([] ++ x.2.data) (by rfl) kA.out.own _ [167] (fun j => j = W1.heap.size) (by rfl) kby.out (by simp; omega) kA.out.below.size ?_
        intro a2 m2 c2 w6 hm2 ho2 hg2
        have kM := Lib.hid (LentM.of_B kA.out ho2 hg2)
        obtain ⟨g2, rfl, hc2⟩ := kM.out.form hm2
        have hx6 := kM.out.cell kX.out
        have hc2' : (x.2.data.length : Int) ≤ c2 := by simp at hc2; omega
        refine hK.out _ _ (fun _ => hx6) (fun hH6 => ?_)
        clear hK K ho2 hg2
        try simp only [pz0, pz1, pz2, pz3]
        refine ltake 10 8 (some 26) ?_ rfl hx6 (by rfl) (fun w' hw => ?_) ?_
        rotate_left 1
        · go_simp; first | done | with_reducible rfl
        try simp only [pz0, pz1, pz2, pz3]
        refine ltake 10 9 (some 27) ?_ rfl hx6 (by rfl) (fun w' hw => ?_) ?_
        rotate_left 1
        · go_simp; first | done | with_reducible rfl
        try simp only [pz0, pz1, pz2, pz3]
        refine lready (rs := [10]) (by kernel_rfl) (by simp) (lcons rfl (fun K hK => ?_) (lnil))
        rw [if_pos (by rfl)]
        have hf6 := kM.out.frozen kXh.out
        go_simp
        refine hK.out _ _ (fun h => absurd rfl h) (fun _ => ?_)
        clear hK K
        refine ldone (by kernel_rfl) ?_ _
        have kx6 := Lib.hid ((kM.out.below.block xb (heap_lt kXh.out)).trans kXh.out)
        obtain ⟨y0, y1, y2, -, -⟩ := cells4 kx6.out
        have hl6 := heap_lt kx6.out
        have kU := Lib.hid (ubytes_less (d := x.2.data) (by have := kM.out.own; rw [hm2.out] at this; exact this))
        have kW8 := Lib.hid (lent_below (v := .slice (some ⟨g2, 0, none⟩) x.2.data.length c2) (o := .cells #[.string (mk x.1), .bool x.2.dir, .int .i64 x.2.time, .slice (some ⟨g2, 0, none⟩) x.2.data.length c2] 54) hxb kW.out kM.out.below)
        have kZ := Lib.hid (lent_pack hxb kW.out kXh.out kM.out.below kM.out.size2 kU.out kN.out (by have := heap_lt kI.out.res; omega))
        go_wp2_with (at_builtin; refine wpList_append_node _ rfl _ _ rfl (w.heap.size + 2) u3 L rfl kZ.out.1 (NV.make x.1 x.2 (.slice (some ⟨g2, 0, none⟩) x.2.data.length c2)) ⟨w6.heap.size, 0, none⟩ 1 rfl kZ.out.2.1 kZ.out.2.2.1 (by have := kLl.out; omega) kZ.out.2.2.2.1 ?_; intro a9 c9 w9 h9 hg9 hat9; have k9 := Lib.hid h9; have kg9 := Lib.hid hg9; have kh9 := Lib.hid hat9; clear h9 hg9 hat9)
        exact ⟨⟨i + 1, by omega, by go_num, LentInv.next kI.out kx.out kLm.out kN.out kS.out kW8.out kZ.out.2.2.2.2.1 kZ.out.2.2.2.2.2.1 kZ.out.2.2.2.2.2.2.1 kU.out.2.1 kZ.out.2.2.2.2.2.2.2 k9.out kg9.out kh9.out⟩, by simp [intOf]; omega⟩
    · have hil : i = l.length := by omega
      subst hil
      obtain ⟨L, hLm, hLN, hLS⟩ := kI.out.list
      rw [List.take_length] at hLm
      have hLl : L.length = l.length := by have := congrArg List.length hLm; simpa using this
      have kLl := Lib.hid hLl
      have kLm := Lib.hid hLm
      have kN := Lib.hid hLN
      have kS := Lib.hid hLS
      have kbox := Lib.hid kI.out.box
      have kres := Lib.hid kI.out.res
      have kb := Lib.hid kI.out.below
      have bf0 := (cells3 kI.out.box).2.2.2 0
      obtain ⟨r0, r1, r2, rf⟩ := cells3 kI.out.res
      have rf0 := rf 0
      have rf1 := rf 1
      have rf2 := rf 2
      have hrl := heap_lt kI.out.res
      have hsz2 := heap_lt kI.out.box
      have hrow := fun g hg => (hLN.lt g hg).1
      have khr := Lib.hid hrow
      obtain ⟨ua, uc, huf⟩ := hLN.form
      subst huf
      have kNa := Lib.hid (fun (o : Obj) => kN.out.keepb (w' := wr.alloc o) (fun j hj => heap_alloc_old _ _ hj) (by simp))
      have ksrc := Lib.hid (cells_new wr (NV.make [] ⟨false, -71, []⟩ (.slice none 0 0)).cells 54)
      have kub := Lib.hid (fun (W : World) (S : Nat → Prop) => (show UBytes W (.slice none 0 0) [] S from ⟨BytesAt.nil _ _, fun b off n c e hn => by injection e with e1; cases e1⟩))
      clear hLl hLm hLS rf hLN hrow
      go_wp2_with (at_builtin; refine wpList_append_node _ rfl _ _ rfl (w.heap.size + 2) (.slice ua L.length uc) L rfl (kNa.out _) (NV.make [] ⟨false, -71, []⟩ (.slice none 0 0)) ⟨wr.heap.size, 0, none⟩ 1 rfl ksrc.out (kub.out _ _) (by have := kLl.out; omega) (by simp; omega) ?_; intro a9 c9 w9 h9 hg9 hat9; obtain ⟨g9, rfl, hc9⟩ := lent_form h9; have k9 := Lib.hid h9; have kg9 := Lib.hid hg9; have hbx := Lib.hid (lent_far kbox.out khr.out hg9 (by omega)); have hrs := Lib.hid (lent_far kres.out khr.out hg9 (by omega)); have kh9 := Lib.hid hat9; clear h9 hg9 hat9; have hb9 := (cells3 hbx.out).2.2.2 0; have hbl9 := heap_lt hbx.out; obtain ⟨q0, q1, q2, -⟩ := cells3 hbx.out; obtain ⟨s0, s1, s2, sf⟩ := cells3 hrs.out; have sf0 := sf 0; have sf1 := sf 1; have sf2 := sf 2; have hrl9 := heap_lt hrs.out; clear sf)
      obtain ⟨hf1, hf2, hf3, hf4⟩ := lent_world (x0 := .slice (some ⟨g9, 0, none⟩) L.length c9) (x1 := .int .i64 clock) (x2 := .int .i64 room) (z := .slice (some ⟨g9, 0, none⟩) L.length c9) hrs.out
      have hf5 := hf4 (lent_row kb.out kb.out.size kg9.out (fun g e => by have := khr.out g e; omega))
      have hend := lent_end k9.out kS.out kg9.out kh9.out kLl.out (show w.heap.size ≤ w.heap.size + 2 by omega) hf2 hf3
      generalize ((((w9.setCell ⟨w.heap.size, 0, none⟩ (.slice (some ⟨g9, 0, none⟩) L.length c9)).setCell ⟨w.heap.size + 1, 0, none⟩ (.slice (some ⟨g9, 0, none⟩) L.length c9)).setCell ⟨w.heap.size + 1, 1, none⟩ (.int .i64 clock)).setCell ⟨w.heap.size + 1, 2, none⟩ (.int .i64 room)) = W9 at *
      obtain ⟨r0, r1, r2, -⟩ := cells3 hf1
      have hl9 := kLl.out
      refine bodyPost_ret (v := .agg #[.slice (some ⟨g9, 0, none⟩) L.length c9, .int .i64 clock, .int .i64 room]) (by simp [results, Tryz.results8, go_sem, r0, r1, r2]) rfl ⟨g9, c9, L, by rw [hl9], kLm.out, hend.1, hend.2.1, hend.2.2.1, hend.2.2.2, hf5⟩
end
end Go.Proofs.YtejofgdglpmlkaaGreatDoor
