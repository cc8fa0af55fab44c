/-
  lent: members in memory of their own, with one more behind each list. Conditions: at most 2^40 members, data of at most 2^40 bytes.
-/
import Derived.Test.YtnjagoglabllaaaGreatDoorArOwn
import Derived.Test.YtnjagoglabllaaaGreatDoorArHeld
import Derived.Lib.SmallJoins
namespace Go.Proofs.YtnjagoglabllaaaGreatDoor
open Go.RowKit

theorem wpList_append_mem {ops : Array Oper} {rest : List Oper} {o : Oper} {a : Act} {Q : Exit → Act → World → Prop} (w : World) (hgd : o.guard = none) (s x : Operand)
    (hop : o.op = Op.call { callee := Callee.builtin Builtin.append, args := #[s, x], argTypes := #[22, 22] }) (B : Nat) (v : Value) (L : List NV) (hs : a.eval s = v) (h : MemsOwn w B v L) (y : NV) (ad : Addr) (c : Nat) (hx : a.eval x = .slice (some ad) 1 c)
    (hc : ∀ j u, y.cells[j]? = some u → w.cell? (ad.add j) = some u) (hb : UBytes w y.dv y.m.data (fun j => B ≤ j ∧ j < w.heap.size ∧ v.ownBlock ≠ some j)) (hl : L.length ≤ 1099511627775) (hB : B ≤ w.heap.size)
    (hK : ∀ a' c' w', MemsOwn w' B (.slice a' (L.length + 1) c') (L ++ [y]) → w.grownBy w' v.ownBlock → ((Value.slice a' (L.length + 1) c').ownBlock = v.ownBlock ∨ (Value.slice a' (L.length + 1) c').ownBlock = some w.heap.size) → wpList Tryz.prog ops Q rest (a.put o.dst (.slice a' (L.length + 1) c')) w') :
    wpList Tryz.prog ops Q (o :: rest) a w := by
  refine wpList_plain hgd fun K hK' => ?_
  obtain ⟨a', c', w', hrun, r1, r2, r3⟩ := run_append_mem w B v L h y ad c o.type hc hb hl hB
  unfold Oper.wp
  simp [execOp, hop, resolve, invoke, builtin, hs, hx, hrun, Result.andThen]
  exact hK' _ _ (hK a' c' w' r1 r2 r3)
theorem MemsOwn.keepb {w w' : World} {B : Nat} {v : Value} {L : List NV} (h : MemsOwn w B v L) (he : ∀ j, j < w.heap.size → w'.heap[j]? = w.heap[j]?) (hs : w.heap.size ≤ w'.heap.size) : MemsOwn w' B v L := by
  obtain ⟨⟨h1, h2⟩, h3⟩ := h
  refine ⟨⟨h1, ?_⟩, fun x hx => (h3 x hx).of_heap (fun j hj => he j hj.2.1) (fun j hj => ⟨hj.1, Nat.lt_of_lt_of_le hj.2.1 hs, hj.2.2⟩)⟩
  rcases h2 with h2 | ⟨g, cap, cur, e, hb, hg, r⟩
  · exact Or.inl h2
  · exact Or.inr ⟨g, cap, cur, e, hb, (he g (heap_lt hg)).trans hg, r⟩
/-- One byte more behind a node's bytes. -/
def Spare (w : World) (B : Nat) (lv : Value) (x : NV) : Prop :=
  ∃ g c, x.dv = .slice (some ⟨g, 0, none⟩) x.m.data.length c ∧ x.m.data.length < c ∧ B ≤ g ∧ g < w.heap.size ∧ lv.ownBlock ≠ some g ∧ w.cell? ⟨g, x.m.data.length, none⟩ = some (.int .u8 167)
theorem Spare.on {w w' : World} {B : Nat} {lv lv' : Value} {x : NV} (h : Spare w B lv x) (hg : ∀ g, B ≤ g → g < w.heap.size → lv.ownBlock ≠ some g → w'.heap[g]? = w.heap[g]? ∧ lv'.ownBlock ≠ some g) (hs : w.heap.size ≤ w'.heap.size) : Spare w' B lv' x := by
  obtain ⟨g, c, h1, h2, h3, h4, h5, h6⟩ := h
  obtain ⟨e1, e2⟩ := hg g h3 h4 h5
  exact ⟨g, c, h1, h2, h3, Nat.lt_of_lt_of_le h4 hs, e2, (World.cell?_of_block (a := ⟨g, _, none⟩) e1).trans h6⟩
/-- Behind the first append: its row, what has stayed. -/
structure LentA (W1 : World) (xs : Bs) (row : Value) (w4 : World) : Prop where make ::
  below : Below W1.heap.size W1 w4
  own : w4.ownsRow W1.heap.size 5 1 row xs.length (ucells xs)
theorem LentA.of_A {W1 w4 : World} {xs : Bs} {row : Value} (ho : w4.ownsRow W1.heap.size 5 1 row xs.length (ucells xs)) (hg : W1.drew.grownBy w4 (Value.slice none 0 0).ownBlock) : LentA W1 xs row w4 :=
  ⟨⟨hg.os, hg.tape, hg.output, hg.size, fun j hj => hg.block j hj (by simp [Value.ownBlock])⟩, ho⟩
theorem LentA.of_B {W1 w4 : World} {xs : Bs} {row : Value} {o : Obj} (ho : w4.ownsRow W1.heap.size 5 1 row xs.length (ucells xs)) (hg : (W1.drew.alloc o).grownBy w4 (Value.slice none 0 0).ownBlock) : LentA W1 xs row w4 := by
  have h2 := hg.size
  simp at h2
  exact ⟨⟨hg.os, hg.tape, hg.output, by show W1.heap.size ≤ _; have : W1.drew.heap.size = W1.heap.size := rfl; omega, fun j hj => (hg.block j (by simp; have : W1.drew.heap.size = W1.heap.size := rfl; omega) (by simp [Value.ownBlock])).trans (heap_alloc_old W1.drew o hj)⟩, ho⟩
theorem LentA.cell {W1 w4 : World} {xs : Bs} {row v : Value} {xb o : Nat} (h : LentA W1 xs row w4) (hx : W1.cell? ⟨xb, o, none⟩ = some v) : w4.cell? ⟨xb, o, none⟩ = some v := (h.below.cell (p := ⟨xb, o, none⟩) (World.block_lt_of_cell? W1 _ hx)).trans hx
theorem LentA.cell5 {W1 w4 : World} {xs : Bs} {row v : Value} {xb o : Nat} (h : LentA W1 xs row w4) (hx : W1.cell? ⟨xb, o, none⟩ = some v) (ob : Obj) : (w4.alloc ob).cell? ⟨xb, o, none⟩ = some v :=
  (World.cell?_alloc_lt _ _ _ (World.block_lt_of_cell? w4 _ (h.cell hx))).trans (h.cell hx)
theorem lent_cell5 {W1 : World} {v : Value} {xb o : Nat} (hx : W1.cell? ⟨xb, o, none⟩ = some v) (ob : Obj) : (W1.drew.alloc ob).cell? ⟨xb, o, none⟩ = some v :=
  (World.cell?_alloc_lt W1.drew _ _ (World.block_lt_of_cell? W1 _ hx)).trans hx
theorem LentA.size5 {W1 w4 : World} {xs : Bs} {row : Value} {o : Obj} (h : LentA W1 xs row w4) : W1.heap.size ≤ (w4.alloc o).heap.size := by have := h.below.size; simp; omega
theorem LentA.own5 {W1 w4 : World} {xs : Bs} {row : Value} {o : Obj} (h : LentA W1 xs row w4) : (w4.alloc o).ownsRow W1.heap.size 5 1 row xs.length (ucells xs) := by
  refine h.own.kept (row := none) (World.grownBy_alloc _ _ _) ?_
  by_cases e : row.ownBlock = none
  · exact Or.inl e
  · exact Or.inr (fun e' => e (by cases h0 : row.ownBlock with | none => rfl | some g => rw [h0] at e'; cases e'))
theorem LentA.keep {W1 w4 : World} {ys : Bs} {v : Value} {o : Obj} (hb : BytesAt (W1.drew.alloc o) v ys (fun j => j = W1.drew.heap.size)) (h : w4.heap[W1.drew.heap.size]? = (W1.drew.alloc o).heap[W1.drew.heap.size]?) : BytesAt w4 v ys (fun j => j = W1.heap.size) :=
  hb.of_heap (fun j hj => by subst hj; exact h) (fun _ h => h)
/-- Behind the second append. -/
structure LentM (W1 : World) (xs : Bs) (row : Value) (w6 : World) : Prop where make ::
  below : Below W1.heap.size W1 w6
  own : w6.ownsRow W1.heap.size 5 1 row (xs ++ [167]).length (ucells (xs ++ [167]))
theorem LentM.of_A {W1 w4 w6 : World} {xs : Bs} {row row2 : Value} {o : Obj} (h : LentA W1 xs row w4) (ho : w6.ownsRow W1.heap.size 5 1 row2 (xs ++ [167]).length (ucells (xs ++ [167]))) (hg : (w4.alloc o).grownBy w6 row.ownBlock) : LentM W1 xs row2 w6 := by
  have h1 := h.below.size
  have h2 := hg.size
  simp at h2
  exact ⟨⟨hg.os.trans h.below.os, hg.tape.trans h.below.tape, hg.output.trans h.below.output, by omega, fun j hj => (hg.block j (by simp; omega) (fun e => by have := (h.own.lt j e.symm).1; omega)).trans ((heap_alloc_old _ _ (by omega)).trans (h.below.block j hj))⟩, ho⟩
theorem LentM.of_B {W1 w4 w6 : World} {xs : Bs} {row row2 : Value} (h : LentA W1 xs row w4) (ho : w6.ownsRow W1.heap.size 5 1 row2 (xs ++ [167]).length (ucells (xs ++ [167]))) (hg : w4.grownBy w6 row.ownBlock) : LentM W1 xs row2 w6 := by
  have h1 := h.below.size
  have h2 := hg.size
  exact ⟨⟨hg.os.trans h.below.os, hg.tape.trans h.below.tape, hg.output.trans h.below.output, by omega, fun j hj => (hg.block j (by omega) (fun e => by have := (h.own.lt j e.symm).1; omega)).trans (h.below.block j hj)⟩, ho⟩
theorem LentM.form {W1 w6 : World} {xs : Bs} {a2 : Option Addr} {m2 c2 : Nat} (h : LentM W1 xs (.slice a2 m2 c2) w6) (_ : Hid (m2 = (xs ++ [167]).length)) : ∃ g2, a2 = some ⟨g2, 0, none⟩ ∧ xs.length < c2 := by
  rcases h.own.2 with ⟨_, hn⟩ | ⟨g, cap, cur, e, _, _, hn, _⟩
  · simp at hn
  · injection e with e1 e2 e3
    exact ⟨g, e1, by simp at hn; omega⟩
theorem LentM.cell {W1 w6 : World} {xs : Bs} {row v : Value} {xb o : Nat} (h : LentM W1 xs row w6) (hx : W1.cell? ⟨xb, o, none⟩ = some v) : w6.cell? ⟨xb, o, none⟩ = some v := (h.below.cell (p := ⟨xb, o, none⟩) (World.block_lt_of_cell? W1 _ hx)).trans hx
theorem LentM.frozen {W1 w6 : World} {xs : Bs} {row : Value} {xb : Nat} {cs : Array Value} {t : TypeId} (h : LentM W1 xs row w6) (hx : W1.heap[xb]? = some (.cells cs t (0, 0))) : w6.frozen? ⟨xb, 2, none⟩ = false := Go.Joins.unfrozen_of_block ((h.below.block xb (heap_lt hx)).trans hx) 2
theorem lent_cap {w : World} {B g c n : Nat} {L : List NV} (h : MemsOwn w B (.slice (some ⟨g, 0, none⟩) n c) L) : (c : Int) ≤ 9223372036854775807 := by
  rcases h.1.2 with ⟨e, _⟩ | ⟨g', cap, cur, e, _, _, _, hm, _⟩
  · cases e
  · injection e with e1 e2 e3
    subst e3
    unfold maxLen at hm
    omega
section
variable {l : List Mem} {nv : Value} {T : Nat → Prop} {w : World}
/-- What lent's loop keeps. -/
structure LentInv (w : World) (l : List Mem) (i : Nat) (lv : Value) (wr : World) : Prop where make ::
  below : Below w.heap.size w wr
  list : ∃ L, L.map NV.m = l.take i ∧ MemsOwn wr w.heap.size lv L ∧ ∀ x ∈ L, Spare wr w.heap.size lv x
theorem LentInv.start (w : World) : LentInv w l 0 (.slice none 0 0) w := ⟨Below.refl _ _, [], rfl, MemsOwn.nil _ _, fun _ h => by cases h⟩
theorem lent_below {wr W1 w6 : World} {xb : Nat} {v : Value} {o : Obj} (hx : wr.heap.size = xb) (hW : Below xb wr W1) (h6 : Below W1.heap.size W1 w6) : Below wr.heap.size wr ((w6.setCell ⟨xb, 2, none⟩ v).alloc o) := by
  subst hx
  exact below_al ((hW.trans (h6.mono hW.size)).setCell (p := ⟨wr.heap.size, 2, none⟩) (Nat.le_refl _) v)
theorem LentM.size2 {W1 w6 : World} {xs : Bs} {g2 m2 c2 : Nat} (h : LentM W1 xs (.slice (some ⟨g2, 0, none⟩) m2 c2) w6) : W1.heap.size ≤ g2 ∧ g2 < w6.heap.size := h.own.lt g2 rfl
theorem lent_pack {wr W1 w6 : World} {xb g2 c2 : Nat} {x : Mem} {lv dv : Value} {L : List NV} {B : Nat} (hx : wr.heap.size = xb) (hW : Below xb wr W1) (hX : W1.heap[xb]? = some (.cells #[.string (mk x.name), .int .i64 x.date, dv] 37 (0, 0))) (h6 : Below W1.heap.size W1 w6) (hg2 : W1.heap.size ≤ g2 ∧ g2 < w6.heap.size)
    (hU : UBytes w6 (.slice (some ⟨g2, 0, none⟩) x.data.length c2) x.data (fun j => j = g2) ∧ x.data.length < c2 ∧ B ≤ g2 ∧ g2 < w6.heap.size ∧ w6.cell? ⟨g2, x.data.length, none⟩ = some (.int .u8 167)) (hN : MemsOwn wr (w.heap.size) lv L) (hw2 : w.heap.size ≤ wr.heap.size) :
    MemsOwn ((w6.setCell ⟨xb, 2, none⟩ (.slice (some ⟨g2, 0, none⟩) x.data.length c2)).alloc (.cells #[.string (mk x.name), .int .i64 x.date, .slice (some ⟨g2, 0, none⟩) x.data.length c2] 37)) (w.heap.size) lv L ∧
    (∀ j u, (NV.make x (.slice (some ⟨g2, 0, none⟩) x.data.length c2)).cells[j]? = some u → ((w6.setCell ⟨xb, 2, none⟩ (.slice (some ⟨g2, 0, none⟩) x.data.length c2)).alloc (.cells #[.string (mk x.name), .int .i64 x.date, .slice (some ⟨g2, 0, none⟩) x.data.length c2] 37)).cell? ((⟨w6.heap.size, 0, none⟩ : Addr).add j) = some u) ∧
    UBytes ((w6.setCell ⟨xb, 2, none⟩ (.slice (some ⟨g2, 0, none⟩) x.data.length c2)).alloc (.cells #[.string (mk x.name), .int .i64 x.date, .slice (some ⟨g2, 0, none⟩) x.data.length c2] 37)) (.slice (some ⟨g2, 0, none⟩) x.data.length c2) x.data (fun j => w.heap.size ≤ j ∧ j < ((w6.setCell ⟨xb, 2, none⟩ (.slice (some ⟨g2, 0, none⟩) x.data.length c2)).alloc (.cells #[.string (mk x.name), .int .i64 x.date, .slice (some ⟨g2, 0, none⟩) x.data.length c2] 37)).heap.size ∧ lv.ownBlock ≠ some j) ∧
    w.heap.size ≤ ((w6.setCell ⟨xb, 2, none⟩ (.slice (some ⟨g2, 0, none⟩) x.data.length c2)).alloc (.cells #[.string (mk x.name), .int .i64 x.date, .slice (some ⟨g2, 0, none⟩) x.data.length c2] 37)).heap.size ∧
    w.heap.size ≤ g2 ∧ wr.heap.size ≤ g2 ∧ g2 < ((w6.setCell ⟨xb, 2, none⟩ (.slice (some ⟨g2, 0, none⟩) x.data.length c2)).alloc (.cells #[.string (mk x.name), .int .i64 x.date, .slice (some ⟨g2, 0, none⟩) x.data.length c2] 37)).heap.size ∧
    ((w6.setCell ⟨xb, 2, none⟩ (.slice (some ⟨g2, 0, none⟩) x.data.length c2)).alloc (.cells #[.string (mk x.name), .int .i64 x.date, .slice (some ⟨g2, 0, none⟩) x.data.length c2] 37)).cell? ⟨g2, x.data.length, none⟩ = some (.int .u8 167) := by
  have hxl := heap_lt hX
  have h8 := lent_below (v := .slice (some ⟨g2, 0, none⟩) x.data.length c2) (o := .cells #[.string (mk x.name), .int .i64 x.date, .slice (some ⟨g2, 0, none⟩) x.data.length c2] 37) hx hW h6
  have hz : ((w6.setCell ⟨xb, 2, none⟩ (.slice (some ⟨g2, 0, none⟩) x.data.length c2)).alloc (.cells #[.string (mk x.name), .int .i64 x.date, .slice (some ⟨g2, 0, none⟩) x.data.length c2] 37)).heap.size = w6.heap.size + 1 := by simp
  have he : ((w6.setCell ⟨xb, 2, none⟩ (.slice (some ⟨g2, 0, none⟩) x.data.length c2)).alloc (.cells #[.string (mk x.name), .int .i64 x.date, .slice (some ⟨g2, 0, none⟩) x.data.length c2] 37)).heap[g2]? = w6.heap[g2]? :=
    (heap_alloc_old _ _ (by simp; omega)).trans ((set_grown w6 xb 2 _).block g2 hg2.2 (fun e => by injection e with e; omega))
  have hW1 := hW.size
  refine ⟨hN.keepb h8.block h8.size, ?_, hU.1.of_heap (fun j hj => by subst hj; exact he) (fun j hj => by subst hj; exact ⟨by omega, by omega, fun e => by have := (hN.lt _ e).2; omega⟩), by omega, by omega, by omega, by omega, (World.cell?_of_block (a := ⟨g2, _, none⟩) he).trans hU.2.2.2.2⟩
  intro j u hu
  have := cells_new (w6.setCell ⟨xb, 2, none⟩ (.slice (some ⟨g2, 0, none⟩) x.data.length c2)) (NV.make x (.slice (some ⟨g2, 0, none⟩) x.data.length c2)).cells 37 j u hu
  have e : (w6.setCell ⟨xb, 2, none⟩ (.slice (some ⟨g2, 0, none⟩) x.data.length c2)).heap.size = w6.heap.size := by simp
  rw [e] at this
  exact this
/-- A node more: what Lent's loop keeps. -/
theorem LentInv.next {i g2 c2 : Nat} {wr w9 : World} {lv lv' : Value} {L : List NV} {x : Mem} {W8 : World} (h : LentInv w l i lv wr) (hx : l[i]? = some x) (hL : L.map NV.m = l.take i) (hN : MemsOwn wr (w.heap.size) lv L) (hS : ∀ y ∈ L, Spare wr (w.heap.size) lv y)
    (h8 : Below wr.heap.size wr W8) (hb : w.heap.size ≤ g2) (hgw : wr.heap.size ≤ g2) (hg8 : g2 < W8.heap.size) (hc : x.data.length < c2) (h167 : W8.cell? ⟨g2, x.data.length, none⟩ = some (.int .u8 167))
    (h9 : MemsOwn w9 (w.heap.size) lv' (L ++ [NV.make x (.slice (some ⟨g2, 0, none⟩) x.data.length c2)])) (hg9 : W8.grownBy w9 lv.ownBlock) (hat : lv'.ownBlock = lv.ownBlock ∨ lv'.ownBlock = some W8.heap.size) : LentInv w l (i + 1) lv' w9 := by
  have hlv := fun g hg => hN.lt g hg
  have h8z := h8.size
  have h9z := hg9.size
  have hbz := h.below.size
  have far : ∀ j, j < wr.heap.size → lv.ownBlock ≠ some j → w9.heap[j]? = wr.heap[j]? := fun j hj hne => (hg9.block j (by omega) (fun e => hne e.symm)).trans (h8.block j hj)
  have hlow : ∀ j, j < w.heap.size → lv.ownBlock ≠ some j := fun j hj e => by have := (hlv j e).1; omega
  have new : ∀ g, g < W8.heap.size → lv.ownBlock ≠ some g → lv'.ownBlock ≠ some g := fun g hg hne e => by
    rcases hat with h1 | h1
    · rw [h1] at e; exact hne e
    · rw [h1] at e; injection e with e; omega
  have hg2 : lv.ownBlock ≠ some g2 := fun e => by have := (hlv g2 e).2; omega
  refine ⟨⟨(hg9.os.trans h8.os).trans h.below.os, (hg9.tape.trans h8.tape).trans h.below.tape, (hg9.output.trans h8.output).trans h.below.output, by omega, fun j hj => (far j (by omega) (hlow j (by omega))).trans (h.below.block j hj)⟩, _, ?_, h9, fun y hy => ?_⟩
  · rw [List.map_append, hL, take_more hx]; rfl
  · rcases List.mem_append.1 hy with hy | hy
    · exact (hS y hy).on (fun g hg1 hg2 hg3 => ⟨far g hg2 hg3, new g (by omega) hg3⟩) (by omega)
    · rw [List.mem_singleton] at hy
      subst hy
      exact ⟨g2, c2, rfl, hc, hb, by omega, new g2 hg8 hg2, (World.cell?_of_block (a := ⟨g2, _, none⟩) (hg9.block g2 hg8 (fun e => hg2 e.symm))).trans h167⟩
theorem lent_form {w9 : World} {B : Nat} {a9 : Option Addr} {c9 : Nat} {L : List NV} {y : NV} (h : MemsOwn w9 B (.slice a9 (L.length + 1) c9) (L ++ [y])) : ∃ g9, a9 = some ⟨g9, 0, none⟩ ∧ L.length + 1 ≤ c9 := by
  rcases h.1.2 with ⟨_, hn⟩ | ⟨g, cap, cur, e, _, _, hn, _⟩
  · simp at hn
  · injection e with e1 e2 e3
    exact ⟨g, e1, by simp at hn; omega⟩
theorem lent_far {wr w9 : World} {lv : Value} {o ob : Obj} {b B : Nat} (hb : wr.heap[b]? = some ob) (hr : ∀ g, lv.ownBlock = some g → B ≤ g) (hg : (wr.alloc o).grownBy w9 lv.ownBlock) (hB : b < B) : w9.heap[b]? = some ob :=
  (hg.block b (by have := heap_lt hb; simp; omega) (fun e => by have := hr b e.symm; omega)).trans ((heap_alloc_old _ _ (heap_lt hb)).trans hb)
/-- The end of Lent: the last node is cut off, what lies behind it is told. -/
theorem lent_end {wr w9 W : World} {lv : Value} {L : List NV} {g9 c9 n B B0 : Nat} {o : Obj} (h9 : MemsOwn w9 B (.slice (some ⟨g9, 0, none⟩) (L.length + 1) c9) (L ++ [NV.make ⟨[], -71, []⟩ (.slice none 0 0)])) (hS : ∀ x ∈ L, Spare wr B lv x) (hg9 : (wr.alloc o).grownBy w9 lv.ownBlock)
    (hat : (Value.slice (some ⟨g9, 0, none⟩) (L.length + 1) c9).ownBlock = lv.ownBlock ∨ (Value.slice (some ⟨g9, 0, none⟩) (L.length + 1) c9).ownBlock = some (wr.alloc o).heap.size) (hn : L.length = n) (hB : B0 ≤ B) (hW : ∀ j, B ≤ j → W.heap[j]? = w9.heap[j]?) (hs : W.heap.size = w9.heap.size) :
    MemsOwn W B0 (.slice (some ⟨g9, 0, none⟩) n c9) L ∧ (∀ x ∈ L, Spare W B0 (.slice (some ⟨g9, 0, none⟩) n c9) x) ∧ n < c9 ∧ W.cell? ⟨g9, n * 3 + 1, none⟩ = some (.int .i64 (-71)) := by
  subst hn
  have hc := fun j u hu => h9.1.cells (g := g9) rfl j u hu
  obtain ⟨⟨h1, h2⟩, h3⟩ := h9
  rcases h2 with ⟨e, _⟩ | ⟨g, cap, cur, e, hbg, hg, hnc, hm, hsz, ht⟩
  · cases e
  injection e with e1 e2 e3
  injection e1 with e1; injection e1 with e1
  subst e1 e3
  have hlast : (L ++ [NV.make ⟨[], -71, []⟩ (.slice none 0 0)])[L.length]? = some (NV.make ⟨[], -71, []⟩ (.slice none 0 0)) := by
    rw [List.getElem?_append_right (Nat.le_refl _), Nat.sub_self]; rfl
  have hcell := hc _ _ (nflat_get _ L.length 1 _ hlast (by omega))
  refine ⟨⟨⟨nflat_length L, Or.inr ⟨g9, c9, cur, rfl, Nat.le_trans hB hbg, (hW g9 hbg).trans hg, by omega, hm, hsz, ?_⟩⟩, fun x hx => ?_⟩, fun x hx => ?_, by omega, ?_⟩
  · have := congrArg (List.take (L.length * 3)) ht
    rw [List.take_take, nflat_append, List.take_append_of_le_length (by rw [nflat_length]; omega), Nat.min_eq_left (by simp; omega)] at this
    rw [this, List.take_of_length_le (by rw [nflat_length]; omega)]
  · exact (h3 x (List.mem_append_left _ hx)).of_heap (fun j hj => hW j hj.1) (fun j hj => ⟨Nat.le_trans hB hj.1, by rw [hs]; exact hj.2.1, hj.2.2⟩)
  · obtain ⟨g, c, e1, e2, e3, e4, e5, e6⟩ := hS x hx
    have hz := hg9.size
    have e7 : w9.heap[g]? = wr.heap[g]? := (hg9.block g (by simp; omega) (fun e => e5 e.symm)).trans (heap_alloc_old _ _ e4)
    refine ⟨g, c, e1, e2, Nat.le_trans hB e3, by rw [hs]; simp at hz; omega, fun e => ?_, (World.cell?_of_block (a := ⟨g, _, none⟩) ((hW g e3).trans e7)).trans e6⟩
    have e' : (Value.slice (some ⟨g9, 0, none⟩) (L.length + 1) c9).ownBlock = some g := e
    rcases hat with h | h
    · rw [h] at e'; exact e5 e'
    · rw [h] at e'; injection e' with e'; simp at e'; omega
  · rw [addr_lit, Nat.zero_add] at hcell
    exact (World.cell?_of_block (a := ⟨g9, _, none⟩) (hW g9 hbg)).trans hcell
theorem bytes_block (w : World) (t : TypeId) (fr : Nat × Nat) (l : Bs) (cs : Array Value) (n : Nat) (hc : cs = (ucells l).toArray) (hn : n = l.length) (hm : n ≤ 1099511627776) : BytesAt (w.alloc (.cells cs t fr)) (.slice (some ⟨w.heap.size, 0, none⟩) n n) l (fun k => k = w.heap.size) := by
  subst hc hn
  refine ⟨_, _, rfl, Nat.le_refl _, by unfold maxLen; omega, (fun e => by cases e), fun _ => ⟨w.heap.size, 0, rfl, rfl, by simp, fun k x hk => ?_⟩⟩
  unfold World.cell?
  rw [heap_alloc_new]
  simp [ucells, hk]
set_option maxRecDepth 100000 in
set_option maxHeartbeats 8000000 in
theorem lent_calls (ht : MemsAt w nv l T) (hT : ∀ k, T k → k < w.heap.size) (hd : ∀ x ∈ l, x.data.length ≤ 1099511627776) (hl : l.length ≤ 1099511627770) :
    Calls Tryz.prog 10 #[nv] w fun e w' => ∃ g c L, e = .returned (.slice (some ⟨g, 0, none⟩) l.length c) ∧ L.map NV.m = l ∧ MemsOwn w' w.heap.size (.slice (some ⟨g, 0, none⟩) l.length c) L ∧ (∀ x ∈ L, Spare w' w.heap.size (.slice (some ⟨g, 0, none⟩) l.length c) x) ∧ l.length < c ∧ w'.cell? ⟨g, l.length * 3 + 1, none⟩ = some (.int .i64 (-71)) ∧ Below w.heap.size w w' := by
  obtain ⟨ta, tc, hnv⟩ := ht.form
  subst hnv
  have kt := Lib.hid ht
  have kT := Lib.hid hT
  have kd := Lib.hid hd
  clear ht hT hd
  go_enter Tryz.func10, Tryz.ntmps10
  go_wp2
  have k0 := Lib.hid (LentInv.start (l := l) w)
  go_loopw [3, 4, 5] (fun lv iv _ wr => ∃ i : Nat, i ≤ l.length ∧ iv = .int .i64 i ∧ LentInv w l i lv wr) (fun _ iv _ _ => l.length - (intOf iv).toNat)
  case atStart => exact ⟨0, Nat.zero_le _, rfl, k0.out⟩
  case round =>
    obtain ⟨i, hi, rfl, hI⟩ := hrel
    have kI := Lib.hid hI
    clear hI
    by_cases hlt : i < l.length
    · obtain ⟨x, hx⟩ : ∃ x, l[i]? = some x := ⟨_, List.getElem?_eq_getElem hlt⟩
      have kx := Lib.hid hx
      obtain ⟨b, off, dv, hta, hTb, hbl2, hc0, hc1, hc2, hdv⟩ := (kt.out.of_heap (w' := wr) (T' := T) (fun j hj => kI.out.below.block j (kT.out j hj)) (fun _ h => h)).at hx
      obtain ⟨da, dc, hdf⟩ := hdv.form
      subst hta hdf
      have hdl := kd.out x (List.mem_of_getElem? kx.out)
      clear hTb hx
      go_wp2
      obtain ⟨L, hLm, hLN, hLS⟩ := kI.out.list
      have kLl := Lib.hid (show L.length ≤ i by have := congrArg List.length hLm; simp at this; omega)
      have kLm := Lib.hid hLm
      have kN := Lib.hid hLN
      have kS := Lib.hid hLS
      clear hLm hLN hLS
      have kXh := Lib.hid (heap_alloc_new wr (.cells #[.string (mk x.name), .int .i64 x.date, .slice da x.data.length dc] 37 (0, 0)))
      have kd1 := Lib.hid (hdv.of_heap (w' := wr.alloc (.cells #[.string (mk x.name), .int .i64 x.date, .slice da x.data.length dc] 37 (0, 0))) (fun j hj => heap_alloc_old _ _ (Nat.lt_of_lt_of_le (kT.out j hj) kI.out.below.size)) (fun _ h => h))
      have kTl := Lib.hid (show ∀ j, T j → j < (wr.alloc (.cells #[.string (mk x.name), .int .i64 x.date, .slice da x.data.length dc] 37 (0, 0))).heap.size from fun j hj => by have := kT.out j hj; have := kI.out.below.size; simp; omega)
      have kW := Lib.hid (below_al (o := .cells #[.string (mk x.name), .int .i64 x.date, .slice da x.data.length dc] 37 (0, 0)) (Below.refl wr.heap.size wr))
      generalize wr.alloc (.cells #[.string (mk x.name), .int .i64 x.date, .slice da x.data.length dc] 37 (0, 0)) = W1 at *
      generalize hxb : wr.heap.size = xb at *
      obtain ⟨x0, x1, hx3, -⟩ := cells3 kXh.out
      have kX := Lib.hid hx3
      clear hc0 hc1 hc2 hdv hbl2 x0 x1
      refine lbegin 10 (fun w' => w'.cell? ⟨xb, 2, none⟩ = some (.slice da x.data.length dc)) (by kernel_rfl) ?_
      refine ltake 10 0 (some 16) ?_ rfl hx3 (by rfl) (fun w' hw => ?_) ?_
      rotate_left 1
      · go_simp; first | done | with_reducible rfl
      try simp only [Act.put, List.setIfInBounds_toArray, List.set_cons_zero, List.set_cons_succ]
      refine ltake 10 1 (some 17) ?_ rfl hx3 (by rfl) (fun w' hw => ?_) ?_
      rotate_left 1
      · go_simp; first | done | with_reducible rfl
      try simp only [Act.put, List.setIfInBounds_toArray, List.set_cons_zero, List.set_cons_succ]
      refine ltake 10 5 (some 21) ?_ rfl hx3 (by rfl) (fun w' hw => ?_) ?_
      rotate_left 1
      · go_simp; first | done | with_reducible rfl
      try simp only [Act.put, List.setIfInBounds_toArray, List.set_cons_zero, List.set_cons_succ]
      refine ltake 10 6 (some 22) ?_ rfl hx3 (by rfl) (fun w' hw => ?_) ?_
      rotate_left 1
      · go_simp; first | done | with_reducible rfl
      try simp only [Act.put, List.setIfInBounds_toArray, List.set_cons_zero, List.set_cons_succ]
      refine ltake 10 7 (some 23) ?_ rfl hx3 (by rfl) (fun w' hw => ?_) ?_
      rotate_left 1
      · go_simp; first | done | with_reducible rfl
      try simp only [Act.put, List.setIfInBounds_toArray, List.set_cons_zero, List.set_cons_succ]
      refine lready (rs := [2, 3]) (by kernel_rfl) (by simp) (lcons rfl (fun K hK => ?_) (lcons rfl (fun K hK => ?_) (lnil)))
      · refine step_append_bytes (by rfl) _ _ (by rfl) W1.heap.size (.slice none 0 0) [] (by rfl) (World.ownsRow_nil _ _ _ _) (.slice da x.data.length dc) x.data T (by rfl) (kd1.out.of_heap (fun _ _ => rfl) (fun _ h => h)) (by simp; omega) (Nat.le_refl _) ?_
        intro a1 m1 c1 w4 hm1 ho1 hg1
        have kA := Lib.hid (LentA.of_A ho1 hg1)
        have hx4 := kA.out.cell kX.out
        refine hK.out _ _ (fun _ => hx4) (fun hH1 => ?_)
        clear hK K ho1 hg1
        try simp only [Act.put, List.setIfInBounds_toArray, List.set_cons_zero, List.set_cons_succ]
        refine lready (rs := [3]) (by kernel_rfl) (by simp) (lcons rfl (fun K hK => ?_) (lnil))
        rw [if_pos (by rfl)]
        go_simp
        have hx5 := kA.out.cell5 kX.out (.cells #[.int .u8 167] 5)
        refine hK.out _ _ (fun _ => hx5) (fun hH2 => ?_)
        clear hK K
        try simp only [Act.put, List.setIfInBounds_toArray, List.set_cons_zero, List.set_cons_succ]
        refine lready (rs := [4]) (by kernel_rfl) (by simp) (lcons rfl (fun K hK => ?_) (lnil))
        refine step_append_bytes (by rfl) _ _ (by rfl) W1.heap.size (.slice a1 m1 c1) ([] ++ x.data) (by rfl) kA.out.own5 _ [167] (fun j => j = w4.heap.size) (by rfl) (bytes_block w4 _ _ [167] _ _ rfl rfl (by decide)) (by simp; omega) kA.out.size5 ?_
        intro a2 m2 c2 w6 hm2 ho2 hg2
        have kM := Lib.hid (LentM.of_A kA.out ho2 hg2)
        obtain ⟨g2, rfl, hc2⟩ := kM.out.form hm2
        have hx6 := kM.out.cell kX.out
        have hc2' : (x.data.length : Int) ≤ c2 := by simp at hc2; omega
        refine hK.out _ _ (fun _ => hx6) (fun hH3 => ?_)
        clear hK K ho2 hg2
        try simp only [Act.put, List.setIfInBounds_toArray, List.set_cons_zero, List.set_cons_succ]
        refine ltake 10 8 (some 24) ?_ rfl hx6 (by rfl) (fun w' hw => ?_) ?_
        rotate_left 1
        · go_simp; first | done | with_reducible rfl
        try simp only [Act.put, List.setIfInBounds_toArray, List.set_cons_zero, List.set_cons_succ]
        refine ltake 10 9 (some 25) ?_ rfl hx6 (by rfl) (fun w' hw => ?_) ?_
        rotate_left 1
        · go_simp; first | done | with_reducible rfl
        try simp only [Act.put, List.setIfInBounds_toArray, List.set_cons_zero, List.set_cons_succ]
        refine lready (rs := [10]) (by kernel_rfl) (by simp) (lcons rfl (fun K hK => ?_) (lnil))
        rw [if_pos (by rfl)]
        have hf6 := kM.out.frozen kXh.out
        go_simp
        refine hK.out _ _ (fun h => absurd rfl h) (fun _ => ?_)
        clear hK K
        refine ldone (by kernel_rfl) ?_ _
        have kx6 := Lib.hid ((kM.out.below.block xb (heap_lt kXh.out)).trans kXh.out)
        obtain ⟨y0, y1, -, -⟩ := cells3 kx6.out
        have hl6 := heap_lt kx6.out
        have kU := Lib.hid (ubytes_less (d := x.data) (by have := kM.out.own; rw [hm2.out] at this; exact this))
        have kW8 := Lib.hid (lent_below (v := .slice (some ⟨g2, 0, none⟩) x.data.length c2) (o := .cells #[.string (mk x.name), .int .i64 x.date, .slice (some ⟨g2, 0, none⟩) x.data.length c2] 37) hxb kW.out kM.out.below)
        have kZ := Lib.hid (lent_pack hxb kW.out kXh.out kM.out.below kM.out.size2 kU.out kN.out kI.out.below.size)
        go_wp2_with (at_builtin; refine wpList_append_mem _ rfl _ _ rfl (w.heap.size) u3 L rfl kZ.out.1 (NV.make x (.slice (some ⟨g2, 0, none⟩) x.data.length c2)) ⟨w6.heap.size, 0, none⟩ 1 rfl kZ.out.2.1 kZ.out.2.2.1 (by have := kLl.out; omega) kZ.out.2.2.2.1 ?_; intro a9 c9 w9 h9 hg9 hat9; have k9 := Lib.hid h9; have kg9 := Lib.hid hg9; have kh9 := Lib.hid hat9; clear h9 hg9 hat9)
        exact ⟨⟨i + 1, by omega, by go_num, LentInv.next kI.out kx.out kLm.out kN.out kS.out kW8.out kZ.out.2.2.2.2.1 kZ.out.2.2.2.2.2.1 kZ.out.2.2.2.2.2.2.1 kU.out.2.1 kZ.out.2.2.2.2.2.2.2 k9.out kg9.out kh9.out⟩, by simp [intOf]; omega⟩
      · rw [if_pos (by rfl)]
        go_simp
        have hx5 := lent_cell5 kX.out (.cells #[.int .u8 167] 5)
        refine hK.out _ _ (fun _ => hx5) (fun hH4 => ?_)
        clear hK K
        try simp only [Act.put, List.setIfInBounds_toArray, List.set_cons_zero, List.set_cons_succ]
        refine lready (rs := [2]) (by kernel_rfl) (by simp) (lcons rfl (fun K hK => ?_) (lnil))
        refine step_append_bytes (by rfl) _ _ (by rfl) W1.heap.size (.slice none 0 0) [] (by rfl) (World.ownsRow_nil _ _ _ _) (.slice da x.data.length dc) x.data T (by rfl) (kd1.out.of_heap (fun j hj => heap_alloc_old _ _ (kTl.out j hj)) (fun _ h => h)) (by simp; omega) (by simp) ?_
        intro a1 m1 c1 w4 hm1 ho1 hg1
        have kA := Lib.hid (LentA.of_B ho1 hg1)
        have kby := Lib.hid (LentA.keep (bytes_block W1.drew 5 (0, 0) [167] _ _ rfl rfl (by decide)) (hg1.block _ (by simp) (by simp [Value.ownBlock])))
        have hx4 := kA.out.cell kX.out
        refine hK.out _ _ (fun _ => hx4) (fun hH5 => ?_)
        clear hK K ho1 hg1
        try simp only [Act.put, List.setIfInBounds_toArray, List.set_cons_zero, List.set_cons_succ]
        refine lready (rs := [4]) (by kernel_rfl) (by simp) (lcons rfl (fun K hK => ?_) (lnil))
        refine step_append_bytes (by rfl) _ _ (by rfl) W1.heap.size (.slice a1 m1 c1) ([] ++ x.data) (by rfl) kA.out.own _ [167] (fun j => j = W1.heap.size) (by rfl) kby.out (by simp; omega) kA.out.below.size ?_
        intro a2 m2 c2 w6 hm2 ho2 hg2
        have kM := Lib.hid (LentM.of_B kA.out ho2 hg2)
        obtain ⟨g2, rfl, hc2⟩ := kM.out.form hm2
        have hx6 := kM.out.cell kX.out
        have hc2' : (x.data.length : Int) ≤ c2 := by simp at hc2; omega
        refine hK.out _ _ (fun _ => hx6) (fun hH6 => ?_)
        clear hK K ho2 hg2
        try simp only [Act.put, List.setIfInBounds_toArray, List.set_cons_zero, List.set_cons_succ]
        refine ltake 10 8 (some 24) ?_ rfl hx6 (by rfl) (fun w' hw => ?_) ?_
        rotate_left 1
        · go_simp; first | done | with_reducible rfl
        try simp only [Act.put, List.setIfInBounds_toArray, List.set_cons_zero, List.set_cons_succ]
        refine ltake 10 9 (some 25) ?_ rfl hx6 (by rfl) (fun w' hw => ?_) ?_
        rotate_left 1
        · go_simp; first | done | with_reducible rfl
        try simp only [Act.put, List.setIfInBounds_toArray, List.set_cons_zero, List.set_cons_succ]
        refine lready (rs := [10]) (by kernel_rfl) (by simp) (lcons rfl (fun K hK => ?_) (lnil))
        rw [if_pos (by rfl)]
        have hf6 := kM.out.frozen kXh.out
        go_simp
        refine hK.out _ _ (fun h => absurd rfl h) (fun _ => ?_)
        clear hK K
        refine ldone (by kernel_rfl) ?_ _
        have kx6 := Lib.hid ((kM.out.below.block xb (heap_lt kXh.out)).trans kXh.out)
        obtain ⟨y0, y1, -, -⟩ := cells3 kx6.out
        have hl6 := heap_lt kx6.out
        have kU := Lib.hid (ubytes_less (d := x.data) (by have := kM.out.own; rw [hm2.out] at this; exact this))
        have kW8 := Lib.hid (lent_below (v := .slice (some ⟨g2, 0, none⟩) x.data.length c2) (o := .cells #[.string (mk x.name), .int .i64 x.date, .slice (some ⟨g2, 0, none⟩) x.data.length c2] 37) hxb kW.out kM.out.below)
        have kZ := Lib.hid (lent_pack hxb kW.out kXh.out kM.out.below kM.out.size2 kU.out kN.out kI.out.below.size)
        go_wp2_with (at_builtin; refine wpList_append_mem _ rfl _ _ rfl (w.heap.size) u3 L rfl kZ.out.1 (NV.make x (.slice (some ⟨g2, 0, none⟩) x.data.length c2)) ⟨w6.heap.size, 0, none⟩ 1 rfl kZ.out.2.1 kZ.out.2.2.1 (by have := kLl.out; omega) kZ.out.2.2.2.1 ?_; intro a9 c9 w9 h9 hg9 hat9; have k9 := Lib.hid h9; have kg9 := Lib.hid hg9; have kh9 := Lib.hid hat9; clear h9 hg9 hat9)
        exact ⟨⟨i + 1, by omega, by go_num, LentInv.next kI.out kx.out kLm.out kN.out kS.out kW8.out kZ.out.2.2.2.2.1 kZ.out.2.2.2.2.2.1 kZ.out.2.2.2.2.2.2.1 kU.out.2.1 kZ.out.2.2.2.2.2.2.2 k9.out kg9.out kh9.out⟩, by simp [intOf]; omega⟩
    · have hil : i = l.length := by omega
      subst hil
      obtain ⟨L, hLm, hLN, hLS⟩ := kI.out.list
      rw [List.take_length] at hLm
      have hLl : L.length = l.length := by have := congrArg List.length hLm; simpa using this
      have kLl := Lib.hid hLl
      have kLm := Lib.hid hLm
      have kN := Lib.hid hLN
      have kS := Lib.hid hLS
      have kb := Lib.hid kI.out.below
      have khr := Lib.hid (fun g hg => (hLN.lt g hg).1)
      obtain ⟨ua, uc, huf⟩ := hLN.form
      subst huf
      have kNa := Lib.hid (fun (o : Obj) => kN.out.keepb (w' := wr.alloc o) (fun j hj => heap_alloc_old _ _ hj) (by simp))
      have ksrc := Lib.hid (cells_new wr (NV.make ⟨[], -71, []⟩ (.slice none 0 0)).cells 37)
      have kub := Lib.hid (fun (W : World) (S : Nat → Prop) => (show UBytes W (.slice none 0 0) [] S from ⟨BytesAt.nil _ _, fun b off n c e hn => by injection e with e1; cases e1⟩))
      have hsz := kI.out.below.size
      clear hLl hLm hLS hLN kI
      go_wp2_with (at_builtin; refine wpList_append_mem _ rfl _ _ rfl w.heap.size (.slice ua L.length uc) L rfl (kNa.out _) (NV.make ⟨[], -71, []⟩ (.slice none 0 0)) ⟨wr.heap.size, 0, none⟩ 1 rfl ksrc.out (kub.out _ _) (by have := kLl.out; omega) (by simp; omega) ?_; intro a9 c9 w9 h9 hg9 hat9; obtain ⟨g9, rfl, hc9⟩ := lent_form h9; have k9 := Lib.hid h9; have kg9 := Lib.hid hg9; have kh9 := Lib.hid hat9; have hcm9 := lent_cap h9; have hc8 : (l.length : Int) ≤ (c9 : Int) := by { have := kLl.out; omega }; clear h9 hg9 hat9)
      go_ret
      have hend := lent_end (W := w9) (B0 := w.heap.size) k9.out kS.out kg9.out kh9.out kLl.out (Nat.le_refl _) (fun _ _ => rfl) rfl
      exact ⟨g9, c9, L, rfl, kLm.out, hend.1, hend.2.1, hend.2.2.1, hend.2.2.2, lent_row kb.out kb.out.size kg9.out khr.out⟩
end
end Go.Proofs.YtnjagoglabllaaaGreatDoor
