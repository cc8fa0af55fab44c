/-
  What the reference's New keeps while it goes through a tree's nodes. Conditions: none of its own.
  The reference's file system with blocks of its own; its look. Conditions: texts of at most 2^31 bytes; at most 1000 nodes, paths rising.
-/
import Derived.Test.YtejofgdglpmlkaaGreatDoorM14
import Derived.Test.YtejofgdglpmlkaaGreatDoorM15
import Derived.Test.YtejofgdglpmlkaaGreatDoorM09
import Derived.Test.YtejofgdglpmlkaaGreatDoorM06
import Derived.Test.YtejofgdglpmlkaaGreatDoorM07
namespace Go.Proofs.YtejofgdglpmlkaaGreatDoor
open Go.RowKit

theorem wpList_append_bytes {ops : Array Oper} {rest : List Oper} {o : Oper} {a : Act} {Q : Exit → Act → World → Prop} (w : World) (hgd : o.guard = none) (s x : Operand)
    (hop : o.op = Op.call { callee := Callee.builtin Builtin.append, args := #[s, x], argTypes := #[41, 41] }) (B : Nat) (v : Value) (xs : Bs) (hs : a.eval s = v) (h : w.ownsRow B 5 1 v xs.length (ucells xs)) (sv : Value) (ys : Bs) (S : Nat → Prop) (hx : a.eval x = sv) (hb : BytesAt w sv ys S) (hl : xs.length + ys.length ≤ 70368744177664) (hB : B ≤ w.heap.size)
    (hK : ∀ a' c' w', w'.ownsRow B 5 1 (.slice a' (xs ++ ys).length c') (xs ++ ys).length (ucells (xs ++ ys)) → w.grownBy w' v.ownBlock → wpList Tryz.prog ops Q rest (a.put o.dst (.slice a' (xs ++ ys).length c')) w') :
    wpList Tryz.prog ops Q (o :: rest) a w := by
  refine wpList_plain hgd fun K hK' => ?_
  obtain ⟨a', c', w', hrun, r1, r2, -⟩ := run_append_bytes w B v xs h sv ys S hb o.type hl hB
  unfold Oper.wp
  simp only [execOp, hop, resolve, invoke, builtin, hs, hx, hrun, Result.andThen, Sem.run_bind, Sem.run_pure, List.map_toArray, List.map_cons, List.map_nil]
  exact hK' _ _ (hK a' c' w' r1 r2)
/-- Is something wrong of a node, but for its parent? -/
def refBad (clock : Int) (pre : St) (x : Bs × PN) : Bool := !pathOk pre x || decide (x.2.time < 0) || decide (clock < x.2.time) || (x.2.dir && decide (0 < x.2.data.length))
theorem pathOk_v {pre : St} {x : Bs × PN} (h : validB x.1 = false) : pathOk pre x = false := by unfold pathOk; rw [h]; rfl
theorem pathOk_e {pre : St} {x : Bs × PN} (h : x.1 = []) : pathOk pre x = false := by unfold pathOk; rw [decide_eq_false (fun e => e h)]; simp
theorem pathOk_l {pre : St} {x y : Bs × PN} (hy : pre.getLast? = some y) (h : ¬ y.1 < x.1) : pathOk pre x = false := by unfold pathOk; rw [hy]; simp [h]
theorem refBad_path {clock : Int} {pre : St} {x : Bs × PN} (h : pathOk pre x = false) : refBad clock pre x = true := by unfold refBad; rw [h]; rfl
theorem refBad_neg {clock : Int} {pre : St} {x : Bs × PN} (h : x.2.time < 0) : refBad clock pre x = true := by unfold refBad; simp [h]
theorem refBad_late {clock : Int} {pre : St} {x : Bs × PN} (h : clock < x.2.time) : refBad clock pre x = true := by unfold refBad; simp [h]
theorem refBad_data {clock : Int} {pre : St} {x : Bs × PN} (h : x.2.dir = true) (h' : 0 < x.2.data.length) : refBad clock pre x = true := by unfold refBad; rw [h, decide_eq_true h']; simp
theorem refBad_fine {clock : Int} {pre : St} {x : Bs × PN} (h1 : pathOk pre x = true) (h2 : ¬ x.2.time < 0) (h3 : ¬ clock < x.2.time) (h4 : x.2.dir = true → x.2.data.length = 0) : refBad clock pre x = false := by
  unfold refBad
  rw [h1, decide_eq_false h2, decide_eq_false h3]
  cases hd : x.2.dir with
  | false => rfl
  | true => rw [h4 hd]; rfl
theorem refBad_not {clock : Int} {pre : St} {x : Bs × PN} (h : refBad clock pre x = true) : okNode clock pre x = false := by
  rw [← Bool.not_eq_true]
  intro h'
  obtain ⟨h1, h2, h3, h4, h5, h6, h7⟩ := okNode_parts h'
  unfold refBad at h
  simp only [Bool.or_eq_true, Bool.not_eq_true', Bool.and_eq_true, decide_eq_true_eq] at h
  rcases h with ((h | h) | h) | h
  · rw [pathOk_of h1 h2 h3] at h; cases h
  · omega
  · omega
  · have := h5 h.1; omega
theorem refBad_ok {clock : Int} {pre : St} {x : Bs × PN} (h : refBad clock pre x = false) (hd : isDirB pre (parentP x.1) = true) : okNode clock pre x = true := by
  unfold refBad at h
  simp only [Bool.or_eq_false_iff, Bool.not_eq_false', Bool.and_eq_false_iff, decide_eq_false_iff_not] at h
  obtain ⟨⟨⟨h1, h2⟩, h3⟩, h4⟩ := h
  obtain ⟨p1, p2, p3⟩ := pathOk_parts h1
  exact okNode_of p1 p2 p3 hd (fun e => by rcases h4 with h4 | h4; rw [e] at h4; cases h4; omega) (by omega) (by omega)
theorem refBad_dir {clock : Int} {pre : St} {x : Bs × PN} (h : isDirB pre (parentP x.1) = false) : okNode clock pre x = false := by
  rw [← Bool.not_eq_true]
  intro h'
  have := (okNode_parts h').2.2.2.1
  rw [h] at this; cases this
theorem dir_root (pre : St) {p : Bs} (h : p = []) : isDirB pre p = true := by unfold isDirB; simp [h]
theorem dir_none {pre : St} {p : Bs} (h0 : p ≠ []) (h : ∀ x ∈ pre, x.1 ≠ p) : isDirB pre p = false := by
  unfold isDirB
  simp only [h0, decide_false, Bool.false_or, ← Bool.not_eq_true, List.any_eq_true]
  rintro ⟨x, hx, h'⟩
  simp only [Bool.and_eq_true, decide_eq_true_eq] at h'
  exact h x hx h'.2
theorem dir_at {pre : St} {p : Bs} (h0 : p ≠ []) (hr : Rising pre) {j : Nat} {y : Bs × PN} (hy : pre[j]? = some y) (e : y.1 = p) : isDirB pre p = y.2.dir := by
  have hm := List.mem_of_getElem? hy
  unfold isDirB
  simp only [h0, decide_false, Bool.false_or]
  cases hd : y.2.dir with
  | true => exact List.any_eq_true.2 ⟨y, hm, by simp [hd, e]⟩
  | false =>
    rw [← Bool.not_eq_true, List.any_eq_true]
    rintro ⟨x, hx, h'⟩
    simp only [Bool.and_eq_true, decide_eq_true_eq] at h'
    obtain ⟨i, hi⟩ := List.getElem?_of_mem hx
    rcases Nat.lt_trichotomy i j with h1 | h1 | h1
    · have := rising_lt hr h1 hi hy
      rw [h'.2, e] at this; exact List.lt_irrefl _ this
    · subst h1
      rw [hi] at hy; injection hy with hy; subst hy
      rw [hd] at h'; cases h'.1
    · have := rising_lt hr h1 hy hi
      rw [h'.2, e] at this; exact List.lt_irrefl _ this
/-- What the reference's New keeps behind k nodes; w2: the world behind its own file system's making. -/
structure RInv (w2 : World) (fb : Nat) (l : St) (clock room : Int) (k : Nat) (fv : Value) (L : List NV) (wr : World) : Prop where make ::
  kept : Kept (· = fb) w2 wr
  hc : wr.heap[fb]? = some (.cells #[fv, .int .i64 clock, .int .i64 room] 62 (0, 0))
  hL : L.map NV.nd = l.take k
  hN : NodesOwn wr w2.heap.size fv L
theorem RInv.on {w2 wr w' : World} {fb : Nat} {l : St} {clock room : Int} {k : Nat} {fv : Value} {L : List NV} (h : RInv w2 fb l clock room k fv L wr) (hb : Below wr.heap.size wr w') : RInv w2 fb l clock room k fv L w' :=
  ⟨h.kept.then hb, (hb.block fb (heap_lt h.hc)).trans h.hc, h.hL, h.hN.grown (row := none) ⟨hb.os, hb.tape, hb.output, hb.size, fun j hj _ => hb.block j hj⟩ (fun _ e => by cases e)⟩
theorem RInv.tree {w2 wr : World} {fb : Nat} {l : St} {clock room : Int} {k : Nat} {fv : Value} {L : List NV} (h : RInv w2 fb l clock room k fv L wr) : TreeAt wr fv (l.take k) (fun j => w2.heap.size ≤ j ∧ j < wr.heap.size) := by
  have := h.hN.tree
  rwa [h.hL] at this
/-- A node more. -/
theorem RInv.next {w2 W5 W6 w7 : World} {fb : Nat} {l : St} {clock room : Int} {k : Nat} {fv nv' row : Value} {L : List NV} {x : Bs × PN} (hfb : fb < w2.heap.size) (h : RInv w2 fb l clock room k fv L W5) (hx : l[k]? = some x) (h6 : Below W5.heap.size W5 W6)
    (h7 : NodesOwn w7 w2.heap.size nv' (L ++ [NV.make x.1 x.2 row])) (hg7 : W6.grownBy w7 fv.ownBlock) : RInv w2 fb l clock room (k + 1) nv' (L ++ [NV.make x.1 x.2 row]) (w7.setCell ⟨fb, 0, none⟩ nv') := by
  have hnv := fun g hg => (h.hN.lt g hg).1
  have hkz := h.kept.size
  have h6z := h6.size
  have h7z := hg7.size
  have far : ∀ j, j < w2.heap.size → w7.heap[j]? = W5.heap[j]? := fun j hj => (hg7.block j (by omega) (fun e => by have := hnv j e.symm; omega)).trans (h6.block j (by omega))
  have hg8 := set_grown w7 fb 0 nv'
  refine ⟨⟨(hg7.os.trans h6.os).trans h.kept.os, (hg7.tape.trans h6.tape).trans h.kept.tape, (hg7.output.trans h6.output).trans h.kept.output, by have := hg8.size; omega, fun j hj hne => ?_⟩, ?_, ?_, h7.grown hg8 (fun g e => by injection e with e; omega)⟩
  · rw [hg8.block j (by omega) (fun e => hne (by injection e)), far j hj]
    exact h.kept.block j hj hne
  · exact set_heap (w := w7) (b := fb) ((far fb hfb).trans h.hc) 0 nv'
  · rw [List.map_append, h.hL, take_more hx]; rfl
theorem refAt_calls' {w : World} {fb n : Nat} {sa : Option Addr} {sc : Nat} {c1 c2 : Value} {l : St} {T : Nat → Prop} (hn : l.length = n) (hb : w.heap[fb]? = some (.cells #[.slice sa n sc, c1, c2] 62 (0, 0))) (ht : TreeAt w (.slice sa n sc) l T) (hr : Rising l) (p : Bs) (hl : l.length ≤ 1099511627776) :
    Calls Tryz.prog 31 #[.pointer (some ⟨fb, 0, none⟩), .string (mk p)] w fun e w' => ∃ k : Int, e = .returned (.int .i64 k) ∧ SeekAns l p k ∧ w = w' := by
  subst hn
  exact refAt_calls hb ht hr p hl
theorem refweight_calls' {w : World} {sa : Option Addr} {sc n : Nat} {l : St} {T : Nat → Prop} (hn : l.length = n) (ht : TreeAt w (.slice sa n sc) l T) (hl : l.length ≤ 1000) (hd : ∀ x ∈ l, x.2.data.length ≤ 1099511627776) :
    Calls Tryz.prog 32 #[.slice sa n sc] w fun e w' => e = .returned (.int .i64 ((l.length : Int) + (bytesOf l : Int))) ∧ w = w' := by
  subst hn
  exact refweight_calls ht hl hd
def rnodeObj (x : Bs × PN) (row : Value) : Obj := .cells #[.string (mk x.1), .bool x.2.dir, .int .i64 x.2.time, row] 54
/-- What the region that appends a node loads. -/
def RHeld (fb nb : Nat) (fv : Value) (x : Bs × PN) (row : Value) (w' : World) : Prop :=
  w'.cell? ⟨fb, 0, none⟩ = some fv ∧ w'.cell? ⟨nb, 0, none⟩ = some (.string (mk x.1)) ∧ w'.cell? ⟨nb, 1, none⟩ = some (.bool x.2.dir) ∧ w'.cell? ⟨nb, 2, none⟩ = some (.int .i64 x.2.time) ∧ w'.cell? ⟨nb, 3, none⟩ = some row
theorem RHeld.of {fb nb : Nat} {fv row : Value} {x : Bs × PN} {w' : World} {u v : Value} (h1 : w'.heap[fb]? = some (.cells #[fv, u, v] 62 (0, 0))) (h2 : w'.heap[nb]? = some (rnodeObj x row)) : RHeld fb nb fv x row w' := by
  obtain ⟨a, -⟩ := cells3 h1
  obtain ⟨b, c, d, e, -⟩ := cells4 h2
  exact ⟨a, b, c, d, e⟩
theorem rnode_facts {w2 W7 : World} {fb nb k : Nat} {l : St} {clock room : Int} {fv row : Value} {L : List NV} {x : Bs × PN} (hfb : fb < w2.heap.size) (h : RInv w2 fb l clock room k fv L W7) (hX : W7.heap[nb]? = some (rnodeObj x row)) (hne : fv.ownBlock ≠ some nb)
    (hU : UBytes W7 row x.2.data (fun j => w2.heap.size ≤ j ∧ j < W7.heap.size ∧ fv.ownBlock ≠ some j)) :
    RHeld fb nb fv x row W7.drew ∧ RHeld fb nb fv x row (W7.drew.alloc (rnodeObj x row)) ∧ NodesOwn (W7.drew.alloc (rnodeObj x row)) w2.heap.size fv L ∧
    (∀ j u, (NV.make x.1 x.2 row).cells[j]? = some u → (W7.drew.alloc (rnodeObj x row)).cell? ((⟨W7.drew.heap.size, 0, none⟩ : Addr).add j) = some u) ∧
    UBytes (W7.drew.alloc (rnodeObj x row)) (NV.make x.1 x.2 row).dv (NV.make x.1 x.2 row).n.data (fun j => w2.heap.size ≤ j ∧ j < (W7.drew.alloc (rnodeObj x row)).heap.size ∧ fv.ownBlock ≠ some j) ∧
    w2.heap.size ≤ (W7.drew.alloc (rnodeObj x row)).heap.size ∧ Below W7.heap.size W7 (W7.drew.alloc (rnodeObj x row)) ∧
    (∀ w8, (W7.drew.alloc (rnodeObj x row)).grownBy w8 fv.ownBlock → RHeld fb nb fv x row w8 ∧ w8.heap[fb]? = some (.cells #[fv, .int .i64 clock, .int .i64 room] 62 (0, 0))) := by
  have hlow := fun g hg => (h.hN.lt g hg).1
  have hz := h.kept.size
  have hdr : Below W7.heap.size W7 W7.drew := ⟨rfl, rfl, rfl, Nat.le_refl _, fun _ _ => rfl⟩
  have h6 : Below W7.heap.size W7 (W7.drew.alloc (rnodeObj x row)) := below_al hdr
  have hz6 : (W7.drew.alloc (rnodeObj x row)).heap.size = W7.heap.size + 1 := by have := Array.size_push (rnodeObj x row) (xs := W7.drew.heap); exact this
  have hX6 := (h6.block _ (heap_lt hX)).trans hX
  have hI6 := h.on h6
  refine ⟨RHeld.of (w' := W7.drew) h.hc hX, RHeld.of hI6.hc hX6, hI6.hN, fun j u hu => cells_new W7.drew (NV.make x.1 x.2 row).cells 54 j u hu, hU.of_heap (fun j hj => h6.block j hj.2.1) (fun j hj => ⟨hj.1, by omega, hj.2.2⟩), by omega, h6, fun w8 hg => ?_⟩
  have e1 : w8.heap[fb]? = some (.cells #[fv, .int .i64 clock, .int .i64 room] 62 (0, 0)) := (hg.block fb (heap_lt hI6.hc) (fun e => by have := hlow fb e.symm; omega)).trans hI6.hc
  have e2 : w8.heap[nb]? = some (rnodeObj x row) := (hg.block nb (heap_lt hX6) (fun e => hne e.symm)).trans hX6
  exact ⟨RHeld.of e1 e2, e1⟩
/-- Behind the append of a node's bytes, and the store of them into the node. -/
theorem rnode_bytes {w2 wr w5 w6 : World} {fb nb k : Nat} {l : St} {clock room : Int} {fv row dv : Value} {L : List NV} {x : Bs × PN} (h0 : RInv w2 fb l clock room k fv L wr) (hb : Below wr.heap.size wr w5) (hX : w5.heap[nb]? = some (rnodeObj x dv)) (hnb : nb = wr.heap.size)
    (ho : w6.ownsRow w5.heap.size 5 1 row x.2.data.length (ucells x.2.data)) (hg : w5.grownBy w6 (Value.slice none 0 0).ownBlock) :
    RInv w2 fb l clock room k fv L (w6.setCell ⟨nb, 3, none⟩ row) ∧ (w6.setCell ⟨nb, 3, none⟩ row).heap[nb]? = some (rnodeObj x row) ∧ fv.ownBlock ≠ some nb ∧ UBytes (w6.setCell ⟨nb, 3, none⟩ row) row x.2.data (fun j => w2.heap.size ≤ j ∧ j < (w6.setCell ⟨nb, 3, none⟩ row).heap.size ∧ fv.ownBlock ≠ some j) ∧ Below wr.heap.size wr (w6.setCell ⟨nb, 3, none⟩ row) := by
  have hz := hg.size
  have hnl := heap_lt hX
  have hlt := fun g hg => (h0.hN.lt g hg).2
  have hkz := h0.kept.size
  have hwz := hb.size
  have far : ∀ j, j < w5.heap.size → w6.heap[j]? = w5.heap[j]? := fun j hj => hg.block j hj (by simp [Value.ownBlock])
  have hs := set_grown w6 nb 3 row
  have hsz : (w6.setCell ⟨nb, 3, none⟩ row).heap.size = w6.heap.size := by simp
  have hX6 : w6.heap[nb]? = some (rnodeObj x dv) := (far nb hnl).trans hX
  have hB : Below wr.heap.size w5 (w6.setCell ⟨nb, 3, none⟩ row) := ⟨hs.os.trans hg.os, hs.tape.trans hg.tape, hs.output.trans hg.output, by omega, fun j hj => (hs.block j (by omega) (fun e => by injection e with e; omega)).trans (far j (by omega))⟩
  have hne : fv.ownBlock ≠ some nb := fun e => by have := hlt nb e; omega
  refine ⟨h0.on (hb.trans hB), ?_, hne, (ubytes_own ho).of_heap (fun j hj => hs.block j hj.2 (fun e => by injection e with e; omega)) (fun j hj => ⟨by omega, by omega, fun e => by have := hlt j e; omega⟩), hb.trans hB⟩
  have := set_heap (w := w6) (b := nb) hX6 3 row
  simpa [rnodeObj] using this
end Go.Proofs.YtejofgdglpmlkaaGreatDoor
namespace Go.Proofs.YtejofgdglpmlkaaGreatDoor
open Go.RowKit

/-- The reference's file system: its struct, its row of nodes, their bytes; R: its own blocks. -/
structure RefIn (w : World) (fb : Nat) (fv : Value) (L : List NV) (R : Nat → Prop) (l : St) (clock room : Int) : Prop where make ::
  hc : w.heap[fb]? = some (.cells #[fv, .int .i64 clock, .int .i64 room] 62 (0, 0))
  rf : R fb
  eq : L.map NV.nd = l
  row : w.ownsRow 0 54 4 fv L.length (nflat L)
  own : ∀ g, fv.ownBlock = some g → R g ∧ g ≠ fb
  data : ∀ x ∈ L, BytesAt w x.dv x.n.data (fun j => R j ∧ j ≠ fb ∧ fv.ownBlock ≠ some j)
  lt : ∀ b, R b → b < w.heap.size
def RefAt (w : World) (fb : Nat) (R : Nat → Prop) (l : St) (clock room : Int) : Prop := ∃ fv L, RefIn w fb fv L R l clock room
section
variable {w w' : World} {fb : Nat} {fv : Value} {L : List NV} {R R' : Nat → Prop} {l : St} {clock room : Int}
theorem RefIn.of_heap (h : RefIn w fb fv L R l clock room) (he : ∀ k, R k → w'.heap[k]? = w.heap[k]?) (hR : ∀ k, R k → R' k) (hlt : ∀ k, R' k → k < w'.heap.size) : RefIn w' fb fv L R' l clock room := by
  refine ⟨(he fb h.rf).trans h.hc, hR _ h.rf, h.eq, ⟨h.row.1, ?_⟩, fun g hg => ⟨hR g (h.own g hg).1, (h.own g hg).2⟩, fun x hx => (h.data x hx).of_heap (fun k hk => he k hk.1) (fun k hk => ⟨hR k hk.1, hk.2⟩), hlt⟩
  rcases h.row.2 with h0 | ⟨g, cap, cur, e, hg, hc, r⟩
  · exact Or.inl h0
  · exact Or.inr ⟨g, cap, cur, e, hg, (he g (h.own g (by rw [e]; rfl)).1).trans hc, r⟩
theorem RefIn.same (h : RefIn w fb fv L R l clock room) (he : ∀ k, R k → w'.heap[k]? = w.heap[k]?) : RefIn w' fb fv L R l clock room :=
  h.of_heap he (fun _ h => h) (fun k hk => lt_of_heap (h.lt k hk) (he k hk))
theorem RefIn.below (h : RefIn w fb fv L R l clock room) (hb : Below w.heap.size w w') : RefIn w' fb fv L R l clock room := h.same fun k hk => hb.block k (h.lt k hk)
theorem RefIn.other {T : Nat → Prop} (h : RefIn w fb fv L R l clock room) (hb : Kept T w w') (hd : ∀ k, R k → ¬ T k) : RefIn w' fb fv L R l clock room := h.same fun k hk => hb.block k (h.lt k hk) (hd k hk)
theorem RefIn.form (h : RefIn w fb fv L R l clock room) : ∃ a c, fv = .slice a l.length c := by
  have hl : L.length = l.length := by rw [← h.eq, List.length_map]
  rcases h.row.2 with ⟨rfl, hn⟩ | ⟨g, cap, cur, rfl, _⟩
  · exact ⟨none, 0, by rw [← hl, hn]⟩
  · exact ⟨_, _, by rw [hl]⟩
theorem RefIn.tree (h : RefIn w fb fv L R l clock room) : TreeAt w fv l R := by
  have hc := fun g hg => h.row.cells (g := g) hg
  have hb := h.data
  have hR := h.own
  have hl : L.length = l.length := by rw [← h.eq, List.length_map]
  rw [← h.eq]
  rcases h.row.2 with ⟨rfl, hn⟩ | ⟨g, cap, cur, rfl, hbg, hg, hn, hm, _⟩
  · obtain rfl := List.length_eq_zero_iff.1 hn
    exact TreeAt.nil _ _
  · refine ⟨_, cap, by simp, by simpa using hn, hm, (fun e => by cases e), fun _ => ⟨g, 0, rfl, (hR g rfl).1, heap_lt hg, fun k y hk => ?_⟩⟩
    rw [List.getElem?_map] at hk
    obtain ⟨x, hx, rfl⟩ := Option.map_eq_some_iff.1 hk
    have cell : ∀ j u, j < 4 → x.cells[j]? = some u → w.cell? ⟨g, 0 + k * 4 + j, none⟩ = some u := fun j u hj hu => by
      rw [Nat.zero_add, ← Nat.zero_add (k * 4 + j), ← addr_lit]
      exact hc g rfl _ _ ((nflat_get L k j x hx hj).trans hu)
    exact ⟨x.dv, cell 0 _ (by omega) rfl, cell 1 _ (by omega) rfl, cell 2 _ (by omega) rfl, cell 3 _ (by omega) rfl, (hb x (List.mem_of_getElem? hx)).mono (fun j hj => hj.1)⟩
/-- A call of the reference that changes its file system: what it answers, and leaves. -/
def RefPost (w : World) (fb : Nat) (R : Nat → Prop) (room : Int) (r : Int × St × Int) (e : Ending) (w' : World) : Prop :=
  e = .returned (.int .i64 r.1) ∧ RefAt w' fb (Plus R w.heap.size w'.heap.size) r.2.1 r.2.2 room ∧ Kept R w w'
theorem RefPost.same {c : Int} {r : Int × St × Int} {e : Ending} (h : RefIn w fb fv L R l clock room) (hr : r = (c, l, clock)) (he : e = .returned (.int .i64 c)) (hb : Below w.heap.size w w') : RefPost w fb R room r e w' := by
  subst hr
  exact ⟨he, ⟨fv, L, h.of_heap (fun k hk => hb.block k (h.lt k hk)) (fun k hk => Or.inl hk) (fun k hk => hk.elim (fun hk => Nat.lt_of_lt_of_le (h.lt k hk) hb.size) (fun hk => hk.2))⟩, Kept.of_below hb⟩
set_option maxRecDepth 100000 in
set_option maxHeartbeats 2000000 in
theorem reflook_calls (h : RefIn w fb fv L R l clock room) (hr : Rising l) (hl : l.length ≤ 1000) (p : ByteArray) (hp : p.size ≤ 2147483647) :
    Calls Tryz.prog 63 #[.pointer (some ⟨fb, 0, none⟩), .string p] w fun e w' => ∃ k x : Int, e = .returned (.tuple #[.string (mk (clean p.data.toList)), .int .i64 k, .int .i64 x]) ∧ RLook l (clean p.data.toList) k x ∧ Below w.heap.size w w' := by
  have hC := Lib.hid (refClean_calls p w (by omega))
  have hcl := clean_len p.data.toList
  have hways := ups_cnames (clean_clean p.data.toList)
  have hrn := rnames_clean p.data.toList
  rw [cnames_clean] at hways
  rw [← Go.Lib.size_eq] at hcl
  have hjn : joinS (cnames p.data.toList) = clean p.data.toList := rfl
  have htot := cnames_tot p.data.toList
  rw [← Go.Lib.size_eq] at htot
  generalize clean p.data.toList = q at *
  generalize cnames p.data.toList = NS at *
  have hNSl := tot_len NS
  have hqs : (mk q).size ≤ 2147483647 := by rw [mk_size]; omega
  have hV := Lib.hid (fun w0 => refValid_calls (mk q) w0 hqs)
  rw [mk_list] at hV
  have hfl := heap_lt h.hc
  obtain ⟨fa, fc, hfv⟩ := h.form
  subst hfv
  have kh := Lib.hid h
  have kr := Lib.hid hr
  clear h hr hcl
  cases hv : validB q with
  | false =>
    rw [hv] at hV
    have kf := Lib.hid (show RLook l q (-1) 16 by unfold RLook; rw [lookQ_bad hv]; exact ⟨rfl, rfl, by decide⟩)
    clear hv
    go_enter Tryz.func63, Tryz.ntmps63
    go_wp2_with (first | (go_at_call 54; refine (hC.out).mono ?_; rintro e w1 ⟨rfl, hb⟩; have kb1 := Lib.hid hb; clear hb) | (go_at_call 29; refine (hV.out _).mono ?_; rintro e w2 ⟨rfl, hb⟩; have kb2 := Lib.hid hb; clear hb))
    go_ret3
    exact ⟨_, _, rfl, kf.out, kb1.out.trans (kb2.out.mono kb1.out.size)⟩
  | true =>
    rw [hv] at hV
    by_cases hq : q = []
    · subst hq
      have kf := Lib.hid (show RLook l [] (-2) 0 by unfold RLook; rw [lookQ_root]; exact ⟨rfl, rfl⟩)
      rw [mk_empty] at *
      clear hv hqs
      go_enter Tryz.func63, Tryz.ntmps63
      go_wp2_with (first | (go_at_call 54; refine (hC.out).mono ?_; rintro e w1 ⟨rfl, hb⟩; have kb1 := Lib.hid hb; clear hb) | (go_at_call 29; refine (hV.out _).mono ?_; rintro e w2 ⟨rfl, hb⟩; have kb2 := Lib.hid hb; clear hb))
      go_ret3
      exact ⟨_, _, rfl, kf.out, kb1.out.trans (kb2.out.mono kb1.out.size)⟩
    · have he := mk_isEmpty hq
      have kQ := Lib.hid (lookQ_rest (st := l) hv hq)
      have hN := Lib.hid (fun w0 => refNames_calls (mk q) w0 (by omega))
      rw [mk_list, hrn] at hN
      have kways := Lib.hid hways
      have kq0 := Lib.hid hq
      have kjn := Lib.hid hjn
      have hqlen : q.length ≤ 2147483647 := by rw [mk_size] at hqs; exact hqs
      clear hv hq hways hrn hjn
      go_enter Tryz.func63, Tryz.ntmps63
      go_wp2_with (first | (go_at_call 54; refine (hC.out).mono ?_; rintro e w1 ⟨rfl, hb⟩; have kb1 := Lib.hid hb; clear hb) | (go_at_call 29; refine (hV.out _).mono ?_; rintro e w2 ⟨rfl, hb⟩; have kb2 := Lib.hid hb; clear hb) | (go_at_call 55; refine (hN.out _).mono ?_; rintro e w3 ⟨v, rfl, hl, hb⟩; obtain ⟨na, nc, hnv⟩ := hl.form; subst hnv; have kl := Lib.hid hl; have kb3 := Lib.hid hb; clear hl hb))
      have kB := Lib.hid ((kb1.out.trans (kb2.out.mono kb1.out.size)).trans (kb3.out.mono (kb1.out.trans (kb2.out.mono kb1.out.size)).size))
      have kh3 := Lib.hid (kh.out.below kB.out)
      obtain ⟨f0, -⟩ := cells3 kh3.out.hc
      have hfl3 := heap_lt kh3.out.hc
      have hA := Lib.hid (fun p' => refAt_calls (p := p') kh3.out.hc kh3.out.tree kr.out (by omega))
      clear hC hV hN kb1 kb2 kb3
      go_loop [9, 10, 11] (fun wv iv _ => ∃ i : Nat, i ≤ NS.length ∧ iv = .int .i64 i ∧ wv = .string (mk (joinS (NS.take i))) ∧ chk l (waysFrom (NS.take i) (NS.drop i)) = chk l (ups q)) (fun _ iv _ => NS.length - (intOf iv).toNat)
      case atStart => exact ⟨0, Nat.zero_le _, rfl, rfl, by rw [kways.out]; rfl⟩
      case round =>
        obtain ⟨i, hi, rfl, rfl, hch⟩ := hrel
        have kch := Lib.hid hch
        clear hch
        by_cases hlt : i + 1 < NS.length
        · obtain ⟨x, hx, hws⟩ := ways_step hlt
          obtain ⟨g, cap', e, hbg, hg, hcell⟩ := kl.out.cells hx
          injection e with e1 e2 e3
          subst e1 e3
          have kws := Lib.hid hws
          have kj := Lib.hid (joinS_take hx)
          have hs1 : (mk (joinS (NS.take i))).size ≤ 17592186044416 := by rw [mk_size]; have := joinS_len (NS.take i); have := tot_take NS i; omega
          have hs2 : (mk x).size ≤ 17592186044416 := by rw [mk_size]; have := tot_mem (List.mem_of_getElem? hx); omega
          have z0 : (i : Int) < (NS.length : Int) - 1 := by omega
          clear hx hws
          have kway := Lib.hid (show i ≠ 0 → mk (joinS (NS.take i)) ++ ⟨#[47]⟩ ++ mk x = mk (joinS (NS.take (i + 1))) from fun h0 => by
            rw [kj.out, if_neg h0, ← mk_slash, mk_app, mk_app]; simp)
          have kway0 := Lib.hid (show i = 0 → mk (joinS (NS.take i)) ++ mk x = mk (joinS (NS.take (i + 1))) from fun h0 => by
            rw [kj.out, if_pos h0, h0, List.take_zero, mk_app]; rfl)
          have hAw := Lib.hid (hA.out (joinS (NS.take (i + 1))))
          generalize hway : joinS (NS.take (i + 1)) = way at *
          have kwe := Lib.hid hway
          clear hway
          cases hf : find l way with
          | none =>
            have ke := Lib.hid (show RLook l q (-1) 10 by unfold RLook; rw [kQ.out, lookT_err (e := 10) (by rw [← kch.out, kws.out]; exact chk_none hf)]; exact ⟨rfl, rfl, by decide⟩)
            have kf := Lib.hid hf
            clear hf
            by_cases h0 : i = 0
            · have hk1 : ¬ (0 : Int) < (i : Int) := by omega
              have kw := kway0.out h0
              clear h0 kway kway0 kj
              go_wp2_with (go_at_call 31; refine (hAw.out).mono ?_; rintro e w4 ⟨kk, rfl, hans, rfl⟩; obtain rfl := at_none kr.out kf.out hans; clear hans)
              go_ret3
              exact ⟨_, _, rfl, ke.out, kB.out⟩
            · have hk1 : (0 : Int) < (i : Int) := by omega
              have kw := kway.out h0
              clear h0 kway kway0 kj
              go_wp2_with (go_at_call 31; refine (hAw.out).mono ?_; rintro e w4 ⟨kk, rfl, hans, rfl⟩; obtain rfl := at_none kr.out kf.out hans; clear hans)
              go_ret3
              exact ⟨_, _, rfl, ke.out, kB.out⟩
          | some n =>
            obtain ⟨nd, nt, ndat⟩ := n
            obtain ⟨j, hj, z2, z3⟩ := find_get hf
            obtain ⟨bb, off, dv, hta, -, hbl, -, hd1, -, -, -⟩ := kh3.out.tree.at hj
            subst hta
            have kj1 := Lib.hid hj
            clear hj
            cases nd with
            | false =>
              have ke := Lib.hid (show RLook l q (-1) 11 by unfold RLook; rw [kQ.out, lookT_err (e := 11) (by rw [← kch.out, kws.out]; exact chk_file hf rfl)]; exact ⟨rfl, rfl, by decide⟩)
              have kf := Lib.hid hf
              clear hf
              by_cases h0 : i = 0
              · have hk1 : ¬ (0 : Int) < (i : Int) := by omega
                have kw := kway0.out h0
                clear h0 kway kway0 kj
                go_wp2_with (go_at_call 31; refine (hAw.out).mono ?_; rintro e w4 ⟨kk, rfl, hans, rfl⟩; obtain rfl := at_is kr.out kj1.out hans; clear hans)
                go_ret3
                exact ⟨_, _, rfl, ke.out, kB.out⟩
              · have hk1 : (0 : Int) < (i : Int) := by omega
                have kw := kway.out h0
                clear h0 kway kway0 kj
                go_wp2_with (go_at_call 31; refine (hAw.out).mono ?_; rintro e w4 ⟨kk, rfl, hans, rfl⟩; obtain rfl := at_is kr.out kj1.out hans; clear hans)
                go_ret3
                exact ⟨_, _, rfl, ke.out, kB.out⟩
            | true =>
              have kn := Lib.hid (show chk l (waysFrom (NS.take (i + 1)) (NS.drop (i + 1))) = chk l (ups q) by rw [← kch.out, kws.out]; exact (chk_dir hf rfl).symm)
              have kf := Lib.hid hf
              clear hf
              by_cases h0 : i = 0
              · have hk1 : ¬ (0 : Int) < (i : Int) := by omega
                have kw := kway0.out h0
                clear h0 kway kway0 kj
                go_wp2_with (go_at_call 31; refine (hAw.out).mono ?_; rintro e w4 ⟨kk, rfl, hans, rfl⟩; obtain rfl := at_is kr.out kj1.out hans; clear hans)
                go_round
                case rel => exact ⟨i + 1, by omega, by go_num, by rw [kwe.out], kn.out⟩
                case measure => simp [intOf]; omega
              · have hk1 : (0 : Int) < (i : Int) := by omega
                have kw := kway.out h0
                clear h0 kway kway0 kj
                go_wp2_with (go_at_call 31; refine (hAw.out).mono ?_; rintro e w4 ⟨kk, rfl, hans, rfl⟩; obtain rfl := at_is kr.out kj1.out hans; clear hans)
                go_round
                case rel => exact ⟨i + 1, by omega, by go_num, by rw [kwe.out], kn.out⟩
                case measure => simp [intOf]; omega
        · have z0 : ¬ (i : Int) < (NS.length : Int) - 1 := by omega
          have kw0 := Lib.hid (show chk l (ups q) = none by rw [← kch.out, ways_end hlt]; rfl)
          have hAq := Lib.hid (hA.out q)
          clear hA
          cases hf : find l q with
          | none =>
            have ke := Lib.hid (show RLook l q (-1) 0 by unfold RLook; rw [kQ.out, lookT_none kw0.out hf]; exact ⟨rfl, rfl⟩)
            have kf := Lib.hid hf
            clear hf
            go_wp2_with (go_at_call 31; refine (hAq.out).mono ?_; rintro e w4 ⟨kk, rfl, hans, rfl⟩; obtain rfl := at_none kr.out kf.out hans; clear hans)
            go_ret3
            exact ⟨_, _, rfl, ke.out, kB.out⟩
          | some n =>
            have ke := Lib.hid (show ∀ j : Nat, l[j]? = some (q, n) → RLook l q j 0 from fun j hj => by unfold RLook; rw [kQ.out, lookT_some kw0.out hf]; exact ⟨rfl, j, rfl, hj⟩)
            have kf := Lib.hid hf
            clear hf
            go_wp2_with (go_at_call 31; refine (hAq.out).mono ?_; rintro e w4 ⟨kk, rfl, hans, rfl⟩; obtain ⟨j, rfl, hj⟩ := at_some kr.out kf.out hans; have kj := Lib.hid hj; clear hans hj)
            go_ret3
            exact ⟨_, _, rfl, ke.out j kj.out, kB.out⟩
end
end Go.Proofs.YtejofgdglpmlkaaGreatDoor
