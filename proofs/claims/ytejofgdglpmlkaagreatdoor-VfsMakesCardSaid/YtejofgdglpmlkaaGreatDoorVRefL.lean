/-
  What the reference's New keeps while it goes through a tree's nodes. Conditions: none of its own.
-/
import Derived.Test.YtejofgdglpmlkaaGreatDoorVRefF
import Derived.Test.YtejofgdglpmlkaaGreatDoorVNodes
import Derived.Test.YtejofgdglpmlkaaGreatDoorVHeld
import Derived.Test.YtejofgdglpmlkaaGreatDoorVBad
import Derived.Test.YtejofgdglpmlkaaGreatDoorVOps
namespace Go.Proofs.YtejofgdglpmlkaaGreatDoor
open Go.RowKit

theorem wpList_append_bytes {ops : Array Oper} {rest : List Oper} {o : Oper} {a : Act} {Q : Exit → Act → World → Prop} (w : World) (hgd : o.guard = none) (s x : Operand)
    (hop : o.op = Op.call { callee := Callee.builtin Builtin.append, args := #[s, x], argTypes := #[41, 41] }) (B : Nat) (v : Value) (xs : Bs) (hs : a.eval s = v) (h : w.ownsRow B 5 1 v xs.length (ucells xs)) (sv : Value) (ys : Bs) (S : Nat → Prop) (hx : a.eval x = sv) (hb : BytesAt w sv ys S) (hl : xs.length + ys.length ≤ 70368744177664) (hB : B ≤ w.heap.size)
    (hK : ∀ a' c' w', w'.ownsRow B 5 1 (.slice a' (xs ++ ys).length c') (xs ++ ys).length (ucells (xs ++ ys)) → w.grownBy w' v.ownBlock → wpList Tryz.prog ops Q rest (a.put o.dst (.slice a' (xs ++ ys).length c')) w') :
    wpList Tryz.prog ops Q (o :: rest) a w := by
  refine wpList_plain hgd fun K hK' => ?_
  obtain ⟨a', c', w', hrun, r1, r2, -⟩ := run_append_bytes w B v xs h sv ys S hb o.type hl hB
  unfold Oper.wp
  simp only [execOp, hop, resolve, invoke, builtin, hs, hx, hrun, Result.andThen, Sem.run_bind, Sem.run_pure, List.map_toArray, List.map_cons, List.map_nil]
  exact hK' _ _ (hK a' c' w' r1 r2)
/-- Is something wrong of a node, but for its parent? -/
def refBad (clock : Int) (pre : St) (x : Bs × PN) : Bool := !pathOk pre x || decide (x.2.time < 0) || decide (clock < x.2.time) || (x.2.dir && decide (0 < x.2.data.length))
theorem pathOk_v {pre : St} {x : Bs × PN} (h : validB x.1 = false) : pathOk pre x = false := by unfold pathOk; rw [h]; rfl
theorem pathOk_e {pre : St} {x : Bs × PN} (h : x.1 = []) : pathOk pre x = false := by unfold pathOk; rw [decide_eq_false (fun e => e h)]; simp
theorem pathOk_l {pre : St} {x y : Bs × PN} (hy : pre.getLast? = some y) (h : ¬ y.1 < x.1) : pathOk pre x = false := by unfold pathOk; rw [hy]; simp [h]
theorem refBad_path {clock : Int} {pre : St} {x : Bs × PN} (h : pathOk pre x = false) : refBad clock pre x = true := by unfold refBad; rw [h]; rfl
theorem refBad_neg {clock : Int} {pre : St} {x : Bs × PN} (h : x.2.time < 0) : refBad clock pre x = true := by unfold refBad; simp [h]
theorem refBad_late {clock : Int} {pre : St} {x : Bs × PN} (h : clock < x.2.time) : refBad clock pre x = true := by unfold refBad; simp [h]
theorem refBad_data {clock : Int} {pre : St} {x : Bs × PN} (h : x.2.dir = true) (h' : 0 < x.2.data.length) : refBad clock pre x = true := by unfold refBad; rw [h, decide_eq_true h']; simp
theorem refBad_fine {clock : Int} {pre : St} {x : Bs × PN} (h1 : pathOk pre x = true) (h2 : ¬ x.2.time < 0) (h3 : ¬ clock < x.2.time) (h4 : x.2.dir = true → x.2.data.length = 0) : refBad clock pre x = false := by
  unfold refBad
  rw [h1, decide_eq_false h2, decide_eq_false h3]
  cases hd : x.2.dir with
  | false => rfl
  | true => rw [h4 hd]; rfl
theorem refBad_not {clock : Int} {pre : St} {x : Bs × PN} (h : refBad clock pre x = true) : okNode clock pre x = false := by
  rw [← Bool.not_eq_true]
  intro h'
  obtain ⟨h1, h2, h3, h4, h5, h6, h7⟩ := okNode_parts h'
  unfold refBad at h
  simp only [Bool.or_eq_true, Bool.not_eq_true', Bool.and_eq_true, decide_eq_true_eq] at h
  rcases h with ((h | h) | h) | h
  · rw [pathOk_of h1 h2 h3] at h; cases h
  · omega
  · omega
  · have := h5 h.1; omega
theorem refBad_ok {clock : Int} {pre : St} {x : Bs × PN} (h : refBad clock pre x = false) (hd : isDirB pre (parentP x.1) = true) : okNode clock pre x = true := by
  unfold refBad at h
  simp only [Bool.or_eq_false_iff, Bool.not_eq_false', Bool.and_eq_false_iff, decide_eq_false_iff_not] at h
  obtain ⟨⟨⟨h1, h2⟩, h3⟩, h4⟩ := h
  obtain ⟨p1, p2, p3⟩ := pathOk_parts h1
  exact okNode_of p1 p2 p3 hd (fun e => by rcases h4 with h4 | h4; rw [e] at h4; cases h4; omega) (by omega) (by omega)
theorem refBad_dir {clock : Int} {pre : St} {x : Bs × PN} (h : isDirB pre (parentP x.1) = false) : okNode clock pre x = false := by
  rw [← Bool.not_eq_true]
  intro h'
  have := (okNode_parts h').2.2.2.1
  rw [h] at this; cases this
theorem dir_root (pre : St) {p : Bs} (h : p = []) : isDirB pre p = true := by unfold isDirB; simp [h]
theorem dir_none {pre : St} {p : Bs} (h0 : p ≠ []) (h : ∀ x ∈ pre, x.1 ≠ p) : isDirB pre p = false := by
  unfold isDirB
  simp only [h0, decide_false, Bool.false_or, ← Bool.not_eq_true, List.any_eq_true]
  rintro ⟨x, hx, h'⟩
  simp only [Bool.and_eq_true, decide_eq_true_eq] at h'
  exact h x hx h'.2
theorem dir_at {pre : St} {p : Bs} (h0 : p ≠ []) (hr : Rising pre) {j : Nat} {y : Bs × PN} (hy : pre[j]? = some y) (e : y.1 = p) : isDirB pre p = y.2.dir := by
  have hm := List.mem_of_getElem? hy
  unfold isDirB
  simp only [h0, decide_false, Bool.false_or]
  cases hd : y.2.dir with
  | true => exact List.any_eq_true.2 ⟨y, hm, by simp [hd, e]⟩
  | false =>
    rw [← Bool.not_eq_true, List.any_eq_true]
    rintro ⟨x, hx, h'⟩
    simp only [Bool.and_eq_true, decide_eq_true_eq] at h'
    obtain ⟨i, hi⟩ := List.getElem?_of_mem hx
    rcases Nat.lt_trichotomy i j with h1 | h1 | h1
    · have := rising_lt hr h1 hi hy
      rw [h'.2, e] at this; exact List.lt_irrefl _ this
    · subst h1
      rw [hi] at hy; injection hy with hy; subst hy
      rw [hd] at h'; cases h'.1
    · have := rising_lt hr h1 hy hi
      rw [h'.2, e] at this; exact List.lt_irrefl _ this
/-- All nodes ahead of k are well. -/
def okAll (clock : Int) (l : St) (k : Nat) : Prop := ∀ (j : Nat) (x : Bs × PN), j < k → l[j]? = some x → okNode clock (l.take j) x = true
theorem okAll.next {clock : Int} {l : St} {k : Nat} {x : Bs × PN} (h : okAll clock l k) (hx : l[k]? = some x) (ho : okNode clock (l.take k) x = true) : okAll clock l (k + 1) := by
  intro j y hj hy
  by_cases e : j = k
  · subst e; rw [hx] at hy; injection hy with hy; subst hy; exact ho
  · exact h j y (by omega) hy
theorem okAll.drop {clock : Int} {l : St} : ∀ {k : Nat}, k ≤ l.length → okAll clock l k → okFrom clock [] l = okFrom clock (l.take k) (l.drop k)
  | 0, _, _ => rfl
  | k + 1, hk, h => by
    have hx : l[k]? = some (l[k]'hk) := List.getElem?_eq_getElem hk
    rw [okAll.drop (k := k) (by omega) (fun j x hj hx => h j x (by omega) hx), okFrom_drop hx, h k _ (by omega) hx, Bool.true_and]
theorem okAll.bad {clock : Int} {l : St} {k : Nat} {x : Bs × PN} (h : okAll clock l k) (hx : l[k]? = some x) (hb : okNode clock (l.take k) x = false) : okFrom clock [] l = false := by
  have hk := (List.getElem?_eq_some_iff.1 hx).1
  rw [h.drop (by omega), okFrom_drop hx, hb, Bool.false_and]
theorem okAll.all {clock : Int} {l : St} (h : okAll clock l l.length) : okFrom clock [] l = true := by
  rw [h.drop (Nat.le_refl _), List.take_length, List.drop_length]; rfl
theorem rising_snoc {l : St} {x : Bs × PN} (h : Rising l) (hl : ∀ y, l.getLast? = some y → y.1 < x.1) : Rising (l ++ [x]) := by
  refine List.pairwise_append.2 ⟨h, List.pairwise_singleton _ _, fun y hy z hz => ?_⟩
  rw [List.mem_singleton] at hz
  subst hz
  rcases l.eq_nil_or_concat with e | ⟨a, u, e⟩
  · subst e; cases hy
  · rw [List.concat_eq_append] at e
    subst e
    have hu := hl u (by simp)
    rcases List.mem_append.1 hy with hy | hy
    · have := (List.pairwise_append.1 h).2.2 y hy u (by simp)
      exact List.lt_trans this hu
    · rw [List.mem_singleton] at hy; subst hy; exact hu
theorem okAll.rising {clock : Int} {l : St} : ∀ {k : Nat}, k ≤ l.length → okAll clock l k → Rising (l.take k)
  | 0, _, _ => List.Pairwise.nil
  | k + 1, hk, h => by
    have hx : l[k]? = some (l[k]'hk) := List.getElem?_eq_getElem hk
    rw [take_more hx]
    exact rising_snoc (okAll.rising (k := k) (by omega) (fun j x hj hx => h j x (by omega) hx)) (okNode_parts (h k _ (by omega) hx)).2.2.1

/-- What the reference's New keeps behind k nodes; w2: the world behind its own file system's making. -/
structure RInv (w2 : World) (fb : Nat) (l : St) (clock room : Int) (k : Nat) (fv : Value) (L : List NV) (wr : World) : Prop where make ::
  kept : Kept (· = fb) w2 wr
  hc : wr.heap[fb]? = some (.cells #[fv, .int .i64 clock, .int .i64 room] 62 (0, 0))
  hL : L.map NV.nd = l.take k
  hN : NodesOwn wr w2.heap.size fv L
theorem RInv.on {w2 wr w' : World} {fb : Nat} {l : St} {clock room : Int} {k : Nat} {fv : Value} {L : List NV} (h : RInv w2 fb l clock room k fv L wr) (hb : Below wr.heap.size wr w') : RInv w2 fb l clock room k fv L w' :=
  ⟨h.kept.then hb, (hb.block fb (heap_lt h.hc)).trans h.hc, h.hL, h.hN.grown (row := none) ⟨hb.os, hb.tape, hb.output, hb.size, fun j hj _ => hb.block j hj⟩ (fun _ e => by cases e)⟩
theorem RInv.tree {w2 wr : World} {fb : Nat} {l : St} {clock room : Int} {k : Nat} {fv : Value} {L : List NV} (h : RInv w2 fb l clock room k fv L wr) : TreeAt wr fv (l.take k) (fun j => w2.heap.size ≤ j ∧ j < wr.heap.size) := by
  have := h.hN.tree
  rwa [h.hL] at this
/-- A node more. -/
theorem RInv.next {w2 W5 W6 w7 : World} {fb : Nat} {l : St} {clock room : Int} {k : Nat} {fv nv' row : Value} {L : List NV} {x : Bs × PN} (hfb : fb < w2.heap.size) (h : RInv w2 fb l clock room k fv L W5) (hx : l[k]? = some x) (h6 : Below W5.heap.size W5 W6)
    (h7 : NodesOwn w7 w2.heap.size nv' (L ++ [NV.make x.1 x.2 row])) (hg7 : W6.grownBy w7 fv.ownBlock) : RInv w2 fb l clock room (k + 1) nv' (L ++ [NV.make x.1 x.2 row]) (w7.setCell ⟨fb, 0, none⟩ nv') := by
  have hnv := fun g hg => (h.hN.lt g hg).1
  have hkz := h.kept.size
  have h6z := h6.size
  have h7z := hg7.size
  have far : ∀ j, j < w2.heap.size → w7.heap[j]? = W5.heap[j]? := fun j hj => (hg7.block j (by omega) (fun e => by have := hnv j e.symm; omega)).trans (h6.block j (by omega))
  have hg8 := set_grown w7 fb 0 nv'
  refine ⟨⟨(hg7.os.trans h6.os).trans h.kept.os, (hg7.tape.trans h6.tape).trans h.kept.tape, (hg7.output.trans h6.output).trans h.kept.output, by have := hg8.size; omega, fun j hj hne => ?_⟩, ?_, ?_, h7.grown hg8 (fun g e => by injection e with e; omega)⟩
  · rw [hg8.block j (by omega) (fun e => hne (by injection e)), far j hj]
    exact h.kept.block j hj hne
  · exact set_heap (w := w7) (b := fb) ((far fb hfb).trans h.hc) 0 nv'
  · rw [List.map_append, h.hL, take_more hx]; rfl
theorem refAt_calls' {w : World} {fb n : Nat} {sa : Option Addr} {sc : Nat} {c1 c2 : Value} {l : St} {T : Nat → Prop} (hn : l.length = n) (hb : w.heap[fb]? = some (.cells #[.slice sa n sc, c1, c2] 62 (0, 0))) (ht : TreeAt w (.slice sa n sc) l T) (hr : Rising l) (p : Bs) (hl : l.length ≤ 1099511627776) :
    Calls Tryz.prog 31 #[.pointer (some ⟨fb, 0, none⟩), .string (mk p)] w fun e w' => ∃ k : Int, e = .returned (.int .i64 k) ∧ SeekAns l p k ∧ w = w' := by
  subst hn
  exact refAt_calls hb ht hr p hl
theorem refweight_calls' {w : World} {sa : Option Addr} {sc n : Nat} {l : St} {T : Nat → Prop} (hn : l.length = n) (ht : TreeAt w (.slice sa n sc) l T) (hl : l.length ≤ 1000) (hd : ∀ x ∈ l, x.2.data.length ≤ 1099511627776) :
    Calls Tryz.prog 32 #[.slice sa n sc] w fun e w' => e = .returned (.int .i64 ((l.length : Int) + (bytesOf l : Int))) ∧ w = w' := by
  subst hn
  exact refweight_calls ht hl hd
def rnodeObj (x : Bs × PN) (row : Value) : Obj := .cells #[.string (mk x.1), .bool x.2.dir, .int .i64 x.2.time, row] 54
/-- What the region that appends a node loads. -/
def RHeld (fb nb : Nat) (fv : Value) (x : Bs × PN) (row : Value) (w' : World) : Prop :=
  w'.cell? ⟨fb, 0, none⟩ = some fv ∧ w'.cell? ⟨nb, 0, none⟩ = some (.string (mk x.1)) ∧ w'.cell? ⟨nb, 1, none⟩ = some (.bool x.2.dir) ∧ w'.cell? ⟨nb, 2, none⟩ = some (.int .i64 x.2.time) ∧ w'.cell? ⟨nb, 3, none⟩ = some row
theorem RHeld.of {fb nb : Nat} {fv row : Value} {x : Bs × PN} {w' : World} {u v : Value} (h1 : w'.heap[fb]? = some (.cells #[fv, u, v] 62 (0, 0))) (h2 : w'.heap[nb]? = some (rnodeObj x row)) : RHeld fb nb fv x row w' := by
  obtain ⟨a, -⟩ := cells3 h1
  obtain ⟨b, c, d, e, -⟩ := cells4 h2
  exact ⟨a, b, c, d, e⟩
theorem rnode_facts {w2 W7 : World} {fb nb k : Nat} {l : St} {clock room : Int} {fv row : Value} {L : List NV} {x : Bs × PN} (hfb : fb < w2.heap.size) (h : RInv w2 fb l clock room k fv L W7) (hX : W7.heap[nb]? = some (rnodeObj x row)) (hne : fv.ownBlock ≠ some nb)
    (hU : UBytes W7 row x.2.data (fun j => w2.heap.size ≤ j ∧ j < W7.heap.size ∧ fv.ownBlock ≠ some j)) :
    RHeld fb nb fv x row W7.drew ∧ RHeld fb nb fv x row (W7.drew.alloc (rnodeObj x row)) ∧ NodesOwn (W7.drew.alloc (rnodeObj x row)) w2.heap.size fv L ∧
    (∀ j u, (NV.make x.1 x.2 row).cells[j]? = some u → (W7.drew.alloc (rnodeObj x row)).cell? ((⟨W7.drew.heap.size, 0, none⟩ : Addr).add j) = some u) ∧
    UBytes (W7.drew.alloc (rnodeObj x row)) (NV.make x.1 x.2 row).dv (NV.make x.1 x.2 row).n.data (fun j => w2.heap.size ≤ j ∧ j < (W7.drew.alloc (rnodeObj x row)).heap.size ∧ fv.ownBlock ≠ some j) ∧
    w2.heap.size ≤ (W7.drew.alloc (rnodeObj x row)).heap.size ∧ Below W7.heap.size W7 (W7.drew.alloc (rnodeObj x row)) ∧
    (∀ w8, (W7.drew.alloc (rnodeObj x row)).grownBy w8 fv.ownBlock → RHeld fb nb fv x row w8 ∧ w8.heap[fb]? = some (.cells #[fv, .int .i64 clock, .int .i64 room] 62 (0, 0))) := by
  have hlow := fun g hg => (h.hN.lt g hg).1
  have hz := h.kept.size
  have hdr : Below W7.heap.size W7 W7.drew := ⟨rfl, rfl, rfl, Nat.le_refl _, fun _ _ => rfl⟩
  have h6 : Below W7.heap.size W7 (W7.drew.alloc (rnodeObj x row)) := below_al hdr
  have hz6 : (W7.drew.alloc (rnodeObj x row)).heap.size = W7.heap.size + 1 := by have := Array.size_push (rnodeObj x row) (xs := W7.drew.heap); exact this
  have hX6 := (h6.block _ (heap_lt hX)).trans hX
  have hI6 := h.on h6
  refine ⟨RHeld.of (w' := W7.drew) h.hc hX, RHeld.of hI6.hc hX6, hI6.hN, fun j u hu => cells_new W7.drew (NV.make x.1 x.2 row).cells 54 j u hu, hU.of_heap (fun j hj => h6.block j hj.2.1) (fun j hj => ⟨hj.1, by omega, hj.2.2⟩), by omega, h6, fun w8 hg => ?_⟩
  have e1 : w8.heap[fb]? = some (.cells #[fv, .int .i64 clock, .int .i64 room] 62 (0, 0)) := (hg.block fb (heap_lt hI6.hc) (fun e => by have := hlow fb e.symm; omega)).trans hI6.hc
  have e2 : w8.heap[nb]? = some (rnodeObj x row) := (hg.block nb (heap_lt hX6) (fun e => hne e.symm)).trans hX6
  exact ⟨RHeld.of e1 e2, e1⟩
/-- Behind the append of a node's bytes, and the store of them into the node. -/
theorem rnode_bytes {w2 wr w5 w6 : World} {fb nb k : Nat} {l : St} {clock room : Int} {fv row dv : Value} {L : List NV} {x : Bs × PN} (h0 : RInv w2 fb l clock room k fv L wr) (hb : Below wr.heap.size wr w5) (hX : w5.heap[nb]? = some (rnodeObj x dv)) (hnb : nb = wr.heap.size)
    (ho : w6.ownsRow w5.heap.size 5 1 row x.2.data.length (ucells x.2.data)) (hg : w5.grownBy w6 (Value.slice none 0 0).ownBlock) :
    RInv w2 fb l clock room k fv L (w6.setCell ⟨nb, 3, none⟩ row) ∧ (w6.setCell ⟨nb, 3, none⟩ row).heap[nb]? = some (rnodeObj x row) ∧ fv.ownBlock ≠ some nb ∧ UBytes (w6.setCell ⟨nb, 3, none⟩ row) row x.2.data (fun j => w2.heap.size ≤ j ∧ j < (w6.setCell ⟨nb, 3, none⟩ row).heap.size ∧ fv.ownBlock ≠ some j) ∧ Below wr.heap.size wr (w6.setCell ⟨nb, 3, none⟩ row) := by
  have hz := hg.size
  have hnl := heap_lt hX
  have hlt := fun g hg => (h0.hN.lt g hg).2
  have hkz := h0.kept.size
  have hwz := hb.size
  have far : ∀ j, j < w5.heap.size → w6.heap[j]? = w5.heap[j]? := fun j hj => hg.block j hj (by simp [Value.ownBlock])
  have hs := set_grown w6 nb 3 row
  have hsz : (w6.setCell ⟨nb, 3, none⟩ row).heap.size = w6.heap.size := by simp
  have hX6 : w6.heap[nb]? = some (rnodeObj x dv) := (far nb hnl).trans hX
  have hB : Below wr.heap.size w5 (w6.setCell ⟨nb, 3, none⟩ row) := ⟨hs.os.trans hg.os, hs.tape.trans hg.tape, hs.output.trans hg.output, by omega, fun j hj => (hs.block j (by omega) (fun e => by injection e with e; omega)).trans (far j (by omega))⟩
  have hne : fv.ownBlock ≠ some nb := fun e => by have := hlt nb e; omega
  refine ⟨h0.on (hb.trans hB), ?_, hne, (ubytes_own ho).of_heap (fun j hj => hs.block j hj.2 (fun e => by injection e with e; omega)) (fun j hj => ⟨by omega, by omega, fun e => by have := hlt j e; omega⟩), hb.trans hB⟩
  have := set_heap (w := w6) (b := nb) hX6 3 row
  simpa [rnodeObj] using this
end Go.Proofs.YtejofgdglpmlkaaGreatDoor
