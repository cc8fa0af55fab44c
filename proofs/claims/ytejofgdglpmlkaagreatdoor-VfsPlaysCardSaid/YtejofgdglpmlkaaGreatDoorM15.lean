/-
  Slices of a tree's nodes that a call has built. Conditions: at most 2^40 nodes.
  A region that draws its order, whose last operation stores into a cell that the others load: what holds of the world must hold till that operation alone. (After the library's Derived/OrdersHeld.lean.) No condition of its own.
-/
import Derived.Test.YtejofgdglpmlkaaGreatDoorM06
import Derived.Test.YtejofgdglpmlkaaGreatDoorM09
import Derived.Test.YtejofgdglpmlkaaGreatDoorM08
namespace Go.Proofs.YtejofgdglpmlkaaGreatDoor
open Go.RowKit

/-- A node, and the value of its bytes. -/
structure NV where make ::
  p : Bs
  n : PN
  dv : Value
def NV.cells (x : NV) : List Value := [.string (mk x.p), .bool x.n.dir, .int .i64 x.n.time, x.dv]
def NV.nd (x : NV) : Bs × PN := (x.p, x.n)
def nflat : List NV → List Value
  | [] => []
  | x :: l => x.cells ++ nflat l
theorem nflat_append : ∀ (l m : List NV), nflat (l ++ m) = nflat l ++ nflat m
  | [], m => rfl
  | x :: l, m => by simp [nflat, nflat_append l m]
theorem nflat_length : ∀ l : List NV, (nflat l).length = l.length * 4
  | [] => rfl
  | x :: l => by simp [nflat, nflat_length l, NV.cells]; omega
theorem nflat_get : ∀ (l : List NV) (k j : Nat) (x : NV), l[k]? = some x → j < 4 → (nflat l)[k * 4 + j]? = x.cells[j]?
  | [], k, j, x, h, _ => by simp at h
  | y :: l, 0, j, x, h, hj => by
    simp at h; subst h
    rw [nflat, List.getElem?_append_left (by simp [NV.cells]; omega), Nat.zero_mul, Nat.zero_add]
  | y :: l, k + 1, j, x, h, hj => by
    simp at h
    rw [nflat, List.getElem?_append_right (by simp [NV.cells]; omega)]
    have := nflat_get l k j x h hj
    rw [← this]
    congr 1
    simp [NV.cells]; omega
theorem infoNode : (Tryz.prog.info? 54).map (fun i => (i.zero, i.size, i.bytes)) = some (some (.agg #[.string ⟨#[]⟩, .bool false, .int .i64 0, .slice none 0 0]), 4, 56) := by kernel_rfl
/-- Bytes in a row that may be written. -/
def UBytes (w : World) (v : Value) (d : Bs) (S : Nat → Prop) : Prop := BytesAt w v d S ∧ ∀ b off n c, v = .slice (some ⟨b, off, none⟩) n c → 0 < n → ∃ cur, w.heap[b]? = some (.cells cur 5 (0, 0))
theorem UBytes.of_heap {w w' : World} {v : Value} {d : Bs} {S S' : Nat → Prop} (h : UBytes w v d S) (he : ∀ k, S k → w'.heap[k]? = w.heap[k]?) (hS : ∀ k, S k → S' k) : UBytes w' v d S' := by
  refine ⟨h.1.of_heap he hS, fun b off n c e hn => ?_⟩
  obtain ⟨a, c', e1, _, _, _, h0⟩ := h.1
  rw [e1] at e
  injection e with e2 e3 e4
  obtain ⟨b', off', e5, hs, _⟩ := h0 (by omega)
  rw [e2] at e5
  injection e5 with e5; injection e5 with e5
  obtain ⟨cur, hc⟩ := h.2 b off n c (by rw [e1, e2, e3, e4]) hn
  exact ⟨cur, (he b (e5 ▸ hs)).trans hc⟩
theorem UBytes.mono {w : World} {v : Value} {d : Bs} {S S' : Nat → Prop} (h : UBytes w v d S) (hS : ∀ k, S k → S' k) : UBytes w v d S' := h.of_heap (fun _ _ => rfl) hS
theorem ubytes_own {w : World} {B : Nat} {v : Value} {l : Bs} (h : w.ownsRow B 5 1 v l.length (ucells l)) : UBytes w v l (fun k => B ≤ k ∧ k < w.heap.size) := by
  refine ⟨bytes_own h, fun b off n c e hn => ?_⟩
  rcases h.2 with ⟨e1, h0⟩ | ⟨g, cap, cur, e1, hb, hg, _⟩
  · rw [e] at e1; injection e1 with e2 e3; cases e2
  · rw [e] at e1; injection e1 with e2; injection e2 with e2; injection e2 with e2
    subst e2
    exact ⟨cur, hg⟩
/-- A slice of nodes that the call has built; the blocks of the bytes are others than its own row. -/
def NodesOwn (w : World) (B : Nat) (v : Value) (L : List NV) : Prop :=
  w.ownsRow B 54 4 v L.length (nflat L) ∧ ∀ x ∈ L, UBytes w x.dv x.n.data (fun j => B ≤ j ∧ j < w.heap.size ∧ v.ownBlock ≠ some j)
theorem NodesOwn.nil (w : World) (B : Nat) : NodesOwn w B (.slice none 0 0) [] := ⟨World.ownsRow_nil _ _ _ _, fun _ h => by cases h⟩
theorem NodesOwn.form {w : World} {B : Nat} {v : Value} {L : List NV} (h : NodesOwn w B v L) : ∃ a c, v = .slice a L.length c := by
  rcases h.1.2 with ⟨rfl, hn⟩ | ⟨g, cap, cur, rfl, _⟩
  · exact ⟨none, 0, by rw [hn]⟩
  · exact ⟨_, _, rfl⟩
theorem NodesOwn.lt {w : World} {B : Nat} {v : Value} {L : List NV} (h : NodesOwn w B v L) : ∀ g, v.ownBlock = some g → B ≤ g ∧ g < w.heap.size := h.1.lt
theorem NodesOwn.grown {w w' : World} {B : Nat} {v : Value} {L : List NV} {row : Option Nat} (h : NodesOwn w B v L) (hg : w.grownBy w' row) (hr : ∀ g, row = some g → g < B) : NodesOwn w' B v L := by
  refine ⟨h.1.kept hg ?_, fun x hx => (h.2 x hx).of_heap (fun j hj => hg.block j hj.2.1 (fun e => by have := hr j e.symm; omega)) (fun j hj => ⟨hj.1, Nat.lt_of_lt_of_le hj.2.1 hg.size, hj.2.2⟩)⟩
  by_cases hn : v.ownBlock = none
  · exact Or.inl hn
  · right; intro e
    cases hv : v.ownBlock with
    | none => exact hn hv
    | some g =>
      rw [hv] at e
      have := (h.lt g hv).1
      have := hr g e.symm
      omega
theorem NodesOwn.base {w : World} {B B' : Nat} {v : Value} {L : List NV} (h : NodesOwn w B v L) (hB : B' ≤ B) : NodesOwn w B' v L :=
  ⟨⟨h.1.1, h.1.2.elim Or.inl (fun ⟨g, cap, cur, hv, hg, r⟩ => Or.inr ⟨g, cap, cur, hv, Nat.le_trans hB hg, r⟩)⟩, fun x hx => (h.2 x hx).mono (fun _ hj => ⟨Nat.le_trans hB hj.1, hj.2⟩)⟩
theorem node_one : ∀ x : NV, (∃ a n c, x.dv = .slice a n c) → ∀ u ∈ x.cells, u.oneCell' = true := by
  rintro x ⟨a, n, c, e⟩ u hu
  simp only [NV.cells, e, List.mem_cons, List.not_mem_nil, or_false] at hu
  rcases hu with rfl | rfl | rfl | rfl <;> rfl
set_option maxRecDepth 100000 in
theorem run_append_node (w : World) (B : Nat) (v : Value) (L : List NV) (h : NodesOwn w B v L) (x : NV) (ad : Addr) (c : Nat) (ty : TypeId) (hc : ∀ j u, x.cells[j]? = some u → w.cell? (ad.add j) = some u) (hb : UBytes w x.dv x.n.data (fun j => B ≤ j ∧ j < w.heap.size ∧ v.ownBlock ≠ some j))
    (hl : L.length ≤ 1099511627775) (hB : B ≤ w.heap.size) :
    ∃ a' c' w', (Builtin.append_ #[22, 22] ty #[v, .slice (some ad) 1 c]).run Tryz.prog w = .ok (.slice a' (L.length + 1) c') w' ∧ NodesOwn w' B (.slice a' (L.length + 1) c') (L ++ [x]) ∧ w.grownBy w' v.ownBlock ∧ ((Value.slice a' (L.length + 1) c').ownBlock = v.ownBlock ∨ (Value.slice a' (L.length + 1) c').ownBlock = some w.heap.size) := by
  obtain ⟨i0, hi, hz0, hz1, hz2⟩ := info_parts infoNode
  obtain ⟨da, dc, hdf⟩ := hb.1.form
  obtain ⟨v', w', hrun, ho, hg, _, hat⟩ := run_append_own_at (P := Tryz.prog) w B 22 ty 54 i0 _ 4 56 Tryz.underlying22 hi hz0 hz1 hz2 rfl (by decide) v L.length (nflat L) h.1 ad 1 c x.cells rfl hc (node_one x ⟨_, _, _, hdf⟩) (by unfold maxLen; omega) (by omega) hB
  have e : nflat L ++ x.cells = nflat (L ++ [x]) := by rw [nflat_append]; simp [nflat]
  rw [e] at ho
  have hv : ∃ a' c', v' = .slice a' (L.length + 1) c' := by
    rcases ho.2 with ⟨_, hn⟩ | ⟨g, cap, cur, e', _⟩
    · omega
    · exact ⟨_, _, e'⟩
  obtain ⟨a', c', rfl⟩ := hv
  have keep : ∀ (y : NV), UBytes w y.dv y.n.data (fun j => B ≤ j ∧ j < w.heap.size ∧ v.ownBlock ≠ some j) → UBytes w' y.dv y.n.data (fun j => B ≤ j ∧ j < w'.heap.size ∧ (Value.slice a' (L.length + 1) c').ownBlock ≠ some j) := fun y hy =>
    hy.of_heap (fun j hj => hg.block j hj.2.1 (fun e => hj.2.2 e.symm)) (fun j hj => ⟨hj.1, Nat.lt_of_lt_of_le hj.2.1 hg.size, fun e' => by
      rcases hat with h1 | h1
      · rw [h1] at e'; exact hj.2.2 e'
      · rw [h1] at e'; injection e' with e'; omega⟩)
  refine ⟨a', c', w', hrun, ⟨by simpa using ho, fun y hy => ?_⟩, hg, hat⟩
  rcases List.mem_append.1 hy with hy | hy
  · exact keep y (h.2 y hy)
  · rw [List.mem_singleton] at hy; subst hy; exact keep _ hb
theorem step_append_node {ops : Array Oper} {o : Oper} {a : Act} {w : World} {K : Act → World → Prop} {Q : Exit → Act → World → Prop} {E : Prop} (hgd : o.guard = none) (s x : Operand) (ho : o.op = .call { callee := .builtin .append, args := #[s, x], argTypes := #[22, 22] })
    (B : Nat) (v : Value) (L : List NV) (hs : a.eval s = v) (h : NodesOwn w B v L) (y : NV) (ad : Addr) (c : Nat) (hx : a.eval x = .slice (some ad) 1 c) (hc : ∀ j u, y.cells[j]? = some u → w.cell? (ad.add j) = some u) (hb : UBytes w y.dv y.n.data (fun j => B ≤ j ∧ j < w.heap.size ∧ v.ownBlock ≠ some j))
    (hl : L.length ≤ 1099511627775) (hB : B ≤ w.heap.size)
    (hK : ∀ a' m' c' w', Hid (m' = L.length + 1) → NodesOwn w' B (.slice a' m' c') (L ++ [y]) → w.grownBy w' v.ownBlock → K (a.put o.dst (.slice a' m' c')) w') :
    if Region.wanted o (yielded ops a.tmps) = true then Oper.wp Tryz.prog o a w K Q else E := by
  have hw : Region.wanted o (yielded ops a.tmps) = true := by simp [Region.wanted, hgd]
  rw [if_pos hw]
  obtain ⟨a', c', w', hr, h2, h3, -⟩ := run_append_node w B v L h y ad c o.type hc hb hl hB
  unfold Oper.wp execOp
  simp only [ho, resolve, invoke, builtin, Sem.run_bind, Sem.run_pure, Result.andThen_ok, List.map_toArray, List.map_cons, List.map_nil, hs, hx, hr]
  exact hK a' _ c' w' (Lib.hid rfl) h2 h3
theorem NodesOwn.tree {w : World} {B : Nat} {v : Value} {L : List NV} (h : NodesOwn w B v L) : TreeAt w v (L.map NV.nd) (fun j => B ≤ j ∧ j < w.heap.size) := by
  have hc := fun g hg => h.1.cells (g := g) hg
  have hb := h.2
  rcases h.1.2 with ⟨rfl, hn⟩ | ⟨g, cap, cur, rfl, hbg, hg, hn, hm, _⟩
  · obtain rfl := List.length_eq_zero_iff.1 hn
    exact TreeAt.nil _ _
  · refine ⟨_, cap, by simp, by simpa using hn, hm, (fun e => by cases e), fun _ => ⟨g, 0, rfl, ⟨hbg, heap_lt hg⟩, heap_lt hg, fun k y hk => ?_⟩⟩
    rw [List.getElem?_map] at hk
    obtain ⟨x, hx, rfl⟩ := Option.map_eq_some_iff.1 hk
    have cell : ∀ j u, j < 4 → x.cells[j]? = some u → w.cell? ⟨g, 0 + k * 4 + j, none⟩ = some u := fun j u hj hu => by
      rw [Nat.zero_add, ← Nat.zero_add (k * 4 + j), ← addr_lit]
      exact hc g rfl _ _ ((nflat_get L k j x hx hj).trans hu)
    exact ⟨x.dv, cell 0 _ (by omega) rfl, cell 1 _ (by omega) rfl, cell 2 _ (by omega) rfl, cell 3 _ (by omega) rfl, (hb x (List.mem_of_getElem? hx)).1.mono (fun j hj => ⟨hj.1, hj.2.1⟩)⟩
end Go.Proofs.YtejofgdglpmlkaaGreatDoor
namespace Go.Proofs.YtejofgdglpmlkaaGreatDoor
open Go.RowKit

section
variable {P : Program} {ops : Array Oper} {Q : Exit → Act → World → Prop} {md : Region.Mode} {S : World → Prop} {m : Nat}
/-- Whatever order is picked from here on, and S holds behind every operation ahead of number m. -/
def wpAnyL (P : Program) (md : Region.Mode) (ops : Array Oper) (Q : Exit → Act → World → Prop) (m : Nat) (S : World → Prop) : Nat → Array Bool → Act → World → Prop
  | 0, listed, a, w => Region.ready md ops listed = [] ∧ Q .normal a w
  | fuel + 1, listed, a, w =>
    (Region.ready md ops listed = [] → Q .normal a w) ∧
    ∀ i ∈ Region.ready md ops listed, wpOp P ops Q i (fun a' w' => (i ≠ m → S w') ∧ wpAnyL P md ops Q m S fuel (listed.setIfInBounds i true) a' w') a w
theorem wpAny_of_last : ∀ (fuel : Nat) (listed : Array Bool) (a : Act) (w : World), wpAnyL P md ops Q m S fuel listed a w → wpAny P md ops Q fuel listed a w
  | 0, _, _, _, h => h
  | fuel + 1, _, _, _, h => ⟨h.1, fun i hi => wpOp_mono (fun a' w' h' => wpAny_of_last fuel _ a' w' h'.2) (h.2 i hi)⟩
theorem wpAnyL_first {i : Nat} {oi : Oper} {v : Value} (hi : ops[i]? = some oi) (hsel : ∀ (j : Nat) (o : Oper) cs b, ops[j]? = some o → o.op ≠ .select cs b)
    (hQ : ∀ c a w, Q (.panic c) (a.put oi.dst v) w → Q (.panic c) a w) (him : i ≠ m) (hdep : ∃ om, ops[m]? = some om ∧ ∃ e ∈ om.after, Region.binds md e = true ∧ e.on = i) :
    ∀ (fuel : Nat) (listed : Array Bool) (a : Act) (w : World),
      (∀ j oj, ops[j]? = some oj → j ≠ i → listed.getD j true = false → (∀ e ∈ oj.after, Region.binds md e = true → e.on ≠ i) → oi.apart ops oj = true) →
      i ∈ Region.ready md ops listed → YieldsIf P ops S oi v a → S w →
      wpAnyL P md ops Q m S fuel (listed.setIfInBounds i true) (a.put oi.dst v) w → wpAnyL P md ops Q m S (fuel + 1) listed a w := by
  intro fuel
  induction fuel with
  | zero =>
    intro listed a w _ hr hy hS H
    refine ⟨fun h => (by rw [h] at hr; cases hr), fun j hj => ?_⟩
    by_cases hji : j = i
    · subst hji; exact hy.wpOp hi hS ⟨fun _ => hS, H⟩
    · have := ready_mono hj hji
      rw [H.1] at this
      cases this
  | succ fuel ih =>
    intro listed a w hfree hr hy hS H
    refine ⟨fun h => (by rw [h] at hr; cases hr), fun j hj => ?_⟩
    by_cases hji : j = i
    · subst hji; exact hy.wpOp hi hS ⟨fun _ => hS, H⟩
    · have h1 := H.2 j (ready_mono hj hji)
      obtain ⟨hjun, oj, hoj, hall⟩ := mem_ready.1 hj
      have hnot : ∀ e ∈ oj.after, Region.binds md e = true → e.on ≠ i := fun e he hb heq => by
        have h1 := hall e he hb
        have h0 := (mem_ready.1 hr).1
        rw [heq] at h1
        rcases Nat.lt_or_ge i listed.size with h' | h'
        · simp [h'] at h0 h1; rw [h0] at h1; cases h1
        · simp [Array.getElem?_eq_none h'] at h1
      have hjm : j ≠ m := fun e => by
        subst e
        obtain ⟨om, hom, e, he, hb, heq⟩ := hdep
        rw [hoj] at hom
        injection hom with hom
        subst hom
        exact hnot e he hb heq
      have h2 := wpOp_putIf hoj (hfree j oj hoj hji hjun hnot) (fun cs b => hsel i oi cs b hi) (fun cs b => hsel j oj cs b hoj) hQ hy h1
      have hfree' : ∀ k ok, ops[k]? = some ok → k ≠ i → (listed.setIfInBounds j true).getD k true = false →
          (∀ e ∈ ok.after, Region.binds md e = true → e.on ≠ i) → oi.apart ops ok = true := fun k ok hk hki hun hno => by
        refine hfree k ok hk hki ?_ hno
        by_cases hjk : j = k
        · subst hjk; exact hjun
        · rw [getD_set_ne true hjk] at hun; exact hun
      refine wpOp_mono (fun a' w' h3 => ⟨h3.2.1, ih (listed.setIfInBounds j true) a' w' hfree' (ready_mono hr (Ne.symm hji)) h3.1 (h3.2.1 hjm) ?_⟩) h2
      rw [Array.setIfInBounds_comm _ _ hji]
      exact h3.2.2
/-- Number i is taken first. -/
theorem ltake (m : Nat) (i : Nat) (d : Option Tmp) (v : Value) {oi : Oper} {rest : List Oper} {fuel : Nat} {listed : Array Bool} {a : Act} {w : World} (hi : ops.toList.drop i = oi :: rest) (hS : S w) (hw : Region.wanted oi (yielded ops a.tmps) = true) (hy : ∀ w, S w → (execOp a.eval oi).run P w = .ok (.value v) w)
    (h : wpAnyL P md ops Q m S fuel (listed.setIfInBounds i true) (a.put d v) w) (hd : oi.dst = d := by rfl)
    (hs : Region.noSelect ops = true := by kernel_rfl) (hf : Region.free md ops listed i = true := by kernel_rfl) (hr : (Region.ready md ops listed).contains i = true := by kernel_rfl)
    (hQ : ∀ c a w, Q (.panic c) (a.put d v) w → Q (.panic c) a w := by exact fun _ _ _ h => h) (him : i ≠ m := by decide) (hdep : ((ops[m]?).map fun om => om.after.any fun e => Region.binds md e && e.on == i) = some true := by kernel_rfl) : wpAnyL P md ops Q m S (fuel + 1) listed a w := by
  have e : ops[i]? = some oi := by
    have := congrArg (fun l => l[0]?) hi
    simpa [List.getElem?_drop] using this
  subst hd
  obtain ⟨om, hom, hany⟩ := Option.map_eq_some_iff.1 hdep
  obtain ⟨x, hx, hb⟩ := Array.any_eq_true'.1 hany
  simp only [Bool.and_eq_true, beq_iff_eq] at hb
  exact wpAnyL_first e (Region.noSelect_spec hs) hQ him ⟨om, hom, x, hx, hb.1, hb.2⟩ fuel listed a w (Region.free_spec e hf) (by simpa using hr) (Or.inl ⟨hw, hy⟩) hS h
/-- What may come up now: behind an operation that is not m, S is to be shown anew. -/
theorem lready {rs : List Nat} {fuel : Nat} {listed : Array Bool} {a : Act} {w : World} (hr : Region.ready md ops listed = rs) (hne : rs ≠ [])
    (h : ∀ i ∈ rs, wpOp P ops Q i (fun a' w' => (i ≠ m → S w') ∧ wpAnyL P md ops Q m S fuel (listed.setIfInBounds i true) a' w') a w) : wpAnyL P md ops Q m S (fuel + 1) listed a w :=
  ⟨fun h0 => absurd (hr ▸ h0) hne, hr ▸ h⟩
theorem lcons {fuel : Nat} {listed : Array Bool} {a : Act} {w : World} {i : Nat} {o : Oper} {rest : List Oper} {rs : List Nat} (ho : ops.toList.drop i = o :: rest)
    (h : ∀ K' : Act → World → Prop, Shut (∀ a w, (i ≠ m → S w) → ((i ≠ m → S w) → wpAnyL P md ops Q m S fuel (listed.setIfInBounds i true) a w) → K' a w) → if Region.wanted o (yielded ops a.tmps) = true then Oper.wp P o a w K' Q else K' (a.put o.dst undef) w)
    (hs : ∀ i ∈ rs, wpOp P ops Q i (fun a' w' => (i ≠ m → S w') ∧ wpAnyL P md ops Q m S fuel (listed.setIfInBounds i true) a' w') a w) :
    ∀ j ∈ i :: rs, wpOp P ops Q j (fun a' w' => (j ≠ m → S w') ∧ wpAnyL P md ops Q m S fuel (listed.setIfInBounds j true) a' w') a w := fun j hj => by
  have e : ops[i]? = some o := by
    have := congrArg (fun l => l[0]?) ho
    simpa [List.getElem?_drop] using this
  rcases List.mem_cons.1 hj with rfl | hj
  · exact wpOp_step e (fun K' hK => h K' (fun a w hS hW => hK a w ⟨hS, hW hS⟩))
  · exact hs j hj
theorem lnil {fuel : Nat} {listed : Array Bool} {a : Act} {w : World} : ∀ j ∈ ([] : List Nat), wpOp P ops Q j (fun a' w' => (j ≠ m → S w') ∧ wpAnyL P md ops Q m S fuel (listed.setIfInBounds j true) a' w') a w := fun _ h => by cases h
theorem ldone {listed : Array Bool} {a : Act} {w : World} (hr : Region.ready md ops listed = []) (h : Q .normal a w) : ∀ fuel, wpAnyL P md ops Q m S fuel listed a w
  | 0 => ⟨hr, h⟩
  | _ + 1 => ⟨fun _ => h, by rw [hr]; simp⟩
theorem lbegin (m : Nat) (S : World → Prop) {id : Nat} {a : Act} {w : World} (hm : P.follows .mixedOrders = true) (h : wpAnyL P .any ops Q m S ops.size (Array.replicate ops.size false) a w.drew) : (Code.region id ops true).wp P Q a w :=
  wp_region_any hm (wpAny_of_last _ _ _ _ h)
end
end Go.Proofs.YtejofgdglpmlkaaGreatDoor
