/-
  Slices of members that a call has built. Conditions: at most 2^40 members.
-/
import Derived.Test.YtnjagoglabllaaaGreatDoorArMem
namespace Go.Proofs.YtnjagoglabllaaaGreatDoor
open Go.RowKit

/-- A member, and the value of its bytes. -/
structure NV where make ::
  m : Mem
  dv : Value
def NV.cells (x : NV) : List Value := [.string (mk x.m.name), .int .i64 x.m.date, x.dv]
def nflat : List NV → List Value
  | [] => []
  | x :: l => x.cells ++ nflat l
theorem nflat_append : ∀ (l m : List NV), nflat (l ++ m) = nflat l ++ nflat m
  | [], m => rfl
  | x :: l, m => by simp [nflat, nflat_append l m]
theorem nflat_length : ∀ l : List NV, (nflat l).length = l.length * 3
  | [] => rfl
  | x :: l => by simp [nflat, nflat_length l, NV.cells]; omega
theorem nflat_get : ∀ (l : List NV) (k j : Nat) (x : NV), l[k]? = some x → j < 3 → (nflat l)[k * 3 + j]? = x.cells[j]?
  | [], k, j, x, h, _ => by simp at h
  | y :: l, 0, j, x, h, hj => by
    simp at h; subst h
    rw [nflat, List.getElem?_append_left (by simp [NV.cells]; omega), Nat.zero_mul, Nat.zero_add]
  | y :: l, k + 1, j, x, h, hj => by
    simp at h
    rw [nflat, List.getElem?_append_right (by simp [NV.cells]; omega)]
    have := nflat_get l k j x h hj
    rw [← this]
    congr 1
    simp [NV.cells]; omega
theorem infoMember : (Tryz.prog.info? 37).map (fun i => (i.zero, i.size, i.bytes)) = some (some (.agg #[.string ⟨#[]⟩, .int .i64 0, .slice none 0 0]), 3, 48) := by kernel_rfl
/-- A slice of nodes that the call has built; the blocks of the bytes are others than its own row. -/
def MemsOwn (w : World) (B : Nat) (v : Value) (L : List NV) : Prop :=
  w.ownsRow B 37 3 v L.length (nflat L) ∧ ∀ x ∈ L, UBytes w x.dv x.m.data (fun j => B ≤ j ∧ j < w.heap.size ∧ v.ownBlock ≠ some j)
theorem MemsOwn.nil (w : World) (B : Nat) : MemsOwn w B (.slice none 0 0) [] := ⟨World.ownsRow_nil _ _ _ _, fun _ h => by cases h⟩
theorem MemsOwn.form {w : World} {B : Nat} {v : Value} {L : List NV} (h : MemsOwn w B v L) : ∃ a c, v = .slice a L.length c := by
  rcases h.1.2 with ⟨rfl, hn⟩ | ⟨g, cap, cur, rfl, _⟩
  · exact ⟨none, 0, by rw [hn]⟩
  · exact ⟨_, _, rfl⟩
theorem MemsOwn.lt {w : World} {B : Nat} {v : Value} {L : List NV} (h : MemsOwn w B v L) : ∀ g, v.ownBlock = some g → B ≤ g ∧ g < w.heap.size := h.1.lt
theorem MemsOwn.grown {w w' : World} {B : Nat} {v : Value} {L : List NV} {row : Option Nat} (h : MemsOwn w B v L) (hg : w.grownBy w' row) (hr : ∀ g, row = some g → g < B) : MemsOwn w' B v L := by
  refine ⟨h.1.kept hg ?_, fun x hx => (h.2 x hx).of_heap (fun j hj => hg.block j hj.2.1 (fun e => by have := hr j e.symm; omega)) (fun j hj => ⟨hj.1, Nat.lt_of_lt_of_le hj.2.1 hg.size, hj.2.2⟩)⟩
  by_cases hn : v.ownBlock = none
  · exact Or.inl hn
  · right; intro e
    cases hv : v.ownBlock with
    | none => exact hn hv
    | some g =>
      rw [hv] at e
      have := (h.lt g hv).1
      have := hr g e.symm
      omega
theorem MemsOwn.base {w : World} {B B' : Nat} {v : Value} {L : List NV} (h : MemsOwn w B v L) (hB : B' ≤ B) : MemsOwn w B' v L :=
  ⟨⟨h.1.1, h.1.2.elim Or.inl (fun ⟨g, cap, cur, hv, hg, r⟩ => Or.inr ⟨g, cap, cur, hv, Nat.le_trans hB hg, r⟩)⟩, fun x hx => (h.2 x hx).mono (fun _ hj => ⟨Nat.le_trans hB hj.1, hj.2⟩)⟩
theorem node_one : ∀ x : NV, (∃ a n c, x.dv = .slice a n c) → ∀ u ∈ x.cells, u.oneCell' = true := by
  rintro x ⟨a, n, c, e⟩ u hu
  simp only [NV.cells, e, List.mem_cons, List.not_mem_nil, or_false] at hu
  rcases hu with rfl | rfl | rfl <;> rfl
set_option maxRecDepth 100000 in
theorem run_append_mem (w : World) (B : Nat) (v : Value) (L : List NV) (h : MemsOwn w B v L) (x : NV) (ad : Addr) (c : Nat) (ty : TypeId) (hc : ∀ j u, x.cells[j]? = some u → w.cell? (ad.add j) = some u) (hb : UBytes w x.dv x.m.data (fun j => B ≤ j ∧ j < w.heap.size ∧ v.ownBlock ≠ some j))
    (hl : L.length ≤ 1099511627775) (hB : B ≤ w.heap.size) :
    ∃ a' c' w', (Builtin.append_ #[22, 22] ty #[v, .slice (some ad) 1 c]).run Tryz.prog w = .ok (.slice a' (L.length + 1) c') w' ∧ MemsOwn w' B (.slice a' (L.length + 1) c') (L ++ [x]) ∧ w.grownBy w' v.ownBlock ∧ ((Value.slice a' (L.length + 1) c').ownBlock = v.ownBlock ∨ (Value.slice a' (L.length + 1) c').ownBlock = some w.heap.size) := by
  obtain ⟨i0, hi, hz0, hz1, hz2⟩ := info_parts infoMember
  obtain ⟨da, dc, hdf⟩ := hb.1.form
  obtain ⟨v', w', hrun, ho, hg, _, hat⟩ := run_append_own_at (P := Tryz.prog) w B 22 ty 37 i0 _ 3 48 Tryz.underlying22 hi hz0 hz1 hz2 rfl (by decide) v L.length (nflat L) h.1 ad 1 c x.cells rfl hc (node_one x ⟨_, _, _, hdf⟩) (by unfold maxLen; omega) (by omega) hB
  have e : nflat L ++ x.cells = nflat (L ++ [x]) := by rw [nflat_append]; simp [nflat]
  rw [e] at ho
  have hv : ∃ a' c', v' = .slice a' (L.length + 1) c' := by
    rcases ho.2 with ⟨_, hn⟩ | ⟨g, cap, cur, e', _⟩
    · omega
    · exact ⟨_, _, e'⟩
  obtain ⟨a', c', rfl⟩ := hv
  have keep : ∀ (y : NV), UBytes w y.dv y.m.data (fun j => B ≤ j ∧ j < w.heap.size ∧ v.ownBlock ≠ some j) → UBytes w' y.dv y.m.data (fun j => B ≤ j ∧ j < w'.heap.size ∧ (Value.slice a' (L.length + 1) c').ownBlock ≠ some j) := fun y hy =>
    hy.of_heap (fun j hj => hg.block j hj.2.1 (fun e => hj.2.2 e.symm)) (fun j hj => ⟨hj.1, Nat.lt_of_lt_of_le hj.2.1 hg.size, fun e' => by
      rcases hat with h1 | h1
      · rw [h1] at e'; exact hj.2.2 e'
      · rw [h1] at e'; injection e' with e'; omega⟩)
  refine ⟨a', c', w', hrun, ⟨by simpa using ho, fun y hy => ?_⟩, hg, hat⟩
  rcases List.mem_append.1 hy with hy | hy
  · exact keep y (h.2 y hy)
  · rw [List.mem_singleton] at hy; subst hy; exact keep _ hb
theorem step_append_mem {ops : Array Oper} {o : Oper} {a : Act} {w : World} {K : Act → World → Prop} {Q : Exit → Act → World → Prop} {E : Prop} (hgd : o.guard = none) (s x : Operand) (ho : o.op = .call { callee := .builtin .append, args := #[s, x], argTypes := #[22, 22] })
    (B : Nat) (v : Value) (L : List NV) (hs : a.eval s = v) (h : MemsOwn w B v L) (y : NV) (ad : Addr) (c : Nat) (hx : a.eval x = .slice (some ad) 1 c) (hc : ∀ j u, y.cells[j]? = some u → w.cell? (ad.add j) = some u) (hb : UBytes w y.dv y.m.data (fun j => B ≤ j ∧ j < w.heap.size ∧ v.ownBlock ≠ some j))
    (hl : L.length ≤ 1099511627775) (hB : B ≤ w.heap.size)
    (hK : ∀ a' m' c' w', Hid (m' = L.length + 1) → MemsOwn w' B (.slice a' m' c') (L ++ [y]) → w.grownBy w' v.ownBlock → K (a.put o.dst (.slice a' m' c')) w') :
    if Region.wanted o (yielded ops a.tmps) = true then Oper.wp Tryz.prog o a w K Q else E := by
  have hw : Region.wanted o (yielded ops a.tmps) = true := by simp [Region.wanted, hgd]
  rw [if_pos hw]
  obtain ⟨a', c', w', hr, h2, h3, -⟩ := run_append_mem w B v L h y ad c o.type hc hb hl hB
  unfold Oper.wp execOp
  simp only [ho, resolve, invoke, builtin, Sem.run_bind, Sem.run_pure, Result.andThen_ok, List.map_toArray, List.map_cons, List.map_nil, hs, hx, hr]
  exact hK a' _ c' w' (Lib.hid rfl) h2 h3
theorem MemsOwn.mems {w : World} {B : Nat} {v : Value} {L : List NV} (h : MemsOwn w B v L) : MemsAt w v (L.map NV.m) (fun j => B ≤ j ∧ j < w.heap.size) := by
  have hc := fun g hg => h.1.cells (g := g) hg
  have hb := h.2
  rcases h.1.2 with ⟨rfl, hn⟩ | ⟨g, cap, cur, rfl, hbg, hg, hn, hm, _⟩
  · obtain rfl := List.length_eq_zero_iff.1 hn
    exact MemsAt.nil _ _
  · refine ⟨_, cap, by simp, by simpa using hn, hm, (fun e => by cases e), fun _ => ⟨g, 0, rfl, ⟨hbg, heap_lt hg⟩, heap_lt hg, fun k y hk => ?_⟩⟩
    rw [List.getElem?_map] at hk
    obtain ⟨x, hx, rfl⟩ := Option.map_eq_some_iff.1 hk
    have cell : ∀ j u, j < 3 → x.cells[j]? = some u → w.cell? ⟨g, 0 + k * 3 + j, none⟩ = some u := fun j u hj hu => by
      rw [Nat.zero_add, ← Nat.zero_add (k * 3 + j), ← addr_lit]
      exact hc g rfl _ _ ((nflat_get L k j x hx hj).trans hu)
    exact ⟨x.dv, cell 0 _ (by omega) rfl, cell 1 _ (by omega) rfl, cell 2 _ (by omega) rfl, (hb x (List.mem_of_getElem? hx)).1.mono (fun j hj => ⟨hj.1, hj.2.1⟩)⟩
end Go.Proofs.YtnjagoglabllaaaGreatDoor
