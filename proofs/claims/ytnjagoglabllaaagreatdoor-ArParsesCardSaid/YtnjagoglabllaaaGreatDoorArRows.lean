/-
  Rows of members whose bytes lie elsewhere. Conditions: at most 2^40 members.
-/
import Derived.Test.YtnjagoglabllaaaGreatDoorArOwnF
import Derived.Test.YtnjagoglabllaaaGreatDoorArFind
namespace Go.Proofs.YtnjagoglabllaaaGreatDoor
open Go.RowKit

/-- A row of members that the call owns; the bytes lie in blocks of T. -/
def MemsRow (w : World) (B : Nat) (v : Value) (L : List NV) (T : Nat → Prop) : Prop :=
  w.ownsRow B 37 3 v L.length (nflat L) ∧ (∀ x ∈ L, BytesAt w x.dv x.m.data T) ∧ ∀ j, T j → j < w.heap.size ∧ v.ownBlock ≠ some j
theorem MemsOwn.row {w : World} {B : Nat} {v : Value} {L : List NV} (h : MemsOwn w B v L) : MemsRow w B v L (fun j => B ≤ j ∧ j < w.heap.size ∧ v.ownBlock ≠ some j) :=
  ⟨h.1, fun x hx => (h.2 x hx).1, fun _ hj => ⟨hj.2.1, hj.2.2⟩⟩
theorem MemsRow.mems {w : World} {B : Nat} {v : Value} {L : List NV} {T : Nat → Prop} (h : MemsRow w B v L T) : MemsAt w v (L.map NV.m) (fun j => j < w.heap.size) := by
  have hc := fun g hg => h.1.cells (g := g) hg
  have hb := h.2.1
  rcases h.1.2 with ⟨rfl, hn⟩ | ⟨g, cap, cur, rfl, hbg, hg, hn, hm, _⟩
  · obtain rfl := List.length_eq_zero_iff.1 hn
    exact MemsAt.nil _ _
  · refine ⟨_, cap, by simp, by simpa using hn, hm, (fun e => by cases e), fun _ => ⟨g, 0, rfl, heap_lt hg, heap_lt hg, fun k y hk => ?_⟩⟩
    rw [List.getElem?_map] at hk
    obtain ⟨x, hx, rfl⟩ := Option.map_eq_some_iff.1 hk
    have cell : ∀ j u, j < 3 → x.cells[j]? = some u → w.cell? ⟨g, 0 + k * 3 + j, none⟩ = some u := fun j u hj hu => by
      rw [Nat.zero_add, ← Nat.zero_add (k * 3 + j), ← addr_lit]
      exact hc g rfl _ _ ((nflat_get L k j x hx hj).trans hu)
    exact ⟨x.dv, cell 0 _ (by omega) rfl, cell 1 _ (by omega) rfl, cell 2 _ (by omega) rfl, (hb x (List.mem_of_getElem? hx)).mono (fun j hj => (h.2.2 j hj).1)⟩
theorem MemsRow.form {w : World} {B : Nat} {v : Value} {L : List NV} {T : Nat → Prop} (h : MemsRow w B v L T) : ∃ a c, v = .slice a L.length c := by
  rcases h.1.2 with ⟨rfl, hn⟩ | ⟨g, cap, cur, rfl, _⟩
  · exact ⟨none, 0, by rw [hn]⟩
  · exact ⟨_, _, rfl⟩
theorem MemsRow.lt {w : World} {B : Nat} {v : Value} {L : List NV} {T : Nat → Prop} (h : MemsRow w B v L T) : ∀ g, v.ownBlock = some g → B ≤ g ∧ g < w.heap.size := h.1.lt
/-- The blocks that it has stay. -/
theorem MemsRow.keep {w w' : World} {B : Nat} {v : Value} {L : List NV} {T : Nat → Prop} (h : MemsRow w B v L T) (he : ∀ j, T j ∨ v.ownBlock = some j → w'.heap[j]? = w.heap[j]?) (hs : w.heap.size ≤ w'.heap.size) : MemsRow w' B v L T := by
  obtain ⟨⟨h1, h2⟩, h3, h4⟩ := h
  refine ⟨⟨h1, ?_⟩, fun x hx => (h3 x hx).of_heap (fun j hj => he j (Or.inl hj)) (fun _ h => h), fun j hj => ⟨Nat.lt_of_lt_of_le (h4 j hj).1 hs, (h4 j hj).2⟩⟩
  rcases h2 with h2 | ⟨g, cap, cur, e, hb, hg, r⟩
  · exact Or.inl h2
  · exact Or.inr ⟨g, cap, cur, e, hb, (he g (Or.inr (by rw [e]; rfl))).trans hg, r⟩
theorem MemsRow.on {w w' : World} {B : Nat} {v : Value} {L : List NV} {T : Nat → Prop} (h : MemsRow w B v L T) (hb : Below w.heap.size w w') : MemsRow w' B v L T :=
  h.keep (fun j hj => hb.block j (hj.elim (fun h' => (h.2.2 j h').1) (fun h' => (h.lt j h').2))) hb.size
theorem MemsRow.weak {w : World} {B : Nat} {v : Value} {L : List NV} {T T' : Nat → Prop} (h : MemsRow w B v L T) (hT : ∀ j, T j → T' j) (hT' : ∀ j, T' j → j < w.heap.size ∧ v.ownBlock ≠ some j) : MemsRow w B v L T' :=
  ⟨h.1, fun x hx => (h.2.1 x hx).mono hT, hT'⟩
theorem row_one (x : NV) (h : ∃ a n c, x.dv = .slice a n c) : ∀ u ∈ x.cells, u.oneCell' = true := node_one x h
theorem rows_one (L : List NV) (h : ∀ x ∈ L, ∃ a n c, x.dv = .slice a n c) : ∀ u ∈ nflat L, u.oneCell' = true := by
  induction L with
  | nil => intro u hu; cases hu
  | cons y r ih =>
    intro u hu
    rw [nflat] at hu
    rcases List.mem_append.1 hu with hu | hu
    · exact node_one y (h y (by simp)) u hu
    · exact ih (fun x hx => h x (by simp [hx])) u hu
set_option maxRecDepth 100000 in
/-- One member is appended. -/
theorem run_append_row (w : World) (B : Nat) (v : Value) (L : List NV) (T : Nat → Prop) (h : MemsRow w B v L T) (x : NV) (ad : Addr) (c : Nat) (ty : TypeId) (hc : ∀ j u, x.cells[j]? = some u → w.cell? (ad.add j) = some u) (hb : BytesAt w x.dv x.m.data T)
    (hl : L.length ≤ 1099511627775) (hB : B ≤ w.heap.size) :
    ∃ a' c' w', (Builtin.append_ #[22, 22] ty #[v, .slice (some ad) 1 c]).run Tryz.prog w = .ok (.slice a' (L.length + 1) c') w' ∧ MemsRow w' B (.slice a' (L.length + 1) c') (L ++ [x]) T ∧ w.grownBy w' v.ownBlock := by
  obtain ⟨i0, hi, hz0, hz1, hz2⟩ := info_parts infoMember
  obtain ⟨da, dc, hdf⟩ := hb.form
  obtain ⟨v', w', hrun, ho, hg, _, hat⟩ := run_append_own_at (P := Tryz.prog) w B 22 ty 37 i0 _ 3 48 Tryz.underlying22 hi hz0 hz1 hz2 rfl (by decide) v L.length (nflat L) h.1 ad 1 c x.cells rfl hc (node_one x ⟨_, _, _, hdf⟩) (by unfold maxLen; omega) (by omega) hB
  have e : nflat L ++ x.cells = nflat (L ++ [x]) := by rw [nflat_append]; simp [nflat]
  rw [e] at ho
  have hv : ∃ a' c', v' = .slice a' (L.length + 1) c' := by
    rcases ho.2 with ⟨_, hn⟩ | ⟨g, cap, cur, e', _⟩
    · omega
    · exact ⟨_, _, e'⟩
  obtain ⟨a', c', rfl⟩ := hv
  have hT : ∀ j, T j → j < w'.heap.size ∧ (Value.slice a' (L.length + 1) c').ownBlock ≠ some j := fun j hj => by
    obtain ⟨h1, h2⟩ := h.2.2 j hj
    refine ⟨Nat.lt_of_lt_of_le h1 hg.size, fun e' => ?_⟩
    rcases hat with h3 | h3
    · rw [h3] at e'; exact h2 e'
    · rw [h3] at e'; injection e' with e'; omega
  have keep : ∀ (y : NV), BytesAt w y.dv y.m.data T → BytesAt w' y.dv y.m.data T := fun y hy =>
    hy.of_heap (fun j hj => hg.block j (h.2.2 j hj).1 (fun e => (h.2.2 j hj).2 e.symm)) (fun _ h => h)
  refine ⟨a', c', w', hrun, ⟨by simpa using ho, fun y hy => ?_, hT⟩, hg⟩
  rcases List.mem_append.1 hy with hy | hy
  · exact keep y (h.2.1 y hy)
  · rw [List.mem_singleton] at hy; subst hy; exact keep _ hb
theorem wpList_append_row {ops : Array Oper} {rest : List Oper} {o : Oper} {a : Act} {Q : Exit → Act → World → Prop} (w : World) (hgd : o.guard = none) (s x : Operand)
    (hop : o.op = Op.call { callee := Callee.builtin Builtin.append, args := #[s, x], argTypes := #[22, 22] }) (B : Nat) (v : Value) (L : List NV) (T : Nat → Prop) (hs : a.eval s = v) (h : MemsRow w B v L T) (y : NV) (ad : Addr) (c : Nat) (hx : a.eval x = .slice (some ad) 1 c)
    (hc : ∀ j u, y.cells[j]? = some u → w.cell? (ad.add j) = some u) (hb : BytesAt w y.dv y.m.data T) (hl : L.length ≤ 1099511627775) (hB : B ≤ w.heap.size)
    (hK : ∀ a' c' w', MemsRow w' B (.slice a' (L.length + 1) c') (L ++ [y]) T → w.grownBy w' v.ownBlock → wpList Tryz.prog ops Q rest (a.put o.dst (.slice a' (L.length + 1) c')) w') :
    wpList Tryz.prog ops Q (o :: rest) a w := by
  refine wpList_plain hgd fun K hK' => ?_
  obtain ⟨a', c', w', hrun, r1, r2⟩ := run_append_row w B v L T h y ad c o.type hc hb hl hB
  unfold Oper.wp
  simp [execOp, hop, resolve, invoke, builtin, hs, hx, hrun, Result.andThen]
  exact hK' _ _ (hK a' c' w' r1 r2)
/-- Members in memory, as values. -/
theorem MemsAt.values {w : World} {a : Option Addr} {n c : Nat} {l : List Mem} {T : Nat → Prop} (h : MemsAt w (.slice a n c) l T) : ∃ L : List NV, L.map NV.m = l ∧ (∀ x ∈ L, BytesAt w x.dv x.m.data T) ∧ ∀ ad, a = some ad → 0 < l.length → ∀ j u, (nflat L)[j]? = some u → w.cell? (ad.add j) = some u := by
  have hch : ∀ k, ∃ dv : Value, ∀ x, l[k]? = some x → ∃ b off, a = some ⟨b, off, none⟩ ∧ w.cell? ⟨b, off + k * 3, none⟩ = some (.string (mk x.name)) ∧ w.cell? ⟨b, off + k * 3 + 1, none⟩ = some (.int .i64 x.date) ∧ w.cell? ⟨b, off + k * 3 + 2, none⟩ = some dv ∧ BytesAt w dv x.data T := by
    intro k
    cases hk : l[k]? with
    | none => exact ⟨undef, fun x hx => by cases hx⟩
    | some x =>
      obtain ⟨b, off, dv, e, -, -, g0, g1, g2, g3⟩ := h.at hk
      exact ⟨dv, fun y hy => by cases hy; exact ⟨b, off, e, g0, g1, g2, g3⟩⟩
  obtain ⟨f, hf⟩ := Classical.axiomOfChoice hch
  refine ⟨l.mapIdx fun k x => NV.make x (f k), ?_, fun x hx => ?_, fun ad had h0 j u hu => ?_⟩
  · apply List.ext_getElem?
    intro k
    rw [List.getElem?_map, List.getElem?_mapIdx]
    cases l[k]? <;> rfl
  · obtain ⟨k, hk⟩ := List.getElem?_of_mem hx
    rw [List.getElem?_mapIdx] at hk
    obtain ⟨y, hy, rfl⟩ := Option.map_eq_some_iff.1 hk
    obtain ⟨b, off, -, -, -, -, g⟩ := hf k y hy
    exact g
  · have hjl := (List.getElem?_eq_some_iff.1 hu).1
    rw [nflat_length, List.length_mapIdx] at hjl
    have hk : j / 3 < l.length := by omega
    obtain ⟨x, hx⟩ : ∃ x, l[j / 3]? = some x := ⟨_, List.getElem?_eq_getElem hk⟩
    have hL : (l.mapIdx fun k x => NV.make x (f k))[j / 3]? = some (NV.make x (f (j / 3))) := by rw [List.getElem?_mapIdx, hx]; rfl
    have hm : j % 3 < 3 := Nat.mod_lt _ (by decide)
    have e1 := nflat_get _ (j / 3) (j % 3) _ hL hm
    have ej : j / 3 * 3 + j % 3 = j := by omega
    rw [ej, hu] at e1
    obtain ⟨b, off, e, g0, g1, g2, -⟩ := hf (j / 3) x hx
    rw [had] at e
    injection e with e
    subst e
    rw [addr_lit]
    rw [show off + j = off + j / 3 * 3 + j % 3 by omega]
    match hj3 : j % 3, hm with
    | 0, _ => rw [hj3] at e1; simp [NV.cells] at e1; subst e1; exact g0
    | 1, _ => rw [hj3] at e1; simp [NV.cells] at e1; subst e1; exact g1
    | 2, _ => rw [hj3] at e1; simp [NV.cells] at e1; subst e1; exact g2
theorem nflat_set : ∀ (L : List NV) (i : Nat) (x : NV), i < L.length → nflat (L.set i x) = (((nflat L).set (i * 3) (.string (mk x.m.name))).set (i * 3 + 1) (.int .i64 x.m.date)).set (i * 3 + 2) x.dv
  | [], i, x, h => by simp at h
  | y :: r, 0, x, _ => rfl
  | y :: r, i + 1, x, h => by
    have := nflat_set r i x (by simpa using h)
    rw [List.set_cons_succ, nflat, this, nflat]
    rw [show (i + 1) * 3 = i * 3 + 3 by omega]
    rfl
theorem MemsRow.cells {w : World} {B g n c : Nat} {L : List NV} {T : Nat → Prop} (h : MemsRow w B (.slice (some ⟨g, 0, none⟩) n c) L T) {i : Nat} {y : NV} (hy : L[i]? = some y) :
    w.cell? ⟨g, i * 3, none⟩ = some (.string (mk y.m.name)) ∧ w.cell? ⟨g, i * 3 + 1, none⟩ = some (.int .i64 y.m.date) ∧ w.cell? ⟨g, i * 3 + 2, none⟩ = some y.dv ∧ (∀ o, w.frozen? ⟨g, o, none⟩ = false) ∧ g < w.heap.size := by
  have cell : ∀ j u, j < 3 → y.cells[j]? = some u → w.cell? ⟨g, i * 3 + j, none⟩ = some u := fun j u hj hu => by
    have := h.1.cells (g := g) rfl _ _ ((nflat_get L i j y hy hj).trans hu)
    rwa [addr_lit, Nat.zero_add] at this
  rcases h.1.2 with ⟨e, _⟩ | ⟨g', cap, cur, e, hb, hg, _⟩
  · cases e
  · injection e with e1 e2 e3
    injection e1 with e1; injection e1 with e1
    subst e1
    exact ⟨cell 0 _ (by omega) rfl, cell 1 _ (by omega) rfl, cell 2 _ (by omega) rfl, fun o => Go.Joins.unfrozen_of_block hg o, heap_lt hg⟩
/-- The world behind a member's store. -/
def putW (w : World) (g i : Nat) (x : NV) : World := ((w.setCell ⟨g, i * 3, none⟩ (.string (mk x.m.name))).setCell ⟨g, i * 3 + 1, none⟩ (.int .i64 x.m.date)).setCell ⟨g, i * 3 + 2, none⟩ x.dv
theorem putW_grown (w : World) (g i : Nat) (x : NV) : w.grownBy (putW w g i x) (some g) := by
  refine ⟨rfl, rfl, rfl, by simp [putW], fun k hk hne => ?_⟩
  have hn : k ≠ g := fun e => hne (by rw [e])
  unfold putW
  rw [Below.heap_setCell _ _ _ _ hn, Below.heap_setCell _ _ _ _ hn, Below.heap_setCell _ _ _ _ hn]
theorem MemsRow.set {w : World} {B g n c : Nat} {L : List NV} {T : Nat → Prop} (h : MemsRow w B (.slice (some ⟨g, 0, none⟩) n c) L T) {i : Nat} (hi : i < L.length) (x : NV) (hb : BytesAt w x.dv x.m.data T) : MemsRow (putW w g i x) B (.slice (some ⟨g, 0, none⟩) n c) (L.set i x) T := by
  have hT := h.2.2
  have hgr := putW_grown w g i x
  have keep : ∀ (y : NV), BytesAt w y.dv y.m.data T → BytesAt (putW w g i x) y.dv y.m.data T := fun y hy =>
    hy.of_heap (fun j hj => hgr.block j (hT j hj).1 (fun e => (hT j hj).2 e.symm)) (fun _ h => h)
  refine ⟨⟨by rw [nflat_length], ?_⟩, fun y hy => ?_, fun j hj => ⟨Nat.lt_of_lt_of_le (hT j hj).1 hgr.size, (hT j hj).2⟩⟩
  · rcases h.1.2 with ⟨e, _⟩ | ⟨g', cap, cur, e, hbg, hg, hn, hm, hs, ht⟩
    · cases e
    · have e' := e
      injection e with e1 e2 e3
      injection e1 with e1; injection e1 with e1
      subst e1
      refine Or.inr ⟨g, cap, ((cur.setIfInBounds (i * 3) (.string (mk x.m.name))).setIfInBounds (i * 3 + 1) (.int .i64 x.m.date)).setIfInBounds (i * 3 + 2) x.dv, by rw [List.length_set]; exact e', hbg, set_heap (set_heap (set_heap hg _ _) _ _) _ _, by rw [List.length_set]; exact hn, hm, by simpa using hs, ?_⟩
      rw [List.length_set, nflat_set L i x hi, Array.toList_setIfInBounds, Array.toList_setIfInBounds, Array.toList_setIfInBounds, List.take_set, List.take_set, List.take_set, ht]
  · rcases List.mem_or_eq_of_mem_set hy with hy | rfl
    · exact keep y (h.2.1 y hy)
    · exact keep _ hb
set_option maxRecDepth 100000 in
/-- All of a list is appended to nothing. -/
theorem run_append_all (w : World) (a : Option Addr) (c : Nat) (l : List Mem) (T : Nat → Prop) (h : MemsAt w (.slice a l.length c) l T) (hT : ∀ j, T j → j < w.heap.size) (ty : TypeId) (hl : l.length ≤ 1099511627775) :
    ∃ a' c' w' L, (Builtin.append_ #[22, 22] ty #[.slice none 0 0, .slice a l.length c]).run Tryz.prog w = .ok (.slice a' l.length c') w' ∧ L.map NV.m = l ∧ MemsRow w' w.heap.size (.slice a' l.length c') L T ∧ Below w.heap.size w w' := by
  obtain ⟨i0, hi, hz0, hz1, hz2⟩ := info_parts infoMember
  obtain ⟨L, hL, hLb, hLc⟩ := h.values
  have hLl : L.length = l.length := by have := congrArg List.length hL; rwa [List.length_map] at this
  obtain ⟨a0, c0, e, h1, h2, h3, h4⟩ := h
  injection e with e1 e2 e3
  subst e1 e3
  cases a with
  | none =>
    have hc0 : c = 0 := h3 rfl
    subst hc0
    obtain rfl : l = [] := List.length_eq_zero_iff.1 (by omega)
    obtain rfl : L = [] := List.length_eq_zero_iff.1 (by rw [hLl]; rfl)
    have hsrc : Src Tryz.prog i0.size 22 (.slice none 0 0) 0 [] w := ⟨.inl ⟨_, Tryz.underlying22⟩, fun _ => rfl, run_firstCells_none _ _ _ _ _, run_firstCells_none _ _ _ _ _, by simp, by simp⟩
    have hrun := run_append_nothing (P := Tryz.prog) w 22 22 ty 37 i0 Tryz.underlying22 hi none 0 0 (Nat.le_refl _) (.slice none 0 0) hsrc
    exact ⟨none, 0, w, [], hrun, rfl, ⟨World.ownsRow_nil _ _ _ _, (fun _ h => by cases h), fun j hj => ⟨hT j hj, by simp [Value.ownBlock]⟩⟩, Below.refl _ _⟩
  | some ad =>
    have hcells : ∀ j u, (nflat L)[j]? = some u → w.cell? (ad.add j) = some u := by
      intro j u hu
      have hjl := (List.getElem?_eq_some_iff.1 hu).1
      rw [nflat_length] at hjl
      exact hLc ad rfl (by omega) j u hu
    obtain ⟨v', w', hrun, ho, hg, -, hat⟩ := run_append_own_at (P := Tryz.prog) w w.heap.size 22 ty 37 i0 _ 3 48 Tryz.underlying22 hi hz0 hz1 hz2 rfl (by decide) (.slice none 0 0) 0 [] (World.ownsRow_nil _ _ _ _) ad l.length c (nflat L) (by rw [nflat_length, hLl]) hcells (rows_one L (fun x hx => by obtain ⟨da, dc, e⟩ := (hLb x hx).form; exact ⟨_, _, _, e⟩)) (by unfold maxLen; omega) (by omega) (Nat.le_refl _)
    rw [Nat.zero_add, List.nil_append] at ho
    have hv : ∃ a' c', v' = .slice a' l.length c' := by
      rcases ho.2 with ⟨e, hn⟩ | ⟨g, cap, cur, e', _⟩
      · exact ⟨none, 0, by rw [e, hn]⟩
      · exact ⟨_, _, e'⟩
    obtain ⟨a', c', rfl⟩ := hv
    have hbel : Below w.heap.size w w' := ⟨hg.os, hg.tape, hg.output, hg.size, fun j hj => hg.block j hj (by simp [Value.ownBlock])⟩
    refine ⟨a', c', w', L, hrun, hL, ⟨by rw [hLl]; exact ho, fun x hx => (hLb x hx).of_heap (fun j hj => hbel.block j (hT j hj)) (fun _ h => h), fun j hj => ⟨Nat.lt_of_lt_of_le (hT j hj) hbel.size, fun e' => ?_⟩⟩, hbel⟩
    have h5 := (ho.lt j e').1
    have h6 := hT j hj
    omega
end Go.Proofs.YtnjagoglabllaaaGreatDoor
