/-
  Itoa where its table reads as laid; appends of texts to bytes of one's own. Conditions: none beyond int's own.
-/
import Derived.Test.YtnjagoglabllaaaGreatDoorArFits
import Derived.Lib.AppendIntMem
import Derived.Lib.AppendStr
import Derived.Great.BuildSlice
namespace Go.Proofs.YtnjagoglabllaaaGreatDoor
open Go.RowKit

/-- The digits' table reads as laid, whatever is done from B on. -/
def Tab (B : Nat) (w : World) : Prop := Go.Lib.TabBelow Tryz.prog B w "internal/strconv.uint64pow10" .u64 Go.Lib.pow10Tab
theorem Tab.on {B : Nat} {w w1 : World} (h : Tab B w) (hb : Below B w w1) : Tab B w1 := Go.Lib.TabBelow.on h hb
theorem itoa_calls {B : Nat} {w : World} (h : Tab B w) (n : Int) (h0 : -9223372036854775808 ≤ n) (h1 : n ≤ 9223372036854775807) :
    Calls Tryz.prog 27 #[.int .i64 n] w fun e w' => e = .returned (.string (mk (Go.Lib.itoa n))) ∧ Below w.heap.size w w' := by
  refine (Tryz.strconv_Itoa n h0 h1 w h.here).mono ?_
  rintro e w' ⟨rfl, k, os, rfl⟩
  exact ⟨rfl, Go.Lib.below_grow _ w (Nat.le_refl _) k os⟩
theorem itoa_nat (n : Nat) : Go.Lib.itoa (n : Int) = Go.Lib.decDigits n := by
  unfold Go.Lib.itoa
  rw [if_neg (by omega)]; rfl
theorem str_cells (l : Bs) : Go.Lib.strCells (mk l) = ucells l := by
  unfold Go.Lib.strCells ucells
  rw [mk_list]
set_option maxRecDepth 100000 in
theorem run_append_str (w : World) (B : Nat) (v : Value) (xs : Bs) (hown : w.ownsRow B 5 1 v xs.length (ucells xs)) (ys : Bs) (ty : TypeId) (h0 : 0 < xs.length) (hl : xs.length + ys.length ≤ 70368744177664) (hB : B ≤ w.heap.size) :
    ∃ g c w', (Builtin.append_ #[26, 9] ty #[v, .string (mk ys)]).run Tryz.prog w = .ok (.slice (some ⟨g, 0, none⟩) (xs ++ ys).length c) w' ∧ w'.ownsRow B 5 1 (.slice (some ⟨g, 0, none⟩) (xs ++ ys).length c) (xs ++ ys).length (ucells (xs ++ ys)) ∧ w.grownBy w' v.ownBlock ∧ (v.ownBlock = some g ∨ g = w.heap.size) := by
  obtain ⟨i, hi, hz, hs1, hb1⟩ := info_parts infoByte
  have hms := mk_size ys
  have hsc : (Go.Lib.strCells (mk ys)).length = ys.length := by rw [str_cells, ucells_len]
  have hux := ucells_len xs
  have hll : (ucells xs ++ Go.Lib.strCells (mk ys)).length = xs.length + ys.length := by rw [List.length_append, hux, hsc]
  rcases hown.2 with ⟨rfl, h⟩ | ⟨g, cap, cur, rfl, hbg, hg, hnc, hcm, hcs, htake⟩
  · omega
  · rw [Nat.mul_one] at hcs htake
    by_cases hroom : xs.length + ys.length ≤ cap
    · have hr := Go.Lib.run_append_room_string (P := Tryz.prog) w 26 9 ty 5 i Tryz.underlying26 Tryz.underlying9 hi hs1 g xs.length cap cur hg (mk ys) (by omega) (by omega)
      rw [hms] at hr
      rw [List.length_append]
      refine ⟨g, cap, _, hr, ⟨by rw [Nat.mul_one, ucells_len, List.length_append], .inr ⟨g, cap, _, rfl, hbg, setRow_heap w g cur _ 5 _ hg, hroom, hcm, ?_, ?_⟩⟩, ⟨rfl, rfl, rfl, by simp, fun k _ hk => setRow_other w g k _ (fun e => hk (by simp [Value.ownBlock, e]))⟩, Or.inl rfl⟩
      · simp only [List.size_toArray, List.length_append, List.length_take, List.length_drop, Array.length_toList, hsc]
        omega
      · rw [htake, Nat.mul_one, ucells_append, ← str_cells ys]
        show List.take _ (_ ++ _) = _
        rw [← hll]
        exact List.take_left
    · have holds : ∀ j u, (ucells xs)[j]? = some u → w.cell? ((⟨g, 0, none⟩ : Addr).add j) = some u := hown.cells (g := g) rfl
      have hr := Go.Lib.run_append_grow_string (P := Tryz.prog) w 26 9 ty 5 i (.int .u8 0) Tryz.underlying26 Tryz.underlying9 hi hz ⟨g, 0, none⟩ xs.length cap (ucells xs) (by rw [hs1, hux, Nat.mul_one]) holds (mk ys) (by omega) (by omega) (by rw [hb1]; exact growslice_fits (by omega) (by omega))
      rw [hms] at hr
      have hge := grownCap_ge w (xs.length + ys.length) cap 5
      have hcm' : grownCap w (xs.length + ys.length) cap 5 ≤ maxLen := grownCap_le_maxLen w (xs.length + ys.length) cap 5 (by unfold maxLen; omega)
      rw [List.length_append]
      refine ⟨w.heap.size, _, _, hr, ⟨by rw [Nat.mul_one, ucells_len, List.length_append], .inr ⟨w.heap.size, _, _, rfl, hB, heap_alloc_new w.drew _, hge, hcm', ?_, ?_⟩⟩, ⟨rfl, rfl, rfl, by simp, fun k hk _ => heap_alloc_old w.drew _ hk⟩, Or.inr rfl⟩
      · have hz1 : (Value.int IntKind.u8 0).cells.size = 1 := rfl
        simp only [Array.size_append, List.size_toArray, size_zeroCells, hz1, hux, hsc]
        omega
      · simp only [Array.toList_append, List.append_assoc]
        rw [Nat.mul_one, ucells_append, ← str_cells ys, ← List.append_assoc, ← hll]
        exact List.take_left
/-- A row of the call's own; or one that a constant text was laid in, without room. -/
def RowX (w : World) (B : Nat) (v : Value) (xs : Bs) : Prop :=
  0 < xs.length ∧ (w.ownsRow B 5 1 v xs.length (ucells xs) ∨ ∃ g, v = .slice (some ⟨g, 0, none⟩) xs.length xs.length ∧ B ≤ g ∧ w.heap[g]? = some (.cells (ucells xs).toArray 5 (xs.length, xs.length + 1)))
theorem RowX.own {w : World} {B : Nat} {v : Value} {xs : Bs} (h : RowX w B v xs) {g : Nat} (hg : v.ownBlock = some g) : B ≤ g ∧ g < w.heap.size := by
  rcases h.2 with h | ⟨g', rfl, hB, hc⟩
  · rcases h.2 with ⟨rfl, h0⟩ | ⟨g', _, _, rfl, hB, hc, _⟩
    · cases hg
    · injection hg with hg; subst hg; exact ⟨hB, heap_lt hc⟩
  · injection hg with hg; subst hg; exact ⟨hB, heap_lt hc⟩
set_option maxRecDepth 100000 in
theorem run_append_rowx (w : World) (B : Nat) (v : Value) (xs : Bs) (hown : RowX w B v xs) (ys : Bs) (ty : TypeId) (hy : 0 < ys.length) (hl : xs.length + ys.length ≤ 70368744177664) (hB : B ≤ w.heap.size) :
    ∃ g c w', (Builtin.append_ #[26, 9] ty #[v, .string (mk ys)]).run Tryz.prog w = .ok (.slice (some ⟨g, 0, none⟩) (xs ++ ys).length c) w' ∧ w'.ownsRow B 5 1 (.slice (some ⟨g, 0, none⟩) (xs ++ ys).length c) (xs ++ ys).length (ucells (xs ++ ys)) ∧ w.grownBy w' v.ownBlock ∧ (v.ownBlock = some g ∨ g = w.heap.size) := by
  obtain ⟨h0, hown⟩ := hown
  rcases hown with hown | ⟨g, rfl, hbg, hc⟩
  · exact run_append_str w B v xs hown ys ty h0 hl hB
  · obtain ⟨i, hi, hz, hs1, hb1⟩ := info_parts infoByte
    have hms := mk_size ys
    have hsc : (Go.Lib.strCells (mk ys)).length = ys.length := by rw [str_cells, ucells_len]
    have hux := ucells_len xs
    have hll : (ucells xs ++ Go.Lib.strCells (mk ys)).length = xs.length + ys.length := by rw [List.length_append, hux, hsc]
    have holds : ∀ j u, (ucells xs)[j]? = some u → w.cell? ((⟨g, 0, none⟩ : Addr).add j) = some u := by
      intro j u hu
      rw [addr_lit, Nat.zero_add, cell_of_row w g j _ 5 _ hc]
      simpa using hu
    have hr := Go.Lib.run_append_grow_string (P := Tryz.prog) w 26 9 ty 5 i (.int .u8 0) Tryz.underlying26 Tryz.underlying9 hi hz ⟨g, 0, none⟩ xs.length xs.length (ucells xs) (by rw [hs1, hux, Nat.mul_one]) holds (mk ys) (by omega) (by omega) (by rw [hb1]; exact growslice_fits (by omega) (by omega))
    rw [hms] at hr
    have hge := grownCap_ge w (xs.length + ys.length) xs.length 5
    have hcm' : grownCap w (xs.length + ys.length) xs.length 5 ≤ maxLen := grownCap_le_maxLen w (xs.length + ys.length) xs.length 5 (by unfold maxLen; omega)
    rw [List.length_append]
    refine ⟨w.heap.size, _, _, hr, ⟨by rw [Nat.mul_one, ucells_len, List.length_append], .inr ⟨w.heap.size, _, _, rfl, hB, heap_alloc_new w.drew _, hge, hcm', ?_, ?_⟩⟩, ⟨rfl, rfl, rfl, by simp, fun k hk _ => heap_alloc_old w.drew _ hk⟩, Or.inr rfl⟩
    · have hz1 : (Value.int IntKind.u8 0).cells.size = 1 := rfl
      simp only [Array.size_append, List.size_toArray, size_zeroCells, hz1, hux, hsc]
      omega
    · simp only [Array.toList_append, List.append_assoc]
      rw [Nat.mul_one, ucells_append, ← str_cells ys, ← List.append_assoc, ← hll]
      exact List.take_left
theorem wpList_append_str {ops : Array Oper} {rest : List Oper} {o : Oper} {a : Act} {Q : Exit → Act → World → Prop} (w : World) (hgd : o.guard = none) (s x : Operand)
    (hop : o.op = Op.call { callee := Callee.builtin Builtin.append, args := #[s, x], argTypes := #[26, 9] }) (B : Nat) (v : Value) (xs : Bs) (hs : a.eval s = v) (h : RowX w B v xs) (ys : Bs) (hx : a.eval x = .string (mk ys)) (h0 : 0 < ys.length) (hl : xs.length + ys.length ≤ 70368744177664) (hB : B ≤ w.heap.size)
    (hK : ∀ g n' c' w', Hid (n' = (xs ++ ys).length) → w'.ownsRow B 5 1 (.slice (some ⟨g, 0, none⟩) n' c') (xs ++ ys).length (ucells (xs ++ ys)) → w.grownBy w' v.ownBlock → (v.ownBlock = some g ∨ g = w.heap.size) → wpList Tryz.prog ops Q rest (a.put o.dst (.slice (some ⟨g, 0, none⟩) n' c')) w') :
    wpList Tryz.prog ops Q (o :: rest) a w := by
  refine wpList_plain hgd fun K hK' => ?_
  obtain ⟨g, c', w', hrun, r1, r2, r3⟩ := run_append_rowx w B v xs h ys o.type h0 hl hB
  unfold Oper.wp
  simp only [execOp, hop, resolve, invoke, builtin, hs, hx, hrun, Result.andThen, Sem.run_bind, Sem.run_pure, List.map_toArray, List.map_cons, List.map_nil]
  exact hK' _ _ (hK g _ c' w' (Lib.hid rfl) r1 r2 r3)
theorem wpList_append_byt {ops : Array Oper} {rest : List Oper} {o : Oper} {a : Act} {Q : Exit → Act → World → Prop} (w : World) (hgd : o.guard = none) (s x : Operand)
    (hop : o.op = Op.call { callee := Callee.builtin Builtin.append, args := #[s, x], argTypes := #[26, 26] }) (B : Nat) (v : Value) (xs : Bs) (hs : a.eval s = v) (h : w.ownsRow B 5 1 v xs.length (ucells xs)) (sv : Value) (ys : Bs) (S : Nat → Prop) (hx : a.eval x = sv) (hb : BytesAt w sv ys S) (hl : xs.length + ys.length ≤ 70368744177664) (hB : B ≤ w.heap.size)
    (hK : ∀ a' n' c' w', Hid (n' = (xs ++ ys).length) → w'.ownsRow B 5 1 (.slice a' n' c') (xs ++ ys).length (ucells (xs ++ ys)) → w.grownBy w' v.ownBlock → (∀ g, (Value.slice a' n' c').ownBlock = some g → v.ownBlock = some g ∨ g = w.heap.size) → wpList Tryz.prog ops Q rest (a.put o.dst (.slice a' n' c')) w') :
    wpList Tryz.prog ops Q (o :: rest) a w := by
  refine wpList_plain hgd fun K hK' => ?_
  obtain ⟨a', c', w', hrun, r1, r2, r3⟩ := run_append_bytes w B v xs h sv ys S hb o.type hl hB
  unfold Oper.wp
  simp only [execOp, hop, resolve, invoke, builtin, hs, hx, hrun, Result.andThen, Sem.run_bind, Sem.run_pure, List.map_toArray, List.map_cons, List.map_nil]
  exact hK' _ _ (hK a' _ c' w' (Lib.hid rfl) r1 r2 r3)
end Go.Proofs.YtnjagoglabllaaaGreatDoor
