/-
  A row of strings whose capacity may end ahead of its array: read, shortened, appended to. Conditions: at most 2^40 strings.
-/
import Derived.Test.YtnnepcodghfcmaaGreatDoorVBase
namespace Go.Proofs.YtnnepcodghfcmaaGreatDoor
open Go.RowKit

def bcells (l : List Bs) : List Value := l.map fun b => .string (mk b)
theorem bcells_len (l : List Bs) : (bcells l).length = l.length := by simp [bcells]
theorem bcells_append (a b : List Bs) : bcells (a ++ b) = bcells a ++ bcells b := by simp [bcells]
def LooseS (w : World) (B : Nat) (v : Value) (l : List Bs) : Prop :=
  (v = .slice none 0 0 ∧ l = []) ∨ ∃ g cap cur, v = .slice (some ⟨g, 0, none⟩) l.length cap ∧ B ≤ g ∧ w.heap[g]? = some (.cells cur 9 (0, 0)) ∧ l.length ≤ cap ∧ cap ≤ maxLen ∧ cap ≤ cur.size ∧ cur.toList.take l.length = bcells l
theorem LooseS.nil (w : World) (B : Nat) : LooseS w B (.slice none 0 0) [] := Or.inl ⟨rfl, rfl⟩
theorem LooseS.lt {w : World} {B : Nat} {v : Value} {l : List Bs} (h : LooseS w B v l) : ∀ g, v.ownBlock = some g → B ≤ g ∧ g < w.heap.size := by
  intro k hk
  rcases h with ⟨rfl, _⟩ | ⟨g, cap, cur, rfl, hb, hg, _⟩
  · simp [Value.ownBlock] at hk
  · simp [Value.ownBlock] at hk; subst hk
    exact ⟨hb, heap_lt hg⟩
theorem LooseS.kept {w w' : World} {B : Nat} {v : Value} {l : List Bs} (h : LooseS w B v l) (hk : ∀ g, v.ownBlock = some g → w'.heap[g]? = w.heap[g]?) : LooseS w' B v l := by
  rcases h with h | ⟨g, cap, cur, rfl, hb, hg, r⟩
  · exact Or.inl h
  · exact Or.inr ⟨g, cap, cur, rfl, hb, (hk g rfl).trans hg, r⟩
theorem LooseS.grown {w w' : World} {B : Nat} {row : Option Nat} {v : Value} {l : List Bs} (h : LooseS w B v l) (hg : w.grownBy w' row) (hr : ∀ g, row = some g → g < B) : LooseS w' B v l :=
  h.kept fun g e => hg.block g (h.lt g e).2 fun e' => by have := hr g e'.symm; have := (h.lt g e).1; omega
theorem LooseS.own {w : World} {B : Nat} {v : Value} {l : List Bs} {n : Nat} (h : w.ownsRow B 9 1 v n (bcells l)) (hn : n = l.length) : LooseS w B v l := by
  subst hn
  obtain ⟨hl, h⟩ := h
  rcases h with ⟨rfl, h0⟩ | ⟨g, cap, cur, rfl, hb, hg, hn, hm, hc, ht⟩
  · exact Or.inl ⟨rfl, List.length_eq_zero_iff.1 h0⟩
  · exact Or.inr ⟨g, cap, cur, rfl, hb, hg, hn, hm, by omega, by rw [Nat.mul_one] at ht; exact ht⟩
theorem LooseS.cells {w : World} {B : Nat} {v : Value} {l : List Bs} (h : LooseS w B v l) {k : Nat} {x : Bs} (hk : l[k]? = some x) : ∃ g cap, v = .slice (some ⟨g, 0, none⟩) l.length cap ∧ B ≤ g ∧ g < w.heap.size ∧ w.cell? ⟨g, k, none⟩ = some (.string (mk x)) := by
  rcases h with ⟨rfl, rfl⟩ | ⟨g, cap, cur, rfl, hb, hg, hn, hm, hc, ht⟩
  · simp at hk
  · refine ⟨g, cap, rfl, hb, heap_lt hg, ?_⟩
    have hkl := (List.getElem?_eq_some_iff.1 hk).1
    rw [cell_of_row w g k cur 9 (0, 0) hg]
    have : (bcells l)[k]? = some (.string (mk x)) := by simp [bcells, hk]
    rw [← ht, List.getElem?_take_of_lt hkl] at this
    simpa using this
theorem LooseS.strs {w : World} {B : Nat} {v : Value} {l : List Bs} (h : LooseS w B v l) : StrsAt w v (l.map mk) := by
  have hc := fun k x hk => h.cells (k := k) (x := x) hk
  rcases h with ⟨rfl, rfl⟩ | ⟨g, cap, cur, rfl, hb, hg, hn, hm, hcs, ht⟩
  · exact ⟨none, 0, 0, rfl, rfl, Nat.le_refl _, Nat.zero_le _, fun h => absurd h (Nat.lt_irrefl _), fun _ => rfl⟩
  · refine ⟨_, _, _, rfl, by simp, hn, hm, fun _ => ⟨g, 0, rfl, heap_lt hg, fun k s hk => ?_⟩, fun h => by cases h⟩
    rw [List.getElem?_map] at hk
    cases hx : l[k]? with
    | none => rw [hx] at hk; cases hk
    | some x =>
      rw [hx] at hk
      obtain rfl : mk x = s := Option.some.inj hk
      obtain ⟨g', cap', e, -, -, hcell⟩ := hc k x hx
      injection e with e1 e2 e3
      injection e1 with e1; injection e1 with e1
      subst e1
      rw [Nat.zero_add]; exact hcell
/-- One name less. -/
theorem LooseS.pop {w : World} {B g cap n : Nat} {l : List Bs} (h : LooseS w B (.slice (some ⟨g, 0, none⟩) n cap) l) : LooseS w B (.slice (some ⟨g, 0, none⟩) (n - 1) (n - 1)) l.dropLast := by
  rcases h with ⟨e, _⟩ | ⟨g', cap', cur, e, hb, hg, hn, hm, hc, ht⟩
  · cases e
  · injection e with e1 e2 e3
    injection e1 with e1; injection e1 with e1
    subst e1 e2 e3
    refine Or.inr ⟨g, l.length - 1, cur, by simp, hb, hg, by simp, by unfold maxLen at *; omega, by omega, ?_⟩
    rw [List.length_dropLast]
    have : (cur.toList.take l.length).take (l.length - 1) = (bcells l).take (l.length - 1) := by rw [ht]
    rw [List.take_take, Nat.min_eq_left (by omega)] at this
    rw [this, List.dropLast_eq_take]
    simp [bcells, List.map_take]

theorem run_append_loose (w : World) (B : Nat) (v : Value) (l : List Bs) (h : LooseS w B v l) (a : Addr) (c : Nat) (s : ByteArray) (ty : TypeId) (hc : w.cell? a = some (.string s)) (ha : a.add 0 = a) (hl : l.length ≤ 1099511627776) (hB : B ≤ w.heap.size) :
    ∃ g cap w', (Builtin.append_ #[35, 35] ty #[v, .slice (some a) 1 c]).run Tryz.prog w = .ok (.slice (some ⟨g, 0, none⟩) (l.length + 1) cap) w' ∧ LooseS w' B (.slice (some ⟨g, 0, none⟩) (l.length + 1) cap) (l ++ [s.data.toList]) ∧ w.grownBy w' v.ownBlock ∧ (v.ownBlock = some g ∨ w.heap.size ≤ g) := by
  obtain ⟨i0, hi, hz0, hz1, hz2⟩ := info_parts infoStr
  have hnews : ∀ (j : Nat) (u : Value), [Value.string s][j]? = some u → w.cell? (a.add j) = some u := by
    intro j u hu
    match j, hu with
    | 0, hu => simp at hu; subst hu; rw [ha]; exact hc
    | j + 1, hu => simp at hu
  have hone : ∀ u ∈ [Value.string s], u.oneCell' = true := by simp [Value.oneCell']
  have hb1 : bcells (l ++ [s.data.toList]) = bcells l ++ [.string s] := by rw [bcells_append]; simp [bcells, mk_back]
  have own : ∀ {w' : World} {B' : Nat} {v' : Value}, B ≤ B' → w'.ownsRow B' 9 1 v' (l.length + 1) (bcells l ++ [.string s]) → ∃ g cap, v' = .slice (some ⟨g, 0, none⟩) (l.length + 1) cap ∧ LooseS w' B v' (l ++ [s.data.toList]) ∧ B' ≤ g := by
    intro w' B' v' hBB ho
    have ho' : w'.ownsRow B' 9 1 v' (l.length + 1) (bcells (l ++ [s.data.toList])) := by rw [hb1]; exact ho
    have hL := LooseS.own ho' (by simp)
    rcases hL with ⟨rfl, e⟩ | ⟨g, cap, cur, rfl, hbg, r⟩
    · simp at e
    · exact ⟨g, cap, by simp, Or.inr ⟨g, cap, cur, by simp, Nat.le_trans hBB hbg, r⟩, hbg⟩
  rcases h with ⟨rfl, rfl⟩ | ⟨g, cap, cur, rfl, hb, hg, hn, hm, hcs, ht⟩
  · obtain ⟨v', w', hrun, ho, hgr, _⟩ := run_append_own (P := Tryz.prog) w w.heap.size 35 ty 9 i0 _ 1 16 Tryz.underlying35 hi hz0 hz1 hz2 rfl (by decide) (.slice none 0 0) 0 [] (World.ownsRow_nil w _ 9 1) a 1 c [.string s] rfl hnews hone (by unfold maxLen; omega) (by omega) (Nat.le_refl _)
    obtain ⟨g, cap, rfl, hL, hge⟩ := own hB (by simpa [bcells] using ho)
    exact ⟨g, cap, w', by simpa using hrun, by simpa using hL, hgr, Or.inr hge⟩
  · by_cases hr : l.length + 1 ≤ cap
    · have hrun := run_append_room (P := Tryz.prog) w 35 ty 9 i0 Tryz.underlying35 hi g l.length cap cur hg a 1 c [.string s] (by rw [hz1]; rfl) hnews hone hr (by rw [hz1]; simp; omega)
      rw [hz1, Nat.mul_one] at hrun
      refine ⟨g, cap, _, hrun, Or.inr ⟨g, cap, _, by simp, hb, setRow_heap w g cur _ 9 _ hg, by simpa using hr, hm, ?_, ?_⟩, ⟨rfl, rfl, rfl, by simp [World.setRow], fun k _ hk => setRow_other w g k _ (fun e => hk (by simp [Value.ownBlock, e]))⟩, Or.inl rfl⟩
      · simp; omega
      · rw [hb1, ht]
        have e : (l ++ [s.data.toList]).length = (bcells l ++ [Value.string s]).length := by simp [bcells_len]
        rw [e]
        exact List.take_left
    · obtain ⟨v', w', hrun, ho, hgr⟩ := run_append_arg_grows (P := Tryz.prog) w 35 ty 9 i0 _ 1 16 Tryz.underlying35 hi hz0 hz1 hz2 rfl (by decide) ⟨g, 0, none⟩ l.length cap (bcells l) (by rw [bcells_len, Nat.mul_one]) (fun j u hu => by
        have e : (⟨g, 0, none⟩ : Addr).add j = ⟨g, j, none⟩ := by unfold Addr.add; split <;> simp_all
        have hj : j < l.length := by have := (List.getElem?_eq_some_iff.1 hu).1; rwa [bcells_len] at this
        rw [e, cell_of_row w g j cur 9 (0, 0) hg]
        rw [← ht, List.getElem?_take_of_lt hj] at hu
        simpa using hu) a 1 c [.string s] rfl hnews (by omega) (by unfold maxLen; omega) (by omega)
      obtain ⟨g', cap', rfl, hL, hge⟩ := own hB ho
      exact ⟨g', cap', w', hrun, hL, ⟨hgr.os, hgr.tape, hgr.output, hgr.size, fun k hk _ => hgr.block k hk (by simp)⟩, Or.inr hge⟩

theorem wpList_append_loose {ops : Array Oper} {rest : List Oper} {o : Oper} {a : Act} {Q : Exit → Act → World → Prop} (w : World) (hgd : o.guard = none) (s x : Operand)
    (hop : o.op = Op.call { callee := Callee.builtin Builtin.append, args := #[s, x], argTypes := #[35, 35] }) (B : Nat) (v : Value) (hs : a.eval s = v) (l : List Bs) (h : LooseS w B v l) (ad : Addr) (c : Nat) (t : ByteArray) (hx : a.eval x = .slice (some ad) 1 c)
    (hc : w.cell? ad = some (.string t)) (ha : ad.add 0 = ad) (hl : l.length ≤ 1099511627776) (hB : B ≤ w.heap.size)
    (hK : ∀ g cap w', LooseS w' B (.slice (some ⟨g, 0, none⟩) (l.length + 1) cap) (l ++ [t.data.toList]) → w.grownBy w' v.ownBlock → (v.ownBlock = some g ∨ w.heap.size ≤ g) → wpList Tryz.prog ops Q rest (a.put o.dst (.slice (some ⟨g, 0, none⟩) (l.length + 1) cap)) w') :
    wpList Tryz.prog ops Q (o :: rest) a w := by
  refine wpList_plain hgd fun K hK' => ?_
  obtain ⟨g, cap, w', hrun, r1, r2, r3⟩ := run_append_loose w B v l h ad c t o.type hc ha hl hB
  unfold Oper.wp
  simp [execOp, hop, resolve, invoke, builtin, hs, hx, hrun, Result.andThen]
  exact hK' _ _ (hK g cap w' r1 r2 r3)
end Go.Proofs.YtnnepcodghfcmaaGreatDoor
