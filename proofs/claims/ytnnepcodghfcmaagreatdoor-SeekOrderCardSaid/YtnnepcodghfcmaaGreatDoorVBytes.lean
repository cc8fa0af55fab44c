/-
  Bytes appended to a row of the call's own. Conditions: at most 2^46 bytes.
-/
import Derived.Test.YtnnepcodghfcmaaGreatDoorVPut
import Derived.Maps.AppendAt
import Derived.Deep.Upon
namespace Go.Proofs.YtnnepcodghfcmaaGreatDoor
open Go.RowKit

def ucells (l : Bs) : List Value := l.map fun b => .int .u8 b.toNat
theorem ucells_len (l : Bs) : (ucells l).length = l.length := by simp [ucells]
theorem ucells_append (a b : Bs) : ucells (a ++ b) = ucells a ++ ucells b := by simp [ucells]
theorem ucells_get {l : Bs} {k : Nat} {x : UInt8} (h : l[k]? = some x) : (ucells l)[k]? = some (.int .u8 x.toNat) := by simp [ucells, h]
theorem infoByte : (Tryz.prog.info? 5).map (fun i => (i.zero, i.size, i.bytes)) = some (some (.int .u8 0), 1, 1) := by kernel_rfl
theorem addr_lit (g o j : Nat) : (⟨g, o, none⟩ : Addr).add j = ⟨g, o + j, none⟩ := by unfold Addr.add; split <;> simp_all
/-- A row that the call owns reads as bytes. -/
theorem bytes_own {w : World} {B : Nat} {v : Value} {l : Bs} (h : w.ownsRow B 5 1 v l.length (ucells l)) : BytesAt w v l (fun k => B ≤ k ∧ k < w.heap.size) := by
  have hc := fun g hg => h.cells (g := g) hg
  obtain ⟨hl, h⟩ := h
  rcases h with ⟨rfl, hn⟩ | ⟨g, cap, cur, rfl, hb, hg, hn, hm, hs, ht⟩
  · obtain rfl := List.length_eq_zero_iff.1 hn
    exact BytesAt.nil _ _
  · refine ⟨_, _, rfl, hn, hm, (fun e => by cases e), fun _ => ⟨g, 0, rfl, ⟨hb, heap_lt hg⟩, heap_lt hg, fun k x hk => ?_⟩⟩
    have := hc g rfl k _ (ucells_get hk)
    rw [addr_lit] at this
    exact this
theorem BytesAt.mono {w : World} {v : Value} {d : Bs} {S S' : Nat → Prop} (h : BytesAt w v d S) (hS : ∀ k, S k → S' k) : BytesAt w v d S' := h.of_heap (fun _ _ => rfl) hS
set_option maxRecDepth 100000 in
theorem run_append_bytes (w : World) (B : Nat) (v : Value) (xs : Bs) (hown : w.ownsRow B 5 1 v xs.length (ucells xs)) (s : Value) (ys : Bs) (S : Nat → Prop) (hs : BytesAt w s ys S) (ty : TypeId) (hlen : xs.length + ys.length ≤ 70368744177664) (hB : B ≤ w.heap.size) :
    ∃ a c w', (Builtin.append_ #[39, 39] ty #[v, s]).run Tryz.prog w = .ok (.slice a (xs ++ ys).length c) w' ∧ w'.ownsRow B 5 1 (.slice a (xs ++ ys).length c) (xs ++ ys).length (ucells (xs ++ ys)) ∧ w.grownBy w' v.ownBlock ∧ (∀ g, (Value.slice a (xs ++ ys).length c).ownBlock = some g → v.ownBlock = some g ∨ g = w.heap.size) := by
  obtain ⟨i0, hi, hz0, hz1, hz2⟩ := info_parts infoByte
  obtain ⟨a0, c0, rfl, h1, h2, h3, h4⟩ := hs
  have form : ∀ {w' : World} {v' : Value}, w'.ownsRow B 5 1 v' (xs ++ ys).length (ucells (xs ++ ys)) → ∃ a c, v' = .slice a (xs ++ ys).length c := by
    intro w' v' h
    rcases h.2 with ⟨rfl, hn⟩ | ⟨g, cap, cur, rfl, _⟩
    · exact ⟨none, 0, by rw [hn]⟩
    · exact ⟨_, _, rfl⟩
  cases a0 with
  | none =>
    obtain rfl : c0 = 0 := h3 rfl
    obtain rfl : ys = [] := List.length_eq_zero_iff.1 (by omega)
    have hv : ∃ b n c, v = .slice b n c ∧ n ≤ c := by
      rcases hown.2 with ⟨rfl, hn⟩ | ⟨g, cap, cur, rfl, hb, hg, hn, _⟩
      · exact ⟨_, _, _, rfl, Nat.le_refl _⟩
      · exact ⟨_, _, _, rfl, hn⟩
    obtain ⟨b, n, c, rfl, hnc⟩ := hv
    have hn : n = xs.length := by
      rcases hown.2 with ⟨e, hn⟩ | ⟨g, cap, cur, e, _⟩
      · injection e with e1 e2 e3; rw [e2, hn]
      · injection e
    subst hn
    have hsrc : Src Tryz.prog i0.size 39 (.slice none 0 0) 0 [] w := ⟨.inl ⟨_, Tryz.underlying39⟩, fun _ => rfl, run_firstCells_none _ _ _ _ _, run_firstCells_none _ _ _ _ _, by simp, by simp⟩
    have hrun := run_append_nothing (P := Tryz.prog) w 39 39 ty 5 i0 Tryz.underlying39 hi b xs.length c hnc (.slice none 0 0) hsrc
    have e0 : xs ++ [] = xs := List.append_nil xs
    rw [e0]
    exact ⟨b, c, w, hrun, hown, ⟨rfl, rfl, rfl, Nat.le_refl _, fun _ _ _ => rfl⟩, fun g hg => Or.inl hg⟩
  | some ad =>
    have hnews : ∀ (j : Nat) (u : Value), (ucells ys)[j]? = some u → w.cell? (ad.add j) = some u := by
      intro j u hu
      have hj : j < ys.length := by have := (List.getElem?_eq_some_iff.1 hu).1; rwa [ucells_len] at this
      obtain ⟨b, off, e, _, _, hcell⟩ := h4 (by omega)
      injection e with e; subst e
      rw [addr_lit, hcell j _ (List.getElem?_eq_getElem hj), ← hu, ucells_get (List.getElem?_eq_getElem hj)]
    obtain ⟨v', w', hrun, ho, hg, _, hat⟩ := run_append_own_at (P := Tryz.prog) w B 39 ty 5 i0 _ 1 1 Tryz.underlying39 hi hz0 hz1 hz2 rfl (by decide) v xs.length (ucells xs) hown ad ys.length c0 (ucells ys) (by rw [ucells_len, Nat.mul_one]) hnews (by intro u hu; obtain ⟨b, _, rfl⟩ := List.mem_map.1 hu; rfl) (by unfold maxLen; omega) (by omega) hB
    rw [← ucells_append, ← List.length_append] at ho
    obtain ⟨a, c, rfl⟩ := form ho
    refine ⟨a, c, w', hrun, ho, hg, fun g hgg => ?_⟩
    rcases hat with h | h
    · exact Or.inl (by rw [← h]; exact hgg)
    · right; rw [h] at hgg; injection hgg with hgg; exact hgg.symm
theorem wp_append_bytes {o : Oper} {a : Act} {w : World} {K : Act → World → Prop} {Q : Exit → Act → World → Prop} (s x : Operand) (ho : o.op = .call { callee := .builtin .append, args := #[s, x], argTypes := #[39, 39] })
    (B : Nat) (v : Value) (xs : Bs) (hs : a.eval s = v) (hown : w.ownsRow B 5 1 v xs.length (ucells xs)) (sv : Value) (ys : Bs) (S : Nat → Prop) (hx : a.eval x = sv) (hb : BytesAt w sv ys S) (hlen : xs.length + ys.length ≤ 70368744177664) (hB : B ≤ w.heap.size)
    (h : ∀ a' m' c' w', Hid (m' = (xs ++ ys).length) → w'.ownsRow B 5 1 (.slice a' m' c') (xs ++ ys).length (ucells (xs ++ ys)) → w.grownBy w' v.ownBlock → K (a.put o.dst (.slice a' m' c')) w') : o.wp Tryz.prog a w K Q := by
  obtain ⟨a', c', w', hr, h2, h3, h4⟩ := run_append_bytes w B v xs hown sv ys S hb o.type hlen hB
  unfold Oper.wp execOp
  simp only [ho, resolve, invoke, builtin, Sem.run_bind, Sem.run_pure, Result.andThen_ok, List.map_toArray, List.map_cons, List.map_nil, hs, hx, hr]
  exact h a' _ c' w' (Lib.hid rfl) h2 h3
theorem step_append_bytes {ops : Array Oper} {o : Oper} {a : Act} {w : World} {K : Act → World → Prop} {Q : Exit → Act → World → Prop} {E : Prop} (hgd : o.guard = none) (s x : Operand) (ho : o.op = .call { callee := .builtin .append, args := #[s, x], argTypes := #[39, 39] })
    (B : Nat) (v : Value) (xs : Bs) (hs : a.eval s = v) (hown : w.ownsRow B 5 1 v xs.length (ucells xs)) (sv : Value) (ys : Bs) (S : Nat → Prop) (hx : a.eval x = sv) (hb : BytesAt w sv ys S) (hlen : xs.length + ys.length ≤ 70368744177664) (hB : B ≤ w.heap.size)
    (h : ∀ a' m' c' w', Hid (m' = (xs ++ ys).length) → w'.ownsRow B 5 1 (.slice a' m' c') (xs ++ ys).length (ucells (xs ++ ys)) → w.grownBy w' v.ownBlock → K (a.put o.dst (.slice a' m' c')) w') :
    if Region.wanted o (yielded ops a.tmps) = true then Oper.wp Tryz.prog o a w K Q else E := by
  have hw : Region.wanted o (yielded ops a.tmps) = true := by simp [Region.wanted, hgd]
  rw [if_pos hw]
  exact wp_append_bytes s x ho B v xs hs hown sv ys S hx hb hlen hB h
/-- A store into the map of the nodes, at a step of a region that draws. -/
theorem step_put {mb nb : Nat} {N : Bs → Nat} {st : St} {ops : Array Oper} {o : Oper} {a : Act} {w : World} {K : Act → World → Prop} {Q : Exit → Act → World → Prop} {E : Prop} (hgd : o.guard = none) (m x v : Operand) (ho : o.op = Op.mapUpdate 50 m x v)
    (hm : a.eval m = .map (some mb)) (s : ByteArray) (hx : a.eval x = .string s) (hv : a.eval v = .pointer (some ⟨nb, 0, none⟩)) (hmap : MapAt w mb N st) (hr : Rising st) (hs : s.size ≤ maxLen) (hn : st.length < maxLen) (n : PN)
    (h : ∀ w', MapAt w' mb (fun q => if q = s.data.toList then nb else N q) (putSt st s.data.toList n) → w.grownBy w' (some mb) → w'.heap.size = w.heap.size → K (a.put o.dst undef) w') :
    if Region.wanted o (yielded ops a.tmps) = true then Oper.wp Tryz.prog o a w K Q else E := by
  have hw : Region.wanted o (yielded ops a.tmps) = true := by simp [Region.wanted, hgd]
  rw [if_pos hw]
  obtain ⟨w', hrun, h1, h2, h3⟩ := hmap.put (nb := nb) hr s hs hn n
  unfold Oper.wp
  simp [execOp, ho, hm, hx, hv, hrun, Result.andThen]
  exact h w' h1 h2 h3
end Go.Proofs.YtnnepcodghfcmaaGreatDoor
