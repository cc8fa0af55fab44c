/-
  Bytes, rows and boxes in memory: lemmas that know nothing of what they serve. Conditions: at most 2^46 bytes.
-/
import Derived.Test.YtnjagoglabllaaaGreatDoorVBase
import Derived.Maps.AppendAt
import Derived.Deep.Upon
import Derived.Lib.SmallJoins
import Derived.Deep.DeepCutAuto
import Derived.Deep.CutBlock
import Derived.Deep.CutRange
namespace Go.Proofs.YtnjagoglabllaaaGreatDoor
open Go.RowKit

theorem one_cell {w : World} {b : Nat} {v : Value} {t : TypeId} (h : w.heap[b]? = some (.cells #[v] t (0, 0))) : w.cell? ⟨b, 0, none⟩ = some v ∧ w.frozen? ⟨b, 0, none⟩ = false := by
  constructor
  · simp [World.cell?, h]
  · simp [World.frozen?, h]
theorem one_new (w : World) (v : Value) (t : TypeId) : (w.alloc (.cells #[v] t)).cell? ⟨w.heap.size, 0, none⟩ = some v := by
  unfold World.cell?; rw [heap_alloc_new]; rfl
def BytesAt (w : World) (v : Value) (d : Bs) (S : Nat → Prop) : Prop :=
  ∃ a c, v = .slice a d.length c ∧ d.length ≤ c ∧ c ≤ maxLen ∧ (a = none → c = 0) ∧ (0 < d.length → ∃ b off, a = some ⟨b, off, none⟩ ∧ S b ∧ b < w.heap.size ∧ ∀ (k : Nat) (x : UInt8), d[k]? = some x → w.cell? ⟨b, off + k, none⟩ = some (.int .u8 x.toNat))
theorem lt_of_heap {w w' : World} {b : Nat} (hb : b < w.heap.size) (e : w'.heap[b]? = w.heap[b]?) : b < w'.heap.size := by
  rw [Array.getElem?_eq_getElem hb] at e
  exact (Array.getElem?_eq_some_iff.1 e).1
theorem BytesAt.of_heap {w w' : World} {v : Value} {d : Bs} {S S' : Nat → Prop} (h : BytesAt w v d S) (he : ∀ k, S k → w'.heap[k]? = w.heap[k]?) (hS : ∀ k, S k → S' k) : BytesAt w' v d S' := by
  obtain ⟨a, c, h1, h2, h3, h4, h5⟩ := h
  refine ⟨a, c, h1, h2, h3, h4, fun h0 => ?_⟩
  obtain ⟨b, off, e1, e2, e3, e4⟩ := h5 h0
  exact ⟨b, off, e1, hS _ e2, lt_of_heap e3 (he b e2), fun k x hk => (World.cell?_of_block (a := ⟨b, off + k, none⟩) (he b e2)).trans (e4 k x hk)⟩
theorem BytesAt.nil (w : World) (S : Nat → Prop) : BytesAt w (.slice none 0 0) [] S := ⟨none, 0, rfl, Nat.le_refl _, Nat.zero_le _, fun _ => rfl, fun h => absurd h (Nat.lt_irrefl _)⟩
theorem BytesAt.form {w : World} {v : Value} {d : Bs} {S : Nat → Prop} (h : BytesAt w v d S) : ∃ a c, v = .slice a d.length c := by
  obtain ⟨a, c, h1, _⟩ := h; exact ⟨a, c, h1⟩
/-- Of what was there nothing has turned but blocks of S. -/
structure Kept (S : Nat → Prop) (w w' : World) : Prop where
  os : w'.os = w.os
  tape : w'.tape = w.tape
  output : w'.output = w.output
  size : w.heap.size ≤ w'.heap.size
  block : ∀ k, k < w.heap.size → ¬ S k → w'.heap[k]? = w.heap[k]?
theorem Kept.refl (S : Nat → Prop) (w : World) : Kept S w w := ⟨rfl, rfl, rfl, Nat.le_refl _, fun _ _ _ => rfl⟩
theorem Kept.of_below {S : Nat → Prop} {w w' : World} (h : Below w.heap.size w w') : Kept S w w' := ⟨h.os, h.tape, h.output, h.size, fun k hk _ => h.block k hk⟩
theorem Kept.trans {S S' : Nat → Prop} {w w1 w2 : World} (h : Kept S w w1) (h' : Kept S' w1 w2) (hs : ∀ k, S' k → S k ∨ w.heap.size ≤ k) : Kept S w w2 :=
  ⟨h'.os.trans h.os, h'.tape.trans h.tape, h'.output.trans h.output, Nat.le_trans h.size h'.size, fun k hk hn =>
    (h'.block k (Nat.lt_of_lt_of_le hk h.size) fun hk' => (hs k hk').elim hn fun h0 => by omega).trans (h.block k hk hn)⟩
theorem Kept.then {S : Nat → Prop} {w w1 w2 : World} (h : Kept S w w1) (h' : Below w1.heap.size w1 w2) : Kept S w w2 := h.trans (S' := fun _ => False) (Kept.of_below h') (fun _ h => h.elim)
theorem Below.kept {S : Nat → Prop} {w w1 w2 : World} (h : Below w.heap.size w w1) (h' : Kept S w1 w2) : Kept S w w2 := (Kept.of_below h).trans h' fun _ h => Or.inl h
theorem Kept.grown {S : Nat → Prop} {w w' : World} {row : Option Nat} (h : w.grownBy w' row) (hr : ∀ k, row = some k → S k) : Kept S w w' :=
  ⟨h.os, h.tape, h.output, h.size, fun k hk hn => h.block k hk fun e => hn (hr k e.symm)⟩
theorem Kept.weaken {S S' : Nat → Prop} {w w' : World} (h : Kept S w w') (hs : ∀ k, S k → S' k) : Kept S' w w' := ⟨h.os, h.tape, h.output, h.size, fun k hk hn => h.block k hk fun h' => hn (hs k h')⟩
theorem Kept.drewN {S : Nat → Prop} {w w' : World} (h : Kept S w w') (n : Nat) : Kept S w (w'.drewN n) := h.then (below_drewN' (Below.refl _ _) n)
theorem cells4 {w : World} {b : Nat} {a0 a1 a2 a3 : Value} {t : TypeId} (h : w.heap[b]? = some (.cells #[a0, a1, a2, a3] t (0, 0))) :
    w.cell? ⟨b, 0, none⟩ = some a0 ∧ w.cell? ⟨b, 1, none⟩ = some a1 ∧ w.cell? ⟨b, 2, none⟩ = some a2 ∧ w.cell? ⟨b, 3, none⟩ = some a3 ∧ (∀ o, w.frozen? ⟨b, o, none⟩ = false) := by
  refine ⟨?_, ?_, ?_, ?_, fun o => ?_⟩
  · simp [World.cell?, h]
  · simp [World.cell?, h]
  · simp [World.cell?, h]
  · simp [World.cell?, h]
  · simp [World.frozen?, h]
theorem cells3 {w : World} {b : Nat} {a0 a1 a2 : Value} {t : TypeId} (h : w.heap[b]? = some (.cells #[a0, a1, a2] t (0, 0))) :
    w.cell? ⟨b, 0, none⟩ = some a0 ∧ w.cell? ⟨b, 1, none⟩ = some a1 ∧ w.cell? ⟨b, 2, none⟩ = some a2 ∧ (∀ o, w.frozen? ⟨b, o, none⟩ = false) := by
  refine ⟨?_, ?_, ?_, fun o => ?_⟩
  · simp [World.cell?, h]
  · simp [World.cell?, h]
  · simp [World.cell?, h]
  · simp [World.frozen?, h]
theorem set_heap {w : World} {b : Nat} {cs : Array Value} {t : TypeId} (h : w.heap[b]? = some (.cells cs t (0, 0))) (o : Nat) (v : Value) : (w.setCell ⟨b, o, none⟩ v).heap[b]? = some (.cells (cs.setIfInBounds o v) t (0, 0)) := by
  unfold World.setCell
  simp only [Array.getElem?_modify, if_true]
  rw [h]; rfl
theorem set_grown (w : World) (b o : Nat) (v : Value) : w.grownBy (w.setCell ⟨b, o, none⟩ v) (some b) :=
  ⟨rfl, rfl, rfl, by simp, fun k _ hk => Below.heap_setCell _ _ _ _ (fun e => hk (by simp [e]))⟩
theorem mk_empty : mk [] = ⟨#[]⟩ := rfl
theorem mk_isEmpty {q : Bs} (h : q ≠ []) : (mk q).toList.isEmpty = false := by rw [Go.Lib.toList_data, mk_list]; cases q <;> simp_all
def ucells (l : Bs) : List Value := l.map fun b => .int .u8 b.toNat
theorem ucells_len (l : Bs) : (ucells l).length = l.length := by simp [ucells]
theorem ucells_append (a b : Bs) : ucells (a ++ b) = ucells a ++ ucells b := by simp [ucells]
theorem ucells_get {l : Bs} {k : Nat} {x : UInt8} (h : l[k]? = some x) : (ucells l)[k]? = some (.int .u8 x.toNat) := by simp [ucells, h]
theorem infoByte : (Tryz.prog.info? 5).map (fun i => (i.zero, i.size, i.bytes)) = some (some (.int .u8 0), 1, 1) := by kernel_rfl
theorem addr_lit (g o j : Nat) : (⟨g, o, none⟩ : Addr).add j = ⟨g, o + j, none⟩ := by unfold Addr.add; split <;> simp_all
/-- A row that the call owns reads as bytes. -/
theorem bytes_own {w : World} {B : Nat} {v : Value} {l : Bs} (h : w.ownsRow B 5 1 v l.length (ucells l)) : BytesAt w v l (fun k => B ≤ k ∧ k < w.heap.size) := by
  have hc := fun g hg => h.cells (g := g) hg
  obtain ⟨hl, h⟩ := h
  rcases h with ⟨rfl, hn⟩ | ⟨g, cap, cur, rfl, hb, hg, hn, hm, hs, ht⟩
  · obtain rfl := List.length_eq_zero_iff.1 hn
    exact BytesAt.nil _ _
  · refine ⟨_, _, rfl, hn, hm, (fun e => by cases e), fun _ => ⟨g, 0, rfl, ⟨hb, heap_lt hg⟩, heap_lt hg, fun k x hk => ?_⟩⟩
    have := hc g rfl k _ (ucells_get hk)
    rw [addr_lit] at this
    exact this
theorem BytesAt.mono {w : World} {v : Value} {d : Bs} {S S' : Nat → Prop} (h : BytesAt w v d S) (hS : ∀ k, S k → S' k) : BytesAt w v d S' := h.of_heap (fun _ _ => rfl) hS
set_option maxRecDepth 100000 in
theorem run_append_bytes (w : World) (B : Nat) (v : Value) (xs : Bs) (hown : w.ownsRow B 5 1 v xs.length (ucells xs)) (s : Value) (ys : Bs) (S : Nat → Prop) (hs : BytesAt w s ys S) (ty : TypeId) (hlen : xs.length + ys.length ≤ 70368744177664) (hB : B ≤ w.heap.size) :
    ∃ a c w', (Builtin.append_ #[26, 26] ty #[v, s]).run Tryz.prog w = .ok (.slice a (xs ++ ys).length c) w' ∧ w'.ownsRow B 5 1 (.slice a (xs ++ ys).length c) (xs ++ ys).length (ucells (xs ++ ys)) ∧ w.grownBy w' v.ownBlock ∧ (∀ g, (Value.slice a (xs ++ ys).length c).ownBlock = some g → v.ownBlock = some g ∨ g = w.heap.size) := by
  obtain ⟨i0, hi, hz0, hz1, hz2⟩ := info_parts infoByte
  obtain ⟨a0, c0, rfl, h1, h2, h3, h4⟩ := hs
  have form : ∀ {w' : World} {v' : Value}, w'.ownsRow B 5 1 v' (xs ++ ys).length (ucells (xs ++ ys)) → ∃ a c, v' = .slice a (xs ++ ys).length c := by
    intro w' v' h
    rcases h.2 with ⟨rfl, hn⟩ | ⟨g, cap, cur, rfl, _⟩
    · exact ⟨none, 0, by rw [hn]⟩
    · exact ⟨_, _, rfl⟩
  cases a0 with
  | none =>
    obtain rfl : c0 = 0 := h3 rfl
    obtain rfl : ys = [] := List.length_eq_zero_iff.1 (by omega)
    have hv : ∃ b n c, v = .slice b n c ∧ n ≤ c := by
      rcases hown.2 with ⟨rfl, hn⟩ | ⟨g, cap, cur, rfl, hb, hg, hn, _⟩
      · exact ⟨_, _, _, rfl, Nat.le_refl _⟩
      · exact ⟨_, _, _, rfl, hn⟩
    obtain ⟨b, n, c, rfl, hnc⟩ := hv
    have hn : n = xs.length := by
      rcases hown.2 with ⟨e, hn⟩ | ⟨g, cap, cur, e, _⟩
      · injection e with e1 e2 e3; rw [e2, hn]
      · injection e
    subst hn
    have hsrc : Src Tryz.prog i0.size 26 (.slice none 0 0) 0 [] w := ⟨.inl ⟨_, Tryz.underlying26⟩, fun _ => rfl, run_firstCells_none _ _ _ _ _, run_firstCells_none _ _ _ _ _, by simp, by simp⟩
    have hrun := run_append_nothing (P := Tryz.prog) w 26 26 ty 5 i0 Tryz.underlying26 hi b xs.length c hnc (.slice none 0 0) hsrc
    have e0 : xs ++ [] = xs := List.append_nil xs
    rw [e0]
    exact ⟨b, c, w, hrun, hown, ⟨rfl, rfl, rfl, Nat.le_refl _, fun _ _ _ => rfl⟩, fun g hg => Or.inl hg⟩
  | some ad =>
    have hnews : ∀ (j : Nat) (u : Value), (ucells ys)[j]? = some u → w.cell? (ad.add j) = some u := by
      intro j u hu
      have hj : j < ys.length := by have := (List.getElem?_eq_some_iff.1 hu).1; rwa [ucells_len] at this
      obtain ⟨b, off, e, _, _, hcell⟩ := h4 (by omega)
      injection e with e; subst e
      rw [addr_lit, hcell j _ (List.getElem?_eq_getElem hj), ← hu, ucells_get (List.getElem?_eq_getElem hj)]
    obtain ⟨v', w', hrun, ho, hg, _, hat⟩ := run_append_own_at (P := Tryz.prog) w B 26 ty 5 i0 _ 1 1 Tryz.underlying26 hi hz0 hz1 hz2 rfl (by decide) v xs.length (ucells xs) hown ad ys.length c0 (ucells ys) (by rw [ucells_len, Nat.mul_one]) hnews (by intro u hu; obtain ⟨b, _, rfl⟩ := List.mem_map.1 hu; rfl) (by unfold maxLen; omega) (by omega) hB
    rw [← ucells_append, ← List.length_append] at ho
    obtain ⟨a, c, rfl⟩ := form ho
    refine ⟨a, c, w', hrun, ho, hg, fun g hgg => ?_⟩
    rcases hat with h | h
    · exact Or.inl (by rw [← h]; exact hgg)
    · right; rw [h] at hgg; injection hgg with hgg; exact hgg.symm
theorem wp_append_bytes {o : Oper} {a : Act} {w : World} {K : Act → World → Prop} {Q : Exit → Act → World → Prop} (s x : Operand) (ho : o.op = .call { callee := .builtin .append, args := #[s, x], argTypes := #[26, 26] })
    (B : Nat) (v : Value) (xs : Bs) (hs : a.eval s = v) (hown : w.ownsRow B 5 1 v xs.length (ucells xs)) (sv : Value) (ys : Bs) (S : Nat → Prop) (hx : a.eval x = sv) (hb : BytesAt w sv ys S) (hlen : xs.length + ys.length ≤ 70368744177664) (hB : B ≤ w.heap.size)
    (h : ∀ a' m' c' w', Hid (m' = (xs ++ ys).length) → w'.ownsRow B 5 1 (.slice a' m' c') (xs ++ ys).length (ucells (xs ++ ys)) → w.grownBy w' v.ownBlock → K (a.put o.dst (.slice a' m' c')) w') : o.wp Tryz.prog a w K Q := by
  obtain ⟨a', c', w', hr, h2, h3, h4⟩ := run_append_bytes w B v xs hown sv ys S hb o.type hlen hB
  unfold Oper.wp execOp
  simp only [ho, resolve, invoke, builtin, Sem.run_bind, Sem.run_pure, Result.andThen_ok, List.map_toArray, List.map_cons, List.map_nil, hs, hx, hr]
  exact h a' _ c' w' (Lib.hid rfl) h2 h3
theorem step_append_bytes {ops : Array Oper} {o : Oper} {a : Act} {w : World} {K : Act → World → Prop} {Q : Exit → Act → World → Prop} {E : Prop} (hgd : o.guard = none) (s x : Operand) (ho : o.op = .call { callee := .builtin .append, args := #[s, x], argTypes := #[26, 26] })
    (B : Nat) (v : Value) (xs : Bs) (hs : a.eval s = v) (hown : w.ownsRow B 5 1 v xs.length (ucells xs)) (sv : Value) (ys : Bs) (S : Nat → Prop) (hx : a.eval x = sv) (hb : BytesAt w sv ys S) (hlen : xs.length + ys.length ≤ 70368744177664) (hB : B ≤ w.heap.size)
    (h : ∀ a' m' c' w', Hid (m' = (xs ++ ys).length) → w'.ownsRow B 5 1 (.slice a' m' c') (xs ++ ys).length (ucells (xs ++ ys)) → w.grownBy w' v.ownBlock → K (a.put o.dst (.slice a' m' c')) w') :
    if Region.wanted o (yielded ops a.tmps) = true then Oper.wp Tryz.prog o a w K Q else E := by
  have hw : Region.wanted o (yielded ops a.tmps) = true := by simp [Region.wanted, hgd]
  rw [if_pos hw]
  exact wp_append_bytes s x ho B v xs hs hown sv ys S hx hb hlen hB h
theorem wpList_append_bytes {ops : Array Oper} {rest : List Oper} {o : Oper} {a : Act} {Q : Exit → Act → World → Prop} (w : World) (hgd : o.guard = none) (s x : Operand)
    (hop : o.op = Op.call { callee := Callee.builtin Builtin.append, args := #[s, x], argTypes := #[26, 26] }) (B : Nat) (v : Value) (xs : Bs) (hs : a.eval s = v) (h : w.ownsRow B 5 1 v xs.length (ucells xs)) (sv : Value) (ys : Bs) (S : Nat → Prop) (hx : a.eval x = sv) (hb : BytesAt w sv ys S) (hl : xs.length + ys.length ≤ 70368744177664) (hB : B ≤ w.heap.size)
    (hK : ∀ a' c' w', w'.ownsRow B 5 1 (.slice a' (xs ++ ys).length c') (xs ++ ys).length (ucells (xs ++ ys)) → w.grownBy w' v.ownBlock → wpList Tryz.prog ops Q rest (a.put o.dst (.slice a' (xs ++ ys).length c')) w') :
    wpList Tryz.prog ops Q (o :: rest) a w := by
  refine wpList_plain hgd fun K hK' => ?_
  obtain ⟨a', c', w', hrun, r1, r2, -⟩ := run_append_bytes w B v xs h sv ys S hb o.type hl hB
  unfold Oper.wp
  simp only [execOp, hop, resolve, invoke, builtin, hs, hx, hrun, Result.andThen, Sem.run_bind, Sem.run_pure, List.map_toArray, List.map_cons, List.map_nil]
  exact hK' _ _ (hK a' c' w' r1 r2)
set_option maxRecDepth 100000 in
theorem bytes_str {w : World} {v : Value} {d : Bs} {S : Nat → Prop} (h : BytesAt w v d S) : (convert 26 9 v).run Tryz.prog w = .ok (.string (mk d)) w := by
  obtain ⟨a, c, rfl, h1, h2, h3, h4⟩ := h
  cases a with
  | none =>
    obtain rfl : c = 0 := h3 rfl
    obtain rfl : d = [] := List.length_eq_zero_iff.1 (by omega)
    exact run_convert_bytes_nil w 26 5 Tryz.underlying26 Tryz.underlying5 0 0 9 Tryz.underlying9
  | some ad =>
    cases d with
    | nil =>
      have hl : (loadCells ad 0).run Tryz.prog w = .ok (([] : List Int).map (Value.int .u8)).toArray w := by simp [loadCells, loadCellsFrom]
      rw [run_convert_bytes_string w 26 9 5 _ _ c Tryz.underlying26 Tryz.underlying5 Tryz.underlying9]
      have := run_bytesToString (P := Tryz.prog) w ad 0 c [] hl
      rw [show (([] : Bs).length) = 0 from rfl, this]; rfl
    | cons y r =>
      obtain ⟨b, off, e, hs, hb, hc⟩ := h4 (by simp)
      injection e with e; subst e
      have := run_convert_bytes_arg (P := Tryz.prog) w 26 5 Tryz.underlying26 Tryz.underlying5 b off (y :: r).length c ((y :: r).map fun x => (x.toNat : Int)) (by simp) (fun i hi => by
        rw [hc i _ (List.getElem?_eq_getElem hi)]
        congr 2
        rw [List.getD, List.getElem?_map, List.getElem?_eq_getElem hi]; rfl) 9 Tryz.underlying9
      rw [this]
      congr 2
      apply ba_ext
      rw [strOfNums_data, mk_list, List.map_map]
      exact (List.map_congr_left (fun x _ => by simp)).trans (List.map_id _)
/-- Bytes in a row that may be written. -/
def UBytes (w : World) (v : Value) (d : Bs) (S : Nat → Prop) : Prop := BytesAt w v d S ∧ ∀ b off n c, v = .slice (some ⟨b, off, none⟩) n c → 0 < n → ∃ cur, w.heap[b]? = some (.cells cur 5 (0, 0))
theorem UBytes.of_heap {w w' : World} {v : Value} {d : Bs} {S S' : Nat → Prop} (h : UBytes w v d S) (he : ∀ k, S k → w'.heap[k]? = w.heap[k]?) (hS : ∀ k, S k → S' k) : UBytes w' v d S' := by
  refine ⟨h.1.of_heap he hS, fun b off n c e hn => ?_⟩
  obtain ⟨a, c', e1, _, _, _, h0⟩ := h.1
  rw [e1] at e
  injection e with e2 e3 e4
  obtain ⟨b', off', e5, hs, _⟩ := h0 (by omega)
  rw [e2] at e5
  injection e5 with e5; injection e5 with e5
  obtain ⟨cur, hc⟩ := h.2 b off n c (by rw [e1, e2, e3, e4]) hn
  exact ⟨cur, (he b (e5 ▸ hs)).trans hc⟩
theorem UBytes.mono {w : World} {v : Value} {d : Bs} {S S' : Nat → Prop} (h : UBytes w v d S) (hS : ∀ k, S k → S' k) : UBytes w v d S' := h.of_heap (fun _ _ => rfl) hS
theorem ubytes_own {w : World} {B : Nat} {v : Value} {l : Bs} (h : w.ownsRow B 5 1 v l.length (ucells l)) : UBytes w v l (fun k => B ≤ k ∧ k < w.heap.size) := by
  refine ⟨bytes_own h, fun b off n c e hn => ?_⟩
  rcases h.2 with ⟨e1, h0⟩ | ⟨g, cap, cur, e1, hb, hg, _⟩
  · rw [e] at e1; injection e1 with e2 e3; cases e2
  · rw [e] at e1; injection e1 with e2; injection e2 with e2; injection e2 with e2
    subst e2
    exact ⟨cur, hg⟩
theorem UBytes.trim {w : World} {a : Option Addr} {n c : Nat} {d : Bs} {S : Nat → Prop} (h : UBytes w (.slice a n c) d S) : UBytes w (.slice a n n) d S := by
  obtain ⟨⟨a', c', e, h1, h2, h3, h4⟩, h5⟩ := h
  injection e with e1 e2 e3
  subst e1 e2 e3
  refine ⟨⟨a, d.length, rfl, Nat.le_refl _, by omega, fun ha => by have := h3 ha; omega, h4⟩, fun b off n c e hn => ?_⟩
  injection e with e1 e2 e3
  subst e2 e3
  exact h5 b off _ _ (by rw [e1]) hn
theorem slice_caps {w : World} {a : Option Addr} {n c : Nat} {d : Bs} {S : Nat → Prop} (h : UBytes w (.slice a n c) d S) : (n : Int) ≤ (c : Int) ∧ (0 : Int) ≤ (n : Int) ∧ (c : Int) ≤ 9223372036854775807 := by
  obtain ⟨⟨a', c', e, h1, h2, h3, h4⟩, h5⟩ := h
  injection e with e1 e2 e3
  unfold maxLen at h2
  omega
/-- Bytes that may be written over. -/
def ULoose (w : World) (B hi g : Nat) (v : Value) : Prop :=
  ∃ a n c, v = .slice a n c ∧ n ≤ 1099511627776 ∧ (0 < n → ∃ b off cur, a = some ⟨b, off, none⟩ ∧ B ≤ b ∧ b < hi ∧ b ≠ g ∧ w.heap[b]? = some (.cells cur 5 (0, 0)) ∧ ∀ k, k < n → ∃ u : UInt8, cur[off + k]? = some (.int .u8 u.toNat))
theorem ULoose.of_heap {w w' : World} {B hi g : Nat} {v : Value} (h : ULoose w B hi g v) (he : ∀ j, B ≤ j → j < hi → j ≠ g → w'.heap[j]? = w.heap[j]?) : ULoose w' B hi g v := by
  obtain ⟨a, n, c, h1, h2, h3⟩ := h
  refine ⟨a, n, c, h1, h2, fun hn => ?_⟩
  obtain ⟨b, off, cur, g1, g2, g3, g4, g5, g6⟩ := h3 hn
  exact ⟨b, off, cur, g1, g2, g3, g4, (he b g2 g3 g4).trans g5, g6⟩
/-- A byte is written over. -/
theorem ULoose.put {w : World} {B hi g : Nat} {v : Value} (h : ULoose w B hi g v) (b o : Nat) (u : UInt8) : ULoose (w.setCell ⟨b, o, none⟩ (.int .u8 u.toNat)) B hi g v := by
  obtain ⟨a, n, c, h1, h2, h3⟩ := h
  refine ⟨a, n, c, h1, h2, fun hn => ?_⟩
  obtain ⟨b', off, cur, g1, g2, g3, g4, g5, g6⟩ := h3 hn
  by_cases e : b' = b
  · subst e
    refine ⟨b', off, _, g1, g2, g3, g4, set_heap g5 o _, fun k hk => ?_⟩
    obtain ⟨u', hu⟩ := g6 k hk
    rw [Array.getElem?_setIfInBounds]
    by_cases e2 : o = off + k
    · rw [if_pos e2]
      have : o < cur.size := by rw [e2]; exact (Array.getElem?_eq_some_iff.1 hu).1
      rw [if_pos this]; exact ⟨u, rfl⟩
    · rw [if_neg e2]; exact ⟨u', hu⟩
  · exact ⟨b', off, cur, g1, g2, g3, g4, ((set_grown w b o _).block b' (heap_lt g5) (fun e' => e (by injection e'))).trans g5, g6⟩
theorem xor_all : ∀ n : Fin 256, bits BinOp.xor IntKind.u8 ((n.val : Nat) : Int) 255 = ((n.val ^^^ 255 : Nat) : Int) ∧ n.val ^^^ 255 < 256 := by decide +kernel
theorem xor_byte (u : UInt8) : ∃ u' : UInt8, bits BinOp.xor IntKind.u8 (u.toNat : Int) 255 = (u'.toNat : Int) := by
  obtain ⟨h1, h2⟩ := xor_all ⟨u.toNat, u.toNat_lt⟩
  refine ⟨(u.toNat ^^^ 255).toUInt8, h1.trans ?_⟩
  have : ((u.toNat ^^^ 255).toUInt8).toNat = u.toNat ^^^ 255 := by simp
  rw [this]
theorem UBytes.loose {w : World} {B hi : Nat} {v : Value} {d : Bs} (h : UBytes w v d (fun k => B ≤ k ∧ k < hi)) (hd : d.length ≤ 1099511627776) : ULoose w B hi hi v := by
  obtain ⟨⟨a, c, e, h1, h2, h3, h4⟩, h5⟩ := h
  refine ⟨a, _, c, e, hd, fun hl => ?_⟩
  obtain ⟨b, off, e1, hs, hb, hc⟩ := h4 hl
  subst e1
  obtain ⟨cur, hcur⟩ := h5 b off _ c e hl
  refine ⟨b, off, cur, rfl, hs.1, hs.2, by omega, hcur, fun k hk => ?_⟩
  obtain ⟨y, hy⟩ : ∃ y, d[k]? = some y := ⟨_, List.getElem?_eq_getElem hk⟩
  have := hc k y hy
  rw [cell_of_row w b (off + k) cur 5 (0, 0) hcur] at this
  exact ⟨y, this⟩
theorem one_byte (w : World) : BytesAt (w.alloc (.cells #[.int .u8 167] 5)) (.slice (some ⟨w.heap.size, 0, none⟩) 1 1) [167] (fun j => j = w.heap.size) := by
  refine ⟨_, 1, rfl, Nat.le_refl _, by decide, (fun e => by cases e), fun _ => ⟨w.heap.size, 0, rfl, rfl, by simp, fun k y hk => ?_⟩⟩
  match k, hk with
  | 0, hk =>
    simp at hk; subst hk
    exact one_new w _ _
/-- The buffer that is handed to Write. -/
theorem buffer_of {w : World} {B n c : Nat} {a : Option Addr} {d : Bs} (hn : n = (d ++ [167]).length) (h : w.ownsRow B 5 1 (.slice a n c) n (ucells (d ++ [167]))) : ∃ g, a = some ⟨g, 0, none⟩ := by
  subst hn
  rcases h.2 with ⟨e, _⟩ | ⟨g', cap, cur, e, hb, hg, hn, hm, hs, ht⟩
  · injection e with e1 e2; simp at e2
  · injection e with e1 e2 e3
    exact ⟨g', e1⟩
/-- The bytes without the one behind. -/
theorem ubytes_less {w : World} {B g c : Nat} {d : Bs} (h : w.ownsRow B 5 1 (.slice (some ⟨g, 0, none⟩) (d ++ [167]).length c) (d ++ [167]).length (ucells (d ++ [167]))) :
    UBytes w (.slice (some ⟨g, 0, none⟩) d.length c) d (fun j => j = g) ∧ d.length < c ∧ B ≤ g ∧ g < w.heap.size ∧ w.cell? ⟨g, d.length, none⟩ = some (.int .u8 167) := by
  have hc := fun j u hu => h.cells (g := g) rfl j u hu
  rcases h.2 with ⟨e, _⟩ | ⟨g', cap, cur, e, hb, hg, hn, hm, hs, ht⟩
  · cases e
  · injection e with e1 e2 e3
    injection e1 with e1; injection e1 with e1
    subst e1 e3
    have cell : ∀ (j : Nat) (y : UInt8), (d ++ [167])[j]? = some y → w.cell? ⟨g, j, none⟩ = some (.int .u8 y.toNat) := fun j y hy => by
      have := hc j _ (ucells_get hy)
      rwa [addr_lit, Nat.zero_add] at this
    have hl : (d ++ [167]).length = d.length + 1 := by simp
    refine ⟨⟨⟨_, c, rfl, by omega, hm, (fun e => by cases e), fun _ => ⟨g, 0, rfl, rfl, heap_lt hg, fun k y hk => ?_⟩⟩, fun b off n c' e hn' => ?_⟩, by omega, hb, heap_lt hg, cell d.length 167 (by rw [List.getElem?_append_right (Nat.le_refl _), Nat.sub_self]; rfl)⟩
    · rw [Nat.zero_add]
      exact cell k y (by rw [List.getElem?_append_left (List.getElem?_eq_some_iff.1 hk).1]; exact hk)
    · injection e with e1 e2 e3
      injection e1 with e1; injection e1 with e1
      subst e1
      exact ⟨cur, hg⟩
theorem lent_row {B : Nat} {w wr w1 : World} {o : Obj} {row : Option Nat} (h : Below B w wr) (hB : B ≤ wr.heap.size) (hg : (wr.alloc o).grownBy w1 row) (hr : ∀ g, row = some g → B ≤ g) : Below B w w1 := by
  have hz := hg.size
  refine h.trans ⟨hg.os, hg.tape, hg.output, ?_, fun j hj => ?_⟩
  · simp at hz; omega
  · exact (hg.block j (by simp; omega) (fun e => by have := hr j e.symm; omega)).trans (heap_alloc_old _ _ (by omega))
theorem below_none {w w1 w6 : World} {v : Value} (h : Below w.heap.size w w1) (hg : w1.grownBy w6 v.ownBlock) (hv : ∀ k, v.ownBlock = some k → w.heap.size ≤ k) : Below w.heap.size w w6 :=
  h.trans ⟨hg.os, hg.tape, hg.output, hg.size, fun j hj => hg.block j (by have := h.size; omega) (fun e => by have := hv j e.symm; omega)⟩
theorem mk_ne {a b : Bs} (h : a ≠ b) : ((mk a).toList == (mk b).toList) = false := ba_ne (fun e => h (mk_inj e))
theorem below_grown {w w' : World} (h : Below w.heap.size w w') : w.grownBy w' none := ⟨h.os, h.tape, h.output, h.size, fun k hk _ => h.block k hk⟩
theorem grown_app {w w1 w2 : World} {o : Obj} {row : Option Nat} (h : Below w.heap.size w w1) (hg : (w1.alloc o).grownBy w2 row) : w.grownBy w2 row := by
  have h1 := h.size
  have h2 := hg.size
  refine ⟨hg.os.trans h.os, hg.tape.trans h.tape, hg.output.trans h.output, by simp at h2; omega, fun k hk hne => (hg.block k (by simp; omega) hne).trans ((heap_alloc_old _ _ (by omega)).trans (h.block k hk))⟩
theorem below_drew (w : World) : Below w.heap.size w w.drew := ⟨rfl, rfl, rfl, Nat.le_refl _, fun _ _ => rfl⟩
theorem below_kept {w w1 w2 : World} {n : Nat} (h : Below n w w1) (hk : Kept (fun j => n ≤ j) w1 w2) (hn : n ≤ w1.heap.size) : Below n w w2 :=
  ⟨hk.os.trans h.os, hk.tape.trans h.tape, hk.output.trans h.output, Nat.le_trans h.size hk.size, fun k hk' => (hk.block k (by omega) (by omega)).trans (h.block k hk')⟩
end Go.Proofs.YtnjagoglabllaaaGreatDoor
