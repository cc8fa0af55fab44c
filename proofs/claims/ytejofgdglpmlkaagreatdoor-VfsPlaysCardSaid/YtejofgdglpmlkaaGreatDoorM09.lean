/-
  What a tree with a bad node wants: of which kind its first bad node is; steps through a region that draws its order, several skipped ones at once. Conditions: none.
  A tree's nodes, well one after the other. Plain Lean. Conditions: none.
  Bytes appended to a row of the call's own. Conditions: at most 2^46 bytes.
-/
import Derived.Test.YtejofgdglpmlkaaGreatDoorM08
import Derived.Test.YtejofgdglpmlkaaGreatDoorM07
import Derived.Maps.AppendAt
import Derived.Deep.Upon
namespace Go.Proofs.YtejofgdglpmlkaaGreatDoor
open Go.RowKit

theorem valid_no (p : ByteArray) (w : World) (hp : p.size ≤ 2147483647) (h : validB p.data.toList = false) : Calls Tryz.prog 52 #[.string p] w fun e w' => e = .returned (.bool false) ∧ Below w.heap.size w w' := by
  have := valid_calls p w hp
  rwa [h] at this
theorem dirs_no {w : World} {db : Nat} {pre : St} {q : Bs} (h : DirsAt w db pre) (hv : validB q = true) (hd : isDirB pre (parentP q) = false) : (Instr.lookup 88 (.map (some db)) (.string (mk (parentP q))) false).run Tryz.prog w = .ok (.int .i64 0) w := by
  have hl : (parentP q).length ≤ maxLen := by
    have h1 := joinS_len (cnames q).dropLast
    have h2 := tot_drop (cnames q)
    have h3 := cnames_tot q
    have h4 := (validB_iff.1 hv).1
    unfold parentP maxLen; omega
  have := h.look (mk (parentP q)) (by rw [mk_size]; exact hl)
  rw [mk_list, hd] at this
  exact this
theorem more_mk {p y : Bs} (h : ¬ y < p) : Op.bytesLess (mk y).toList (mk p).toList = false := by
  rw [Go.Lib.toList_data, Go.Lib.toList_data, mk_list, mk_list, bytesLess_eq]
  simpa using h
theorem okNode_of {clock : Int} {pre : St} {x : Bs × PN} (h1 : validB x.1 = true) (h2 : x.1 ≠ []) (h3 : ∀ y, pre.getLast? = some y → y.1 < x.1) (h4 : isDirB pre (parentP x.1) = true) (h5 : x.2.dir = true → x.2.data.length = 0) (h6 : 0 ≤ x.2.time) (h7 : x.2.time ≤ clock) : okNode clock pre x = true := by
  unfold okNode
  have e5 : (!(x.2.dir && decide (0 < x.2.data.length))) = true := by
    cases hd : x.2.dir with
    | false => rfl
    | true => rw [h5 hd]; rfl
  cases hg : pre.getLast? with
  | none => simp only [h1, h4, e5, decide_eq_true h2, decide_eq_true h6, decide_eq_true h7]; rfl
  | some y => simp only [h1, h4, e5, decide_eq_true h2, decide_eq_true h6, decide_eq_true h7, decide_eq_true (h3 y hg)]; rfl
/-- What is asked of a node's path alone. -/
def pathOk (pre : St) (x : Bs × PN) : Bool := validB x.1 && decide (x.1 ≠ []) && (match pre.getLast? with | none => true | some y => decide (y.1 < x.1))
/-- 0: a node is well; 1: its path is not; 2: something else of the first node is not; 3: of a later one. -/
def kindN (clock : Int) (pre : St) (x : Bs × PN) : Nat := if okNode clock pre x = true then 0 else if pathOk pre x = false then 1 else if pre.length = 0 then 2 else 3
def kindF (clock : Int) : St → St → Nat
  | _, [] => 0
  | pre, x :: r => if okNode clock pre x = true then kindF clock (pre ++ [x]) r else kindN clock pre x
theorem kind_range {clock : Int} : ∀ (l pre : St), okFrom clock pre l = false → kindF clock pre l = 1 ∨ kindF clock pre l = 2 ∨ kindF clock pre l = 3
  | [], _, h => by simp [okFrom] at h
  | x :: r, pre, h => by
    unfold kindF
    by_cases hx : okNode clock pre x = true
    · rw [if_pos hx]
      rw [okFrom, hx, Bool.true_and] at h
      exact kind_range r _ h
    · rw [if_neg hx]
      unfold kindN
      rw [if_neg hx]
      split
      · exact Or.inl rfl
      · split
        · exact Or.inr (Or.inl rfl)
        · exact Or.inr (Or.inr rfl)
theorem kind_bad {clock : Int} : ∀ (l pre : St), kindF clock pre l ≠ 0 → okFrom clock pre l = false
  | [], _, h => absurd rfl h
  | x :: r, pre, h => by
    unfold kindF at h
    by_cases hx : okNode clock pre x = true
    · rw [if_pos hx] at h
      rw [okFrom, hx, Bool.true_and]
      exact kind_bad r _ h
    · rw [okFrom]
      simp [hx]
theorem kindF_drop {clock : Int} {l : St} {k : Nat} {x : Bs × PN} (h : l[k]? = some x) : kindF clock (l.take k) (l.drop k) = if okNode clock (l.take k) x = true then kindF clock (l.take (k + 1)) (l.drop (k + 1)) else kindN clock (l.take k) x := by
  rw [getElem_split h, kindF, take_more h]
theorem kindN_1 {clock : Int} {pre : St} {x : Bs × PN} (h : kindN clock pre x = 1) : pathOk pre x = false := by
  unfold kindN at h
  split at h
  · cases h
  · split at h
    · assumption
    · split at h <;> cases h
theorem kindN_2 {clock : Int} {pre : St} {x : Bs × PN} (h : kindN clock pre x = 2) : pathOk pre x = true ∧ pre.length = 0 := by
  unfold kindN at h
  split at h
  · cases h
  · split at h
    · cases h
    · rename_i hp
      split at h
      · exact ⟨by simpa using hp, by assumption⟩
      · cases h
theorem kindN_3 {clock : Int} {pre : St} {x : Bs × PN} (h : kindN clock pre x = 3) : pathOk pre x = true ∧ pre.length ≠ 0 := by
  unfold kindN at h
  split at h
  · cases h
  · split at h
    · cases h
    · rename_i hp
      split at h
      · cases h
      · exact ⟨by simpa using hp, by assumption⟩
theorem kind_two {clock : Int} : ∀ (l pre : St), pre.length ≠ 0 → kindF clock pre l ≠ 2
  | [], _, _ => by simp [kindF]
  | x :: r, pre, h => by
    unfold kindF
    split
    · exact kind_two r _ (by simp)
    · unfold kindN
      rw [if_neg (by assumption), if_neg h]
      split <;> decide
theorem pathOk_parts {pre : St} {x : Bs × PN} (h : pathOk pre x = true) : validB x.1 = true ∧ x.1 ≠ [] ∧ (∀ y, pre.getLast? = some y → y.1 < x.1) := by
  unfold pathOk at h
  simp only [Bool.and_eq_true, decide_eq_true_eq] at h
  obtain ⟨⟨h1, h2⟩, h3⟩ := h
  refine ⟨h1, h2, fun y hy => ?_⟩
  rw [hy] at h3; simpa using h3
theorem pathOk_of {pre : St} {x : Bs × PN} (h1 : validB x.1 = true) (h2 : x.1 ≠ []) (h3 : ∀ y, pre.getLast? = some y → y.1 < x.1) : pathOk pre x = true := by
  unfold pathOk
  cases hg : pre.getLast? with
  | none => simp only [h1, decide_eq_true h2]; rfl
  | some y => simp only [h1, decide_eq_true h2, decide_eq_true (h3 y hg)]; rfl

section
variable {P : Program} {ops : Array Oper} {Q : Exit → Act → World → Prop} {md : Region.Mode} {S : World → Prop}
theorem btake (i : Nat) (d : Option Tmp) (v : Value) {oi : Oper} {rest : List Oper} {fuel : Nat} {listed : Array Bool} {a : Act} {w : World} (hi : ops.toList.drop i = oi :: rest) (hS : S w) (hy : ∀ w, S w → (execOp a.eval oi).run P w = .ok (.value v) w)
    (h : wpAnyH P md ops Q S fuel (listed.setIfInBounds i true) (a.put d v) w) (hw : Region.wanted oi (yielded ops a.tmps) = true := by rfl) (hd : oi.dst = d := by rfl)
    (hs : Region.noSelect ops = true := by as_aux_lemma => kernel_rfl) (hf : Region.free md ops listed i = true := by as_aux_lemma => kernel_rfl) (hr : (Region.ready md ops listed).contains i = true := by as_aux_lemma => kernel_rfl)
    (hQ : ∀ c a w, Q (.panic c) (a.put d v) w → Q (.panic c) a w := by exact fun _ _ _ h => h) : wpAnyH P md ops Q S (fuel + 1) listed a w :=
  rtake i d v hi hd hs hf hr hQ hw hy hS h
def skipPut : Nat → Nat → Act → Act
  | 0, _, a => a
  | n + 1, d, a => skipPut n (d + 1) (a.put (some d) undef)
def skipList : Nat → Nat → Array Bool → Array Bool
  | 0, _, l => l
  | n + 1, i, l => skipList n (i + 1) (l.setIfInBounds i true)
def skipOk (md : Region.Mode) (ops : Array Oper) : Nat → Nat → Nat → Array Bool → Act → Bool
  | 0, _, _, _, _ => true
  | n + 1, i, d, l, a =>
    (match ops[i]? with
      | some o => decide (o.dst = some d) && !Region.wanted o (yielded ops a.tmps)
      | none => false) && Region.free md ops l i && (Region.ready md ops l).contains i && skipOk md ops n (i + 1) (d + 1) (l.setIfInBounds i true) (a.put (some d) undef)
theorem skips {P : Program} {ops : Array Oper} {Q : Exit → Act → World → Prop} {md : Region.Mode} {S : World → Prop} (hs : Region.noSelect ops = true) (hQ : ∀ (d : Tmp) c a w, Q (.panic c) (a.put (some d) undef) w → Q (.panic c) a w) {w : World} (hS : S w) {fuel : Nat} : ∀ (n i d : Nat) (listed : Array Bool) (a : Act),
    skipOk md ops n i d listed a = true → wpAnyH P md ops Q S fuel (skipList n i listed) (skipPut n d a) w → wpAnyH P md ops Q S (fuel + n) listed a w
  | 0, _, _, _, _, _, h => h
  | n + 1, i, d, listed, a, ho, h => by
    rw [skipOk] at ho
    simp only [Bool.and_eq_true] at ho
    obtain ⟨⟨⟨h1, h2⟩, h3⟩, h4⟩ := ho
    cases ho : ops[i]? with
    | none => rw [ho] at h1; cases h1
    | some o =>
      rw [ho] at h1
      simp only [Bool.and_eq_true, decide_eq_true_eq, Bool.not_eq_true'] at h1
      have := skips hs hQ hS n (i + 1) (d + 1) _ _ h4 h
      rw [← h1.1] at this
      exact wpAnyH_take ho hs h2 h3 (by rw [h1.1]; exact hQ d) (Or.inr ⟨h1.2, rfl⟩) hS this
theorem bskip (n i d : Nat) {fuel : Nat} {listed : Array Bool} {a : Act} {w : World} (hS : S w) (h : wpAnyH P md ops Q S fuel (skipList n i listed) (skipPut n d a) w)
    (hs : Region.noSelect ops = true := by as_aux_lemma => kernel_rfl) (ho : skipOk md ops n i d listed a = true := by as_aux_lemma => kernel_rfl)
    (hQ : ∀ (d : Tmp) c a w, Q (.panic c) (a.put (some d) undef) w → Q (.panic c) a w := by exact fun _ _ _ _ h => h) : wpAnyH P md ops Q S (fuel + n) listed a w :=
  skips hs hQ hS n i d listed a ho h
end
end Go.Proofs.YtejofgdglpmlkaaGreatDoor
namespace Go.Proofs.YtejofgdglpmlkaaGreatDoor
open Go.RowKit

/-- All nodes ahead of k are well. -/
def okAll (clock : Int) (l : St) (k : Nat) : Prop := ∀ (j : Nat) (x : Bs × PN), j < k → l[j]? = some x → okNode clock (l.take j) x = true
theorem okAll.next {clock : Int} {l : St} {k : Nat} {x : Bs × PN} (h : okAll clock l k) (hx : l[k]? = some x) (ho : okNode clock (l.take k) x = true) : okAll clock l (k + 1) := by
  intro j y hj hy
  by_cases e : j = k
  · subst e; rw [hx] at hy; injection hy with hy; subst hy; exact ho
  · exact h j y (by omega) hy
theorem okAll.drop {clock : Int} {l : St} : ∀ {k : Nat}, k ≤ l.length → okAll clock l k → okFrom clock [] l = okFrom clock (l.take k) (l.drop k)
  | 0, _, _ => rfl
  | k + 1, hk, h => by
    have hx : l[k]? = some (l[k]'hk) := List.getElem?_eq_getElem hk
    rw [okAll.drop (k := k) (by omega) (fun j x hj hx => h j x (by omega) hx), okFrom_drop hx, h k _ (by omega) hx, Bool.true_and]
theorem okAll.bad {clock : Int} {l : St} {k : Nat} {x : Bs × PN} (h : okAll clock l k) (hx : l[k]? = some x) (hb : okNode clock (l.take k) x = false) : okFrom clock [] l = false := by
  have hk := (List.getElem?_eq_some_iff.1 hx).1
  rw [h.drop (by omega), okFrom_drop hx, hb, Bool.false_and]
theorem okAll.all {clock : Int} {l : St} (h : okAll clock l l.length) : okFrom clock [] l = true := by
  rw [h.drop (Nat.le_refl _), List.take_length, List.drop_length]; rfl
theorem rising_snoc {l : St} {x : Bs × PN} (h : Rising l) (hl : ∀ y, l.getLast? = some y → y.1 < x.1) : Rising (l ++ [x]) := by
  refine List.pairwise_append.2 ⟨h, List.pairwise_singleton _ _, fun y hy z hz => ?_⟩
  rw [List.mem_singleton] at hz
  subst hz
  rcases l.eq_nil_or_concat with e | ⟨a, u, e⟩
  · subst e; cases hy
  · rw [List.concat_eq_append] at e
    subst e
    have hu := hl u (by simp)
    rcases List.mem_append.1 hy with hy | hy
    · have := (List.pairwise_append.1 h).2.2 y hy u (by simp)
      exact List.lt_trans this hu
    · rw [List.mem_singleton] at hy; subst hy; exact hu
theorem okAll.rising {clock : Int} {l : St} : ∀ {k : Nat}, k ≤ l.length → okAll clock l k → Rising (l.take k)
  | 0, _, _ => List.Pairwise.nil
  | k + 1, hk, h => by
    have hx : l[k]? = some (l[k]'hk) := List.getElem?_eq_getElem hk
    rw [take_more hx]
    exact rising_snoc (okAll.rising (k := k) (by omega) (fun j x hj hx => h j x (by omega) hx)) (okNode_parts (h k _ (by omega) hx)).2.2.1

end Go.Proofs.YtejofgdglpmlkaaGreatDoor
namespace Go.Proofs.YtejofgdglpmlkaaGreatDoor
open Go.RowKit

def ucells (l : Bs) : List Value := l.map fun b => .int .u8 b.toNat
theorem ucells_len (l : Bs) : (ucells l).length = l.length := by simp [ucells]
theorem ucells_append (a b : Bs) : ucells (a ++ b) = ucells a ++ ucells b := by simp [ucells]
theorem ucells_get {l : Bs} {k : Nat} {x : UInt8} (h : l[k]? = some x) : (ucells l)[k]? = some (.int .u8 x.toNat) := by simp [ucells, h]
theorem infoByte : (Tryz.prog.info? 5).map (fun i => (i.zero, i.size, i.bytes)) = some (some (.int .u8 0), 1, 1) := by kernel_rfl
theorem addr_lit (g o j : Nat) : (⟨g, o, none⟩ : Addr).add j = ⟨g, o + j, none⟩ := by unfold Addr.add; split <;> simp_all
/-- A row that the call owns reads as bytes. -/
theorem bytes_own {w : World} {B : Nat} {v : Value} {l : Bs} (h : w.ownsRow B 5 1 v l.length (ucells l)) : BytesAt w v l (fun k => B ≤ k ∧ k < w.heap.size) := by
  have hc := fun g hg => h.cells (g := g) hg
  obtain ⟨hl, h⟩ := h
  rcases h with ⟨rfl, hn⟩ | ⟨g, cap, cur, rfl, hb, hg, hn, hm, hs, ht⟩
  · obtain rfl := List.length_eq_zero_iff.1 hn
    exact BytesAt.nil _ _
  · refine ⟨_, _, rfl, hn, hm, (fun e => by cases e), fun _ => ⟨g, 0, rfl, ⟨hb, heap_lt hg⟩, heap_lt hg, fun k x hk => ?_⟩⟩
    have := hc g rfl k _ (ucells_get hk)
    rw [addr_lit] at this
    exact this
theorem BytesAt.mono {w : World} {v : Value} {d : Bs} {S S' : Nat → Prop} (h : BytesAt w v d S) (hS : ∀ k, S k → S' k) : BytesAt w v d S' := h.of_heap (fun _ _ => rfl) hS
set_option maxRecDepth 100000 in
theorem run_append_bytes (w : World) (B : Nat) (v : Value) (xs : Bs) (hown : w.ownsRow B 5 1 v xs.length (ucells xs)) (s : Value) (ys : Bs) (S : Nat → Prop) (hs : BytesAt w s ys S) (ty : TypeId) (hlen : xs.length + ys.length ≤ 70368744177664) (hB : B ≤ w.heap.size) :
    ∃ a c w', (Builtin.append_ #[41, 41] ty #[v, s]).run Tryz.prog w = .ok (.slice a (xs ++ ys).length c) w' ∧ w'.ownsRow B 5 1 (.slice a (xs ++ ys).length c) (xs ++ ys).length (ucells (xs ++ ys)) ∧ w.grownBy w' v.ownBlock ∧ (∀ g, (Value.slice a (xs ++ ys).length c).ownBlock = some g → v.ownBlock = some g ∨ g = w.heap.size) := by
  obtain ⟨i0, hi, hz0, hz1, hz2⟩ := info_parts infoByte
  obtain ⟨a0, c0, rfl, h1, h2, h3, h4⟩ := hs
  have form : ∀ {w' : World} {v' : Value}, w'.ownsRow B 5 1 v' (xs ++ ys).length (ucells (xs ++ ys)) → ∃ a c, v' = .slice a (xs ++ ys).length c := by
    intro w' v' h
    rcases h.2 with ⟨rfl, hn⟩ | ⟨g, cap, cur, rfl, _⟩
    · exact ⟨none, 0, by rw [hn]⟩
    · exact ⟨_, _, rfl⟩
  cases a0 with
  | none =>
    obtain rfl : c0 = 0 := h3 rfl
    obtain rfl : ys = [] := List.length_eq_zero_iff.1 (by omega)
    have hv : ∃ b n c, v = .slice b n c ∧ n ≤ c := by
      rcases hown.2 with ⟨rfl, hn⟩ | ⟨g, cap, cur, rfl, hb, hg, hn, _⟩
      · exact ⟨_, _, _, rfl, Nat.le_refl _⟩
      · exact ⟨_, _, _, rfl, hn⟩
    obtain ⟨b, n, c, rfl, hnc⟩ := hv
    have hn : n = xs.length := by
      rcases hown.2 with ⟨e, hn⟩ | ⟨g, cap, cur, e, _⟩
      · injection e with e1 e2 e3; rw [e2, hn]
      · injection e
    subst hn
    have hsrc : Src Tryz.prog i0.size 41 (.slice none 0 0) 0 [] w := ⟨.inl ⟨_, Tryz.underlying41⟩, fun _ => rfl, run_firstCells_none _ _ _ _ _, run_firstCells_none _ _ _ _ _, by simp, by simp⟩
    have hrun := run_append_nothing (P := Tryz.prog) w 41 41 ty 5 i0 Tryz.underlying41 hi b xs.length c hnc (.slice none 0 0) hsrc
    have e0 : xs ++ [] = xs := List.append_nil xs
    rw [e0]
    exact ⟨b, c, w, hrun, hown, ⟨rfl, rfl, rfl, Nat.le_refl _, fun _ _ _ => rfl⟩, fun g hg => Or.inl hg⟩
  | some ad =>
    have hnews : ∀ (j : Nat) (u : Value), (ucells ys)[j]? = some u → w.cell? (ad.add j) = some u := by
      intro j u hu
      have hj : j < ys.length := by have := (List.getElem?_eq_some_iff.1 hu).1; rwa [ucells_len] at this
      obtain ⟨b, off, e, _, _, hcell⟩ := h4 (by omega)
      injection e with e; subst e
      rw [addr_lit, hcell j _ (List.getElem?_eq_getElem hj), ← hu, ucells_get (List.getElem?_eq_getElem hj)]
    obtain ⟨v', w', hrun, ho, hg, _, hat⟩ := run_append_own_at (P := Tryz.prog) w B 41 ty 5 i0 _ 1 1 Tryz.underlying41 hi hz0 hz1 hz2 rfl (by decide) v xs.length (ucells xs) hown ad ys.length c0 (ucells ys) (by rw [ucells_len, Nat.mul_one]) hnews (by intro u hu; obtain ⟨b, _, rfl⟩ := List.mem_map.1 hu; rfl) (by unfold maxLen; omega) (by omega) hB
    rw [← ucells_append, ← List.length_append] at ho
    obtain ⟨a, c, rfl⟩ := form ho
    refine ⟨a, c, w', hrun, ho, hg, fun g hgg => ?_⟩
    rcases hat with h | h
    · exact Or.inl (by rw [← h]; exact hgg)
    · right; rw [h] at hgg; injection hgg with hgg; exact hgg.symm
theorem wp_append_bytes {o : Oper} {a : Act} {w : World} {K : Act → World → Prop} {Q : Exit → Act → World → Prop} (s x : Operand) (ho : o.op = .call { callee := .builtin .append, args := #[s, x], argTypes := #[41, 41] })
    (B : Nat) (v : Value) (xs : Bs) (hs : a.eval s = v) (hown : w.ownsRow B 5 1 v xs.length (ucells xs)) (sv : Value) (ys : Bs) (S : Nat → Prop) (hx : a.eval x = sv) (hb : BytesAt w sv ys S) (hlen : xs.length + ys.length ≤ 70368744177664) (hB : B ≤ w.heap.size)
    (h : ∀ a' m' c' w', Hid (m' = (xs ++ ys).length) → w'.ownsRow B 5 1 (.slice a' m' c') (xs ++ ys).length (ucells (xs ++ ys)) → w.grownBy w' v.ownBlock → K (a.put o.dst (.slice a' m' c')) w') : o.wp Tryz.prog a w K Q := by
  obtain ⟨a', c', w', hr, h2, h3, h4⟩ := run_append_bytes w B v xs hown sv ys S hb o.type hlen hB
  unfold Oper.wp execOp
  simp only [ho, resolve, invoke, builtin, Sem.run_bind, Sem.run_pure, Result.andThen_ok, List.map_toArray, List.map_cons, List.map_nil, hs, hx, hr]
  exact h a' _ c' w' (Lib.hid rfl) h2 h3
theorem step_append_bytes {ops : Array Oper} {o : Oper} {a : Act} {w : World} {K : Act → World → Prop} {Q : Exit → Act → World → Prop} {E : Prop} (hgd : o.guard = none) (s x : Operand) (ho : o.op = .call { callee := .builtin .append, args := #[s, x], argTypes := #[41, 41] })
    (B : Nat) (v : Value) (xs : Bs) (hs : a.eval s = v) (hown : w.ownsRow B 5 1 v xs.length (ucells xs)) (sv : Value) (ys : Bs) (S : Nat → Prop) (hx : a.eval x = sv) (hb : BytesAt w sv ys S) (hlen : xs.length + ys.length ≤ 70368744177664) (hB : B ≤ w.heap.size)
    (h : ∀ a' m' c' w', Hid (m' = (xs ++ ys).length) → w'.ownsRow B 5 1 (.slice a' m' c') (xs ++ ys).length (ucells (xs ++ ys)) → w.grownBy w' v.ownBlock → K (a.put o.dst (.slice a' m' c')) w') :
    if Region.wanted o (yielded ops a.tmps) = true then Oper.wp Tryz.prog o a w K Q else E := by
  have hw : Region.wanted o (yielded ops a.tmps) = true := by simp [Region.wanted, hgd]
  rw [if_pos hw]
  exact wp_append_bytes s x ho B v xs hs hown sv ys S hx hb hlen hB h
/-- A store into the map of the nodes, at a step of a region that draws. -/
theorem step_put {mb nb : Nat} {N : Bs → Nat} {st : St} {ops : Array Oper} {o : Oper} {a : Act} {w : World} {K : Act → World → Prop} {Q : Exit → Act → World → Prop} {E : Prop} (hgd : o.guard = none) (m x v : Operand) (ho : o.op = Op.mapUpdate 56 m x v)
    (hm : a.eval m = .map (some mb)) (s : ByteArray) (hx : a.eval x = .string s) (hv : a.eval v = .pointer (some ⟨nb, 0, none⟩)) (hmap : MapAt w mb N st) (hr : Rising st) (hs : s.size ≤ maxLen) (hn : st.length < maxLen) (n : PN)
    (h : ∀ w', MapAt w' mb (fun q => if q = s.data.toList then nb else N q) (putSt st s.data.toList n) → w.grownBy w' (some mb) → w'.heap.size = w.heap.size → K (a.put o.dst undef) w') :
    if Region.wanted o (yielded ops a.tmps) = true then Oper.wp Tryz.prog o a w K Q else E := by
  have hw : Region.wanted o (yielded ops a.tmps) = true := by simp [Region.wanted, hgd]
  rw [if_pos hw]
  obtain ⟨w', hrun, h1, h2, h3⟩ := hmap.put (nb := nb) hr s hs hn n
  unfold Oper.wp
  simp [execOp, ho, hm, hx, hv, hrun, Result.andThen]
  exact h w' h1 h2 h3
end Go.Proofs.YtejofgdglpmlkaaGreatDoor
