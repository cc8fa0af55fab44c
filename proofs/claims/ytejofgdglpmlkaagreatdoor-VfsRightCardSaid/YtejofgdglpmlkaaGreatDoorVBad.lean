/-
  What a tree with a bad node wants: of which kind its first bad node is; steps through a region that draws its order, several skipped ones at once. Conditions: none.
-/
import Derived.Test.YtejofgdglpmlkaaGreatDoorVRight
namespace Go.Proofs.YtejofgdglpmlkaaGreatDoor
open Go.RowKit

theorem valid_no (p : ByteArray) (w : World) (hp : p.size ≤ 2147483647) (h : validB p.data.toList = false) : Calls Tryz.prog 52 #[.string p] w fun e w' => e = .returned (.bool false) ∧ Below w.heap.size w w' := by
  have := valid_calls p w hp
  rwa [h] at this
theorem dirs_no {w : World} {db : Nat} {pre : St} {q : Bs} (h : DirsAt w db pre) (hv : validB q = true) (hd : isDirB pre (parentP q) = false) : (Instr.lookup 88 (.map (some db)) (.string (mk (parentP q))) false).run Tryz.prog w = .ok (.int .i64 0) w := by
  have hl : (parentP q).length ≤ maxLen := by
    have h1 := joinS_len (cnames q).dropLast
    have h2 := tot_drop (cnames q)
    have h3 := cnames_tot q
    have h4 := (validB_iff.1 hv).1
    unfold parentP maxLen; omega
  have := h.look (mk (parentP q)) (by rw [mk_size]; exact hl)
  rw [mk_list, hd] at this
  exact this
theorem more_mk {p y : Bs} (h : ¬ y < p) : Op.bytesLess (mk y).toList (mk p).toList = false := by
  rw [Go.Lib.toList_data, Go.Lib.toList_data, mk_list, mk_list, bytesLess_eq]
  simpa using h
theorem okNode_of {clock : Int} {pre : St} {x : Bs × PN} (h1 : validB x.1 = true) (h2 : x.1 ≠ []) (h3 : ∀ y, pre.getLast? = some y → y.1 < x.1) (h4 : isDirB pre (parentP x.1) = true) (h5 : x.2.dir = true → x.2.data.length = 0) (h6 : 0 ≤ x.2.time) (h7 : x.2.time ≤ clock) : okNode clock pre x = true := by
  unfold okNode
  have e5 : (!(x.2.dir && decide (0 < x.2.data.length))) = true := by
    cases hd : x.2.dir with
    | false => rfl
    | true => rw [h5 hd]; rfl
  cases hg : pre.getLast? with
  | none => simp only [h1, h4, e5, decide_eq_true h2, decide_eq_true h6, decide_eq_true h7]; rfl
  | some y => simp only [h1, h4, e5, decide_eq_true h2, decide_eq_true h6, decide_eq_true h7, decide_eq_true (h3 y hg)]; rfl
/-- What is asked of a node's path alone. -/
def pathOk (pre : St) (x : Bs × PN) : Bool := validB x.1 && decide (x.1 ≠ []) && (match pre.getLast? with | none => true | some y => decide (y.1 < x.1))
/-- 0: a node is well; 1: its path is not; 2: something else of the first node is not; 3: of a later one. -/
def kindN (clock : Int) (pre : St) (x : Bs × PN) : Nat := if okNode clock pre x = true then 0 else if pathOk pre x = false then 1 else if pre.length = 0 then 2 else 3
def kindF (clock : Int) : St → St → Nat
  | _, [] => 0
  | pre, x :: r => if okNode clock pre x = true then kindF clock (pre ++ [x]) r else kindN clock pre x
theorem kind_range {clock : Int} : ∀ (l pre : St), okFrom clock pre l = false → kindF clock pre l = 1 ∨ kindF clock pre l = 2 ∨ kindF clock pre l = 3
  | [], _, h => by simp [okFrom] at h
  | x :: r, pre, h => by
    unfold kindF
    by_cases hx : okNode clock pre x = true
    · rw [if_pos hx]
      rw [okFrom, hx, Bool.true_and] at h
      exact kind_range r _ h
    · rw [if_neg hx]
      unfold kindN
      rw [if_neg hx]
      split
      · exact Or.inl rfl
      · split
        · exact Or.inr (Or.inl rfl)
        · exact Or.inr (Or.inr rfl)
theorem kind_bad {clock : Int} : ∀ (l pre : St), kindF clock pre l ≠ 0 → okFrom clock pre l = false
  | [], _, h => absurd rfl h
  | x :: r, pre, h => by
    unfold kindF at h
    by_cases hx : okNode clock pre x = true
    · rw [if_pos hx] at h
      rw [okFrom, hx, Bool.true_and]
      exact kind_bad r _ h
    · rw [okFrom]
      simp [hx]
theorem kindF_drop {clock : Int} {l : St} {k : Nat} {x : Bs × PN} (h : l[k]? = some x) : kindF clock (l.take k) (l.drop k) = if okNode clock (l.take k) x = true then kindF clock (l.take (k + 1)) (l.drop (k + 1)) else kindN clock (l.take k) x := by
  rw [getElem_split h, kindF, take_more h]
theorem kindN_1 {clock : Int} {pre : St} {x : Bs × PN} (h : kindN clock pre x = 1) : pathOk pre x = false := by
  unfold kindN at h
  split at h
  · cases h
  · split at h
    · assumption
    · split at h <;> cases h
theorem kindN_2 {clock : Int} {pre : St} {x : Bs × PN} (h : kindN clock pre x = 2) : pathOk pre x = true ∧ pre.length = 0 := by
  unfold kindN at h
  split at h
  · cases h
  · split at h
    · cases h
    · rename_i hp
      split at h
      · exact ⟨by simpa using hp, by assumption⟩
      · cases h
theorem kindN_3 {clock : Int} {pre : St} {x : Bs × PN} (h : kindN clock pre x = 3) : pathOk pre x = true ∧ pre.length ≠ 0 := by
  unfold kindN at h
  split at h
  · cases h
  · split at h
    · cases h
    · rename_i hp
      split at h
      · cases h
      · exact ⟨by simpa using hp, by assumption⟩
theorem kind_two {clock : Int} : ∀ (l pre : St), pre.length ≠ 0 → kindF clock pre l ≠ 2
  | [], _, _ => by simp [kindF]
  | x :: r, pre, h => by
    unfold kindF
    split
    · exact kind_two r _ (by simp)
    · unfold kindN
      rw [if_neg (by assumption), if_neg h]
      split <;> decide
theorem pathOk_parts {pre : St} {x : Bs × PN} (h : pathOk pre x = true) : validB x.1 = true ∧ x.1 ≠ [] ∧ (∀ y, pre.getLast? = some y → y.1 < x.1) := by
  unfold pathOk at h
  simp only [Bool.and_eq_true, decide_eq_true_eq] at h
  obtain ⟨⟨h1, h2⟩, h3⟩ := h
  refine ⟨h1, h2, fun y hy => ?_⟩
  rw [hy] at h3; simpa using h3
theorem pathOk_of {pre : St} {x : Bs × PN} (h1 : validB x.1 = true) (h2 : x.1 ≠ []) (h3 : ∀ y, pre.getLast? = some y → y.1 < x.1) : pathOk pre x = true := by
  unfold pathOk
  cases hg : pre.getLast? with
  | none => simp only [h1, decide_eq_true h2]; rfl
  | some y => simp only [h1, decide_eq_true h2, decide_eq_true (h3 y hg)]; rfl

section
variable {P : Program} {ops : Array Oper} {Q : Exit → Act → World → Prop} {md : Region.Mode} {S : World → Prop}
theorem btake (i : Nat) (d : Option Tmp) (v : Value) {oi : Oper} {rest : List Oper} {fuel : Nat} {listed : Array Bool} {a : Act} {w : World} (hi : ops.toList.drop i = oi :: rest) (hS : S w) (hy : ∀ w, S w → (execOp a.eval oi).run P w = .ok (.value v) w)
    (h : wpAnyH P md ops Q S fuel (listed.setIfInBounds i true) (a.put d v) w) (hw : Region.wanted oi (yielded ops a.tmps) = true := by rfl) (hd : oi.dst = d := by rfl)
    (hs : Region.noSelect ops = true := by as_aux_lemma => kernel_rfl) (hf : Region.free md ops listed i = true := by as_aux_lemma => kernel_rfl) (hr : (Region.ready md ops listed).contains i = true := by as_aux_lemma => kernel_rfl)
    (hQ : ∀ c a w, Q (.panic c) (a.put d v) w → Q (.panic c) a w := by exact fun _ _ _ h => h) : wpAnyH P md ops Q S (fuel + 1) listed a w :=
  rtake i d v hi hd hs hf hr hQ hw hy hS h
def skipPut : Nat → Nat → Act → Act
  | 0, _, a => a
  | n + 1, d, a => skipPut n (d + 1) (a.put (some d) undef)
def skipList : Nat → Nat → Array Bool → Array Bool
  | 0, _, l => l
  | n + 1, i, l => skipList n (i + 1) (l.setIfInBounds i true)
def skipOk (md : Region.Mode) (ops : Array Oper) : Nat → Nat → Nat → Array Bool → Act → Bool
  | 0, _, _, _, _ => true
  | n + 1, i, d, l, a =>
    (match ops[i]? with
      | some o => decide (o.dst = some d) && !Region.wanted o (yielded ops a.tmps)
      | none => false) && Region.free md ops l i && (Region.ready md ops l).contains i && skipOk md ops n (i + 1) (d + 1) (l.setIfInBounds i true) (a.put (some d) undef)
theorem skips {P : Program} {ops : Array Oper} {Q : Exit → Act → World → Prop} {md : Region.Mode} {S : World → Prop} (hs : Region.noSelect ops = true) (hQ : ∀ (d : Tmp) c a w, Q (.panic c) (a.put (some d) undef) w → Q (.panic c) a w) {w : World} (hS : S w) {fuel : Nat} : ∀ (n i d : Nat) (listed : Array Bool) (a : Act),
    skipOk md ops n i d listed a = true → wpAnyH P md ops Q S fuel (skipList n i listed) (skipPut n d a) w → wpAnyH P md ops Q S (fuel + n) listed a w
  | 0, _, _, _, _, _, h => h
  | n + 1, i, d, listed, a, ho, h => by
    rw [skipOk] at ho
    simp only [Bool.and_eq_true] at ho
    obtain ⟨⟨⟨h1, h2⟩, h3⟩, h4⟩ := ho
    cases ho : ops[i]? with
    | none => rw [ho] at h1; cases h1
    | some o =>
      rw [ho] at h1
      simp only [Bool.and_eq_true, decide_eq_true_eq, Bool.not_eq_true'] at h1
      have := skips hs hQ hS n (i + 1) (d + 1) _ _ h4 h
      rw [← h1.1] at this
      exact wpAnyH_take ho hs h2 h3 (by rw [h1.1]; exact hQ d) (Or.inr ⟨h1.2, rfl⟩) hS this
theorem bskip (n i d : Nat) {fuel : Nat} {listed : Array Bool} {a : Act} {w : World} (hS : S w) (h : wpAnyH P md ops Q S fuel (skipList n i listed) (skipPut n d a) w)
    (hs : Region.noSelect ops = true := by as_aux_lemma => kernel_rfl) (ho : skipOk md ops n i d listed a = true := by as_aux_lemma => kernel_rfl)
    (hQ : ∀ (d : Tmp) c a w, Q (.panic c) (a.put (some d) undef) w → Q (.panic c) a w := by exact fun _ _ _ _ h => h) : wpAnyH P md ops Q S (fuel + n) listed a w :=
  skips hs hQ hS n i d listed a ho h
end
end Go.Proofs.YtejofgdglpmlkaaGreatDoor
