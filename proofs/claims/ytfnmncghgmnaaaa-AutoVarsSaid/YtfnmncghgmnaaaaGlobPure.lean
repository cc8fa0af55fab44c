/-
  The plain side of glob: patterns of one name as lists of parts, what a part matches, what a whole name matches; and what the greedy search with one star kept back comes to.
-/
import Derived.Lib.IndexLaws
namespace Go.Proofs.Ytfnmncghgmnaaaa.Gl

/-- The first place of a byte. -/
def idx (c : UInt8) : List UInt8 → Option Nat
  | [] => none
  | b :: l => if b = c then some 0 else (idx c l).map (· + 1)

theorem indexByte_idx (c : UInt8) : ∀ l, Go.Lib.indexByte l c = match idx c l with | some n => (n : Int) | none => -1
  | [] => rfl
  | b :: l => by
    have ih := indexByte_idx c l
    unfold Go.Lib.indexByte idx
    by_cases h : b = c
    · simp [h]
    · rw [ih]
      cases hi : idx c l with
      | none => simp [h]
      | some n =>
        have : ¬ ((n : Int) = -1) := by omega
        simp [h, this]

theorem idx_lt {c : UInt8} : ∀ {l : List UInt8} {n : Nat}, idx c l = some n → n < l.length
  | [], n, h => by simp [idx] at h
  | b :: l, n, h => by
    unfold idx at h
    split at h
    · injection h with h; subst h; simp
    · cases hi : idx c l with
      | none => rw [hi] at h; simp at h
      | some m => rw [hi] at h; have := idx_lt hi; simp at h; subst h; simp; omega

inductive Part where
  | byte (c : UInt8)
  | star
  | any
  | set (no : Bool) (ms : List UInt8)
  deriving DecidableEq

def neg : List UInt8 → Bool
  | c :: _ => c == 33 || c == 94
  | [] => false
def body (r : List UInt8) : List UInt8 := if neg r then r.tail else r
/-- What stands behind a '[': is it turned round, its members, what is behind it. -/
def setOf (r : List UInt8) : Option (Bool × List UInt8 × List UInt8) :=
  match body r with
  | [] => none
  | c :: t => match idx 93 t with
    | some e => some (neg r, c :: t.take e, t.drop (e + 1))
    | none => none

theorem body_le (r : List UInt8) : (body r).length ≤ r.length := by
  unfold body; split <;> simp

theorem setOf_lt {r : List UInt8} {n : Bool} {ms rest : List UInt8} (h : setOf r = some (n, ms, rest)) : rest.length < r.length := by
  unfold setOf at h
  have hb := body_le r
  split at h
  · cases h
  · rename_i c t he
    rw [he] at hb
    split at h
    · rename_i e hi
      have := idx_lt hi
      injection h with h; injection h with _ h; injection h with _ h
      subst h
      simp at hb ⊢; omega
    · cases h

/-- A pattern's parts. -/
def parts : List UInt8 → List Part
  | [] => []
  | c :: t =>
    if c = 92 then match t with | [] => [.byte 92] | d :: t' => .byte d :: parts t'
    else if c = 91 then match _h : setOf t with | some (n, ms, rest) => .set n ms :: parts rest | none => .byte 91 :: parts t
    else if c = 42 then .star :: parts t
    else if c = 63 then .any :: parts t
    else .byte c :: parts t
termination_by l => l.length
decreasing_by
  all_goals first | (have := setOf_lt _h; simp; omega) | (simp; try omega)

theorem parts_nil : parts [] = [] := by rw [parts]
theorem parts_esc1 : parts [92] = [.byte 92] := by rw [parts]; simp
theorem parts_esc (d : UInt8) (t : List UInt8) : parts (92 :: d :: t) = .byte d :: parts t := by rw [parts]; simp
theorem parts_set {t : List UInt8} {n : Bool} {ms rest : List UInt8} (h : setOf t = some (n, ms, rest)) : parts (91 :: t) = .set n ms :: parts rest := by
  rw [parts.eq_def]; simp only [show ¬ ((91 : UInt8) = 92) by decide, if_false, if_true]
  split
  · rename_i h'; rw [h] at h'; simp at h'; obtain ⟨rfl, rfl, rfl⟩ := h'; rfl
  · rename_i h'; rw [h] at h'; cases h'
theorem parts_open {t : List UInt8} (h : setOf t = none) : parts (91 :: t) = .byte 91 :: parts t := by
  rw [parts.eq_def]; simp only [show ¬ ((91 : UInt8) = 92) by decide, if_false, if_true]
  split
  · rename_i h'; rw [h] at h'; cases h'
  · rfl
theorem parts_star (t : List UInt8) : parts (42 :: t) = .star :: parts t := by rw [parts.eq_def]; simp
theorem parts_any (t : List UInt8) : parts (63 :: t) = .any :: parts t := by rw [parts.eq_def]; simp
theorem parts_byte {c : UInt8} (t : List UInt8) (h1 : c ≠ 92) (h2 : c ≠ 91) (h3 : c ≠ 42) (h4 : c ≠ 63) : parts (c :: t) = .byte c :: parts t := by
  rw [parts.eq_def]; simp [h1, h2, h3, h4]

/-- Is a byte one of a set's members? -/
def mem (c : UInt8) : List UInt8 → Bool
  | [] => false
  | [a] => a == c
  | [a, m] => a == c || m == c
  | a :: m :: b :: t => if m = 45 then (decide (a ≤ c) && decide (c ≤ b)) || mem c t else a == c || mem c (m :: b :: t)

def one : Part → UInt8 → Bool
  | .byte b, c => b == c
  | .any, _ => true
  | .set n ms, c => mem c ms != n
  | .star, _ => false

/-- Do the parts match the whole text? -/
def mt : List Part → List UInt8 → Bool
  | [], s => s.isEmpty
  | .star :: l, [] => mt l []
  | .star :: l, c :: t => mt l (c :: t) || mt (.star :: l) t
  | _ :: _, [] => false
  | q :: l, c :: t => one q c && mt l t
termination_by l s => l.length + s.length

theorem mt_nil (s : List UInt8) : mt [] s = s.isEmpty := by rw [mt]
theorem mt_one_nil {q : Part} (l : List Part) (h : q ≠ .star) : mt (q :: l) [] = false := by
  cases q <;> first | exact absurd rfl h | (rw [mt]; simp)
theorem mt_one {q : Part} (l : List Part) (c : UInt8) (t : List UInt8) (h : q ≠ .star) : mt (q :: l) (c :: t) = (one q c && mt l t) := by
  cases q <;> first | exact absurd rfl h | (rw [mt]; simp)
/-- A star matches whatever beginning. -/
theorem mt_star (l : List Part) : ∀ s, mt (.star :: l) s = true ↔ ∃ j, j ≤ s.length ∧ mt l (s.drop j) = true
  | [] => by
    rw [mt]
    exact ⟨fun h => ⟨0, Nat.le_refl _, h⟩, fun ⟨j, _, h⟩ => by simpa using h⟩
  | c :: t => by
    rw [mt, Bool.or_eq_true, mt_star l t]
    constructor
    · rintro (h | ⟨j, hj, h⟩)
      · exact ⟨0, Nat.zero_le _, h⟩
      · exact ⟨j + 1, by simpa using hj, by simpa using h⟩
    · rintro ⟨j, hj, h⟩
      cases j with
      | zero => exact Or.inl h
      | succ j => exact Or.inr ⟨j, by simpa using hj, by simpa using h⟩

/-- A row of parts, none a star, matches a text of just as many bytes. -/
def row : List Part → List UInt8 → Bool
  | [], [] => true
  | q :: l, c :: t => one q c && row l t
  | _, _ => false

theorem row_len : ∀ {l : List Part} {s : List UInt8}, row l s = true → s.length = l.length
  | [], [], _ => rfl
  | q :: l, c :: t, h => by
    simp only [row, Bool.and_eq_true] at h
    have := row_len h.2
    simp [this]
  | [], _ :: _, h => by simp [row] at h
  | _ :: _, [], h => by simp [row] at h

theorem row_snoc : ∀ {l : List Part} {s : List UInt8} {q : Part} {c : UInt8}, row l s = true → one q c = true → row (l ++ [q]) (s ++ [c]) = true
  | [], [], q, c, _, h => by simp [row, h]
  | p :: l, d :: t, q, c, h, h' => by
    simp only [row, Bool.and_eq_true, List.cons_append] at h ⊢
    exact ⟨h.1, row_snoc h.2 h'⟩
  | [], _ :: _, _, _, h, _ => by simp [row] at h
  | _ :: _, [], _, _, h, _ => by simp [row] at h

/-- Parts without a star ahead of more. -/
theorem mt_row : ∀ {l : List Part} {s : List UInt8} (m : List Part) (u : List UInt8), (∀ q ∈ l, q ≠ .star) → row l s = true → mt (l ++ m) (s ++ u) = mt m u
  | [], [], m, u, _, _ => rfl
  | p :: l, d :: t, m, u, hl, h => by
    simp only [row, Bool.and_eq_true] at h
    rw [List.cons_append, List.cons_append, mt_one _ _ _ (hl p (List.mem_cons_self ..)), h.1, Bool.true_and]
    exact mt_row m u (fun q hq => hl q (List.mem_cons_of_mem _ hq)) h.2
  | [], _ :: _, _, _, _, h => by simp [row] at h
  | _ :: _, [], _, _, _, h => by simp [row] at h

/-- What parts without a star leave, if the whole is matched. -/
theorem row_of_mt : ∀ {l : List Part} {m : List Part} {s : List UInt8}, (∀ q ∈ l, q ≠ .star) → mt (l ++ m) s = true → l.length ≤ s.length ∧ mt m (s.drop l.length) = true
  | [], m, s, _, h => ⟨Nat.zero_le _, h⟩
  | p :: l, m, [], hl, h => by
    rw [List.cons_append, mt_one_nil _ (hl p (List.mem_cons_self ..))] at h
    cases h
  | p :: l, m, c :: t, hl, h => by
    rw [List.cons_append, mt_one _ _ _ (hl p (List.mem_cons_self ..)), Bool.and_eq_true] at h
    have := row_of_mt (fun q hq => hl q (List.mem_cons_of_mem _ hq)) h.2
    exact ⟨by simpa using this.1, by simpa using this.2⟩

/-! ### the greedy search: a state is (at, i, star, from) -/
/-- What is known at each turn of the search. 'st' none: no star has been met. -/
def Inv (l : List Part) (s : List UInt8) (at_ i : Nat) (st : Option Nat) (fr : Nat) : Prop :=
  at_ ≤ l.length ∧ i ≤ s.length ∧ fr ≤ i ∧
  match st with
  | none => at_ = i ∧ fr = 0 ∧ (∀ q ∈ l.take at_, q ≠ .star) ∧ row (l.take at_) (s.take i) = true
  | some k => k < at_ ∧ l[k]? = some .star ∧ i - fr = at_ - (k + 1) ∧ (∀ q ∈ (l.drop (k + 1)).take (at_ - (k + 1)), q ≠ .star) ∧
      row ((l.drop (k + 1)).take (at_ - (k + 1))) ((s.drop fr).take (i - fr)) = true ∧
      (mt l s = true ↔ ∃ j, fr ≤ j ∧ j ≤ s.length ∧ mt (l.drop (k + 1)) (s.drop j) = true)

theorem Inv.start (l : List Part) (s : List UInt8) : Inv l s 0 0 none 0 := by
  refine ⟨Nat.zero_le _, Nat.zero_le _, Nat.le_refl _, rfl, rfl, by simp, by simp [row]⟩

theorem take_split {α : Type} (l : List α) (n : Nat) : l = l.take n ++ l.drop n := (List.take_append_drop n l).symm

theorem Inv.star {l : List Part} {s : List UInt8} {at_ i : Nat} {st : Option Nat} {fr : Nat} (h : Inv l s at_ i st fr) (hq : l[at_]? = some .star) :
    Inv l s (at_ + 1) i (some at_) i := by
  obtain ⟨h1, h2, h3, h4⟩ := h
  have hlt : at_ < l.length := (List.getElem?_eq_some_iff.1 hq).1
  have hd : l.drop at_ = .star :: l.drop (at_ + 1) := by
    rw [List.drop_eq_getElem_cons hlt, (List.getElem?_eq_some_iff.1 hq).2]
  refine ⟨hlt, h2, Nat.le_refl _, Nat.lt_succ_self _, hq, by omega, by simp, by simp [row], ?_⟩
  cases st with
  | none =>
    obtain ⟨rfl, rfl, hns, hrow⟩ := h4
    have e := mt_row (l.drop at_) (s.drop at_) hns hrow
    rw [← take_split, ← take_split, hd] at e
    rw [e, mt_star]
    constructor
    · rintro ⟨j, hj, hm⟩
      rw [List.drop_drop] at hm
      exact ⟨at_ + j, by omega, by simp at hj; omega, hm⟩
    · rintro ⟨j, hj1, hj2, hm⟩
      refine ⟨j - at_, by simp; omega, ?_⟩
      rw [List.drop_drop, show at_ + (j - at_) = j by omega]
      exact hm
  | some k =>
    obtain ⟨hk, hlk, hlen, hns, hrow, hiff⟩ := h4
    rw [hiff]
    have hsplit : l.drop (k + 1) = (l.drop (k + 1)).take (at_ - (k + 1)) ++ .star :: l.drop (at_ + 1) := by
      rw [← hd]
      conv => lhs; rw [take_split (l.drop (k + 1)) (at_ - (k + 1))]
      rw [List.drop_drop, show k + 1 + (at_ - (k + 1)) = at_ by clear hiff; omega]
    have hl1 : ((l.drop (k + 1)).take (at_ - (k + 1))).length = at_ - (k + 1) := by simp; omega
    constructor
    · rintro ⟨j, hj1, hj2, hm⟩
      rw [hsplit] at hm
      obtain ⟨hle, hm2⟩ := row_of_mt hns hm
      rw [hl1] at hle hm2
      rw [mt_star] at hm2
      obtain ⟨j', hj', hm3⟩ := hm2
      rw [List.drop_drop, List.drop_drop] at hm3
      simp only [List.length_drop] at hle hj'
      exact ⟨j + (at_ - (k + 1)) + j', by omega, by omega, by rw [Nat.add_assoc]; simpa [Nat.add_assoc] using hm3⟩
    · rintro ⟨j, hj1, hj2, hm⟩
      refine ⟨fr, Nat.le_refl _, by omega, ?_⟩
      have es : s.drop fr = (s.drop fr).take (i - fr) ++ s.drop i := by
        conv => lhs; rw [take_split (s.drop fr) (i - fr)]
        rw [List.drop_drop, show fr + (i - fr) = i by clear hiff; omega]
      rw [hsplit, es, mt_row _ _ hns hrow, mt_star]
      refine ⟨j - i, by simp; omega, ?_⟩
      rw [List.drop_drop, show i + (j - i) = j by clear hiff; omega]
      exact hm

theorem take_snoc {α : Type} {l : List α} {n : Nat} {x : α} (h : l[n]? = some x) : l.take (n + 1) = l.take n ++ [x] := by
  rw [List.take_add_one, h]; rfl

theorem Inv.next {l : List Part} {s : List UInt8} {at_ i : Nat} {st : Option Nat} {fr : Nat} (h : Inv l s at_ i st fr) {q : Part} {c : UInt8}
    (hq : l[at_]? = some q) (hc : s[i]? = some c) (hn : q ≠ .star) (ho : one q c = true) : Inv l s (at_ + 1) (i + 1) st fr := by
  obtain ⟨h1, h2, h3, h4⟩ := h
  have hlt : at_ < l.length := (List.getElem?_eq_some_iff.1 hq).1
  have hli : i < s.length := (List.getElem?_eq_some_iff.1 hc).1
  refine ⟨hlt, hli, by omega, ?_⟩
  cases st with
  | none =>
    obtain ⟨rfl, rfl, hns, hrow⟩ := h4
    refine ⟨rfl, rfl, ?_, ?_⟩
    · rw [take_snoc hq]
      intro p hp
      rcases List.mem_append.1 hp with hp | hp
      · exact hns p hp
      · simp at hp; subst hp; exact hn
    · rw [take_snoc hq, take_snoc hc]
      exact row_snoc hrow ho
  | some k =>
    obtain ⟨hk, hlk, hlen, hns, hrow, hiff⟩ := h4
    have e1 : (l.drop (k + 1)).take (at_ + 1 - (k + 1)) = (l.drop (k + 1)).take (at_ - (k + 1)) ++ [q] := by
      rw [show at_ + 1 - (k + 1) = at_ - (k + 1) + 1 by clear hiff; omega]
      apply take_snoc
      rw [List.getElem?_drop, show k + 1 + (at_ - (k + 1)) = at_ by clear hiff; omega]
      exact hq
    have e2 : (s.drop fr).take (i + 1 - fr) = (s.drop fr).take (i - fr) ++ [c] := by
      rw [show i + 1 - fr = i - fr + 1 by clear hiff; omega]
      apply take_snoc
      rw [List.getElem?_drop, show fr + (i - fr) = i by clear hiff; omega]
      exact hc
    refine ⟨by omega, hlk, by clear hiff; omega, ?_, ?_, hiff⟩
    · rw [e1]
      intro p hp
      rcases List.mem_append.1 hp with hp | hp
      · exact hns p hp
      · simp at hp; subst hp; exact hn
    · rw [e1, e2]
      exact row_snoc hrow ho

/-- At the end of both: the whole is matched. -/
theorem Inv.done {l : List Part} {s : List UInt8} {st : Option Nat} {fr : Nat} (h : Inv l s l.length s.length st fr) : mt l s = true := by
  obtain ⟨h1, h2, h3, h4⟩ := h
  cases st with
  | none =>
    obtain ⟨e, _, hns, hrow⟩ := h4
    have := mt_row [] [] hns hrow
    simp only [List.append_nil, List.take_length] at this
    rw [this, mt_nil]; rfl
  | some k =>
    obtain ⟨hk, hlk, hlen, hns, hrow, hiff⟩ := h4
    rw [hiff]
    refine ⟨fr, Nat.le_refl _, h3, ?_⟩
    have := mt_row [] [] hns hrow
    rw [List.append_nil, List.append_nil] at this
    rw [List.take_of_length_le (by simp), List.take_of_length_le (by simp)] at this
    rw [this, mt_nil]; rfl

/-- Where no part and no byte go on together: the place behind the star is none. -/
def Stuck (l : List Part) (s : List UInt8) (at_ i : Nat) : Prop :=
  (∀ q, l[at_]? = some q → q ≠ .star) ∧ (∀ q c, l[at_]? = some q → s[i]? = some c → one q c = false) ∧ ¬ (at_ = l.length ∧ i = s.length)

theorem Stuck.no {l : List Part} {s : List UInt8} {at_ i : Nat} (h : Stuck l s at_ i) (h1 : at_ ≤ l.length) (h2 : i ≤ s.length) : mt (l.drop at_) (s.drop i) = false := by
  obtain ⟨hs, hm, he⟩ := h
  by_cases ha : at_ < l.length
  · rw [List.drop_eq_getElem_cons ha]
    have hq : l[at_]? = some l[at_] := List.getElem?_eq_getElem ha
    by_cases hi : i < s.length
    · rw [List.drop_eq_getElem_cons hi, mt_one _ _ _ (hs _ hq), hm _ _ hq (List.getElem?_eq_getElem hi), Bool.false_and]
    · rw [List.drop_of_length_le (by omega : s.length ≤ i), mt_one_nil _ (hs _ hq)]
  · rw [List.drop_of_length_le (by omega : l.length ≤ at_), mt_nil]
    have : i < s.length := by omega
    rw [List.drop_eq_getElem_cons this]; rfl

theorem Inv.none_no {l : List Part} {s : List UInt8} {at_ i : Nat} {fr : Nat} (h : Inv l s at_ i none fr) (hst : Stuck l s at_ i) : mt l s = false := by
  obtain ⟨h1, h2, h3, rfl, h5, hns, hrow⟩ := h
  have e := mt_row (l.drop at_) (s.drop at_) hns hrow
  rw [← take_split, ← take_split] at e
  rw [e]
  exact hst.no h1 h2

theorem Inv.seg_no {l : List Part} {s : List UInt8} {at_ i : Nat} {k fr : Nat} (h : Inv l s at_ i (some k) fr) (hst : Stuck l s at_ i) : mt (l.drop (k + 1)) (s.drop fr) = false := by
  obtain ⟨h1, h2, h3, hk, hlk, hlen, hns, hrow, hiff⟩ := h
  have e := mt_row (l.drop at_) (s.drop i) hns hrow
  have e1 : (l.drop (k + 1)).take (at_ - (k + 1)) ++ l.drop at_ = l.drop (k + 1) := by
    conv => rhs; rw [take_split (l.drop (k + 1)) (at_ - (k + 1))]
    rw [List.drop_drop, show k + 1 + (at_ - (k + 1)) = at_ by clear hiff; omega]
  have e2 : (s.drop fr).take (i - fr) ++ s.drop i = s.drop fr := by
    conv => rhs; rw [take_split (s.drop fr) (i - fr)]
    rw [List.drop_drop, show fr + (i - fr) = i by clear hiff; omega]
  rw [e1, e2] at e
  rw [e]
  exact hst.no h1 h2

theorem Inv.end_no {l : List Part} {s : List UInt8} {at_ i : Nat} {k fr : Nat} (h : Inv l s at_ i (some k) fr) (hst : Stuck l s at_ i) (hf : s.length ≤ fr) : mt l s = false := by
  have hn := h.seg_no hst
  obtain ⟨h1, h2, h3, hk, hlk, hlen, hns, hrow, hiff⟩ := h
  rw [Bool.eq_false_iff]
  intro hm
  obtain ⟨j, hj1, hj2, hj3⟩ := hiff.1 hm
  have : j = fr := by omega
  subst this
  rw [hn] at hj3
  cases hj3

theorem Inv.back {l : List Part} {s : List UInt8} {at_ i : Nat} {k fr : Nat} (h : Inv l s at_ i (some k) fr) (hst : Stuck l s at_ i) (hf : fr < s.length) : Inv l s (k + 1) (fr + 1) (some k) (fr + 1) := by
  have hn := h.seg_no hst
  obtain ⟨h1, h2, h3, hk, hlk, hlen, hns, hrow, hiff⟩ := h
  refine ⟨by omega, hf, Nat.le_refl _, Nat.lt_succ_self _, hlk, by omega, by simp, by simp [row], ?_⟩
  rw [hiff]
  constructor
  · rintro ⟨j, hj1, hj2, hj3⟩
    by_cases e : j = fr
    · subst e; rw [hn] at hj3; cases hj3
    · exact ⟨j, by omega, hj2, hj3⟩
  · rintro ⟨j, hj1, hj2, hj3⟩
    exact ⟨j, by omega, hj2, hj3⟩

/-- The measure of the search. -/
def meas (l : List Part) (s : List UInt8) (at_ : Nat) (st : Option Nat) (fr : Nat) : Nat :=
  let L := l.length + 2
  let N := s.length + 2
  ((L - (match st with | none => 0 | some k => k + 1)) * N + (N - fr)) * L + (L - at_)

/-- Does a pattern match a whole name (a point at the name's beginning wants a point)? -/
def points (l : List Part) : Bool := match l with | .byte c :: _ => c == 46 | _ => false
def hidden (s : List UInt8) : Bool := match s with | c :: _ => c == 46 | [] => false
def whole (point : Bool) (p s : List UInt8) : Bool := !(point && hidden s && !points (parts p)) && mt (parts p) s

/-- A pattern without the backslashes that quote. -/
def plain : List UInt8 → List UInt8
  | [] => []
  | c :: t =>
    if c = 91 then match _h : setOf t with | some (_, _, rest) => (c :: t).take (t.length + 1 - rest.length) ++ plain rest | none => c :: plain t
    else if c = 92 then match t with | [] => [92] | d :: t' => d :: plain t'
    else c :: plain t
termination_by l => l.length
decreasing_by
  all_goals first | (have := setOf_lt _h; simp; omega) | (simp; try omega)

theorem plain_nil : plain [] = [] := by rw [plain]
theorem plain_esc1 : plain [92] = [92] := by rw [plain]; simp
theorem plain_esc (d : UInt8) (t : List UInt8) : plain (92 :: d :: t) = d :: plain t := by rw [plain]; simp
theorem plain_set {t : List UInt8} {n : Bool} {ms rest : List UInt8} (h : setOf t = some (n, ms, rest)) : plain (91 :: t) = (91 :: t).take (t.length + 1 - rest.length) ++ plain rest := by
  rw [plain.eq_def]; simp only [if_true]
  split
  · rename_i h'; rw [h] at h'; simp at h'; obtain ⟨rfl, rfl, rfl⟩ := h'; rfl
  · rename_i h'; rw [h] at h'; cases h'
theorem plain_open {t : List UInt8} (h : setOf t = none) : plain (91 :: t) = 91 :: plain t := by
  rw [plain.eq_def]; simp only [if_true]
  split
  · rename_i h'; rw [h] at h'; cases h'
  · rfl
theorem plain_byte {c : UInt8} (t : List UInt8) (h1 : c ≠ 92) (h2 : c ≠ 91) : plain (c :: t) = c :: plain t := by
  rw [plain.eq_def]; simp [h1, h2]

def wild (p : List UInt8) : Bool := (parts p).any fun q => match q with | .byte _ => false | _ => true

end Go.Proofs.Ytfnmncghgmnaaaa.Gl
