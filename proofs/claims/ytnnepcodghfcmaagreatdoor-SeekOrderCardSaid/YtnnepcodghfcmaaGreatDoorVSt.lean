/-
  A file tree as a rising list of paths and nodes: looking up, putting, taking away, its weight. Plain Lean. Conditions: none.
-/
import Derived.Test.YtnnepcodghfcmaaGreatDoorVPure
namespace Go.Proofs.YtnnepcodghfcmaaGreatDoor

structure PN where
  dir : Bool
  time : Int
  data : Bs
abbrev St := List (Bs × PN)
def find : St → Bs → Option PN
  | [], _ => none
  | (q, n) :: r, p => if q = p then some n else find r p
def Rising (st : St) : Prop := st.Pairwise fun a b => a.1 < b.1
def putSt : St → Bs → PN → St
  | [], p, n => [(p, n)]
  | (q, m) :: r, p, n => if q = p then (p, n) :: r else if p < q then (p, n) :: (q, m) :: r else (q, m) :: putSt r p n
def delSt (st : St) (p : Bs) : St := st.filter fun x => decide (x.1 ≠ p)
def bytesOf (st : St) : Nat := (st.map fun x => x.2.data.length).sum
def wt (st : St) : Nat := st.length + bytesOf st

theorem lt_tri (a b : Bs) : a < b ∨ a = b ∨ b < a := by
  rcases Decidable.em (a < b) with h | h
  · exact Or.inl h
  · rcases Decidable.em (b < a) with h' | h'
    · exact Or.inr (Or.inr h')
    · exact Or.inr (Or.inl (List.le_antisymm (List.not_lt.1 h') (List.not_lt.1 h)))
theorem find_mem : ∀ {st : St} {p : Bs} {n : PN}, find st p = some n → (p, n) ∈ st
  | [], _, _, h => by cases h
  | (q, m) :: r, p, n, h => by
    rw [find] at h
    split at h
    · rename_i e; injection h with h; subst h; subst e; simp
    · exact List.mem_cons_of_mem _ (find_mem h)
theorem find_none : ∀ {st : St} {p : Bs}, find st p = none ↔ ∀ x ∈ st, x.1 ≠ p
  | [], _ => by simp [find]
  | (q, m) :: r, p => by
    rw [find]
    split
    · rename_i e; simp [e]
    · rename_i e; rw [find_none]; simp [e]
theorem find_of_mem : ∀ {st : St} {p : Bs} {n : PN}, Rising st → (p, n) ∈ st → find st p = some n
  | [], _, _, _, h => by simp at h
  | (q, m) :: r, p, n, hs, h => by
    obtain ⟨h1, h2⟩ := List.pairwise_cons.1 hs
    rcases List.mem_cons.1 h with e | h
    · injection e with e1 e2; subst e1; subst e2; rw [find, if_pos rfl]
    · rw [find, if_neg (fun e => by have := h1 _ h; dsimp only at this; rw [e] at this; exact List.lt_irrefl p this), find_of_mem h2 h]
theorem find_put : ∀ (st : St) (p : Bs) (n : PN) (q : Bs), find (putSt st p n) q = if q = p then some n else find st q
  | [], p, n, q => by
    simp only [putSt, find]
    by_cases h : q = p
    · simp [h]
    · simp [h, Ne.symm h]
  | (k, m) :: r, p, n, q => by
    rw [putSt]
    split
    · rename_i e; subst e
      rw [find, find]; by_cases h : q = k
      · simp [h]
      · simp [h, Ne.symm h]
    · rename_i e
      split
      · rw [find]
        by_cases h : q = p
        · simp [h]
        · simp [h, Ne.symm h]
      · rw [find, find, find_put r p n q]
        by_cases h : q = p
        · subst h; simp [e]
        · simp [h]
theorem find_del : ∀ (st : St) (p q : Bs), find (delSt st p) q = if q = p then none else find st q
  | [], p, q => by simp [delSt, find]
  | (k, m) :: r, p, q => by
    have ih := find_del r p q
    unfold delSt at ih ⊢
    rw [List.filter_cons]
    by_cases hk : k = p
    · subst hk
      simp only [ne_eq, not_true_eq_false, decide_false, Bool.false_eq_true, if_false]
      rw [ih, find]
      by_cases h : q = k
      · simp [h]
      · simp [h, Ne.symm h]
    · simp only [ne_eq, hk, not_false_eq_true, decide_true, if_true]
      rw [find, find, ih]
      by_cases h : q = p
      · subst h; simp [hk]
      · simp [h]
theorem mem_put : ∀ {st : St} {p : Bs} {n : PN} {x : Bs × PN}, x ∈ putSt st p n → x = (p, n) ∨ x ∈ st
  | [], p, n, x, h => by simp [putSt] at h; exact Or.inl h
  | (k, m) :: r, p, n, x, h => by
    rw [putSt] at h
    split at h
    · rcases List.mem_cons.1 h with e | h
      · exact Or.inl e
      · exact Or.inr (by simp [h])
    · split at h
      · rcases List.mem_cons.1 h with e | h
        · exact Or.inl e
        · exact Or.inr h
      · rcases List.mem_cons.1 h with e | h
        · exact Or.inr (by simp [e])
        · rcases mem_put h with e | h
          · exact Or.inl e
          · exact Or.inr (by simp [h])
theorem rising_put : ∀ {st : St} (p : Bs) (n : PN), Rising st → Rising (putSt st p n)
  | [], p, n, _ => by simp [putSt, Rising]
  | (k, m) :: r, p, n, hs => by
    obtain ⟨h1, h2⟩ := List.pairwise_cons.1 hs
    rw [putSt]
    split
    · rename_i e; subst e
      exact List.pairwise_cons.2 ⟨h1, h2⟩
    · rename_i e
      split
      · rename_i hl
        refine List.pairwise_cons.2 ⟨fun x hx => ?_, hs⟩
        rcases List.mem_cons.1 hx with rfl | hx
        · exact hl
        · exact List.lt_trans hl (h1 x hx)
      · rename_i hl
        refine List.pairwise_cons.2 ⟨fun x hx => ?_, rising_put p n h2⟩
        rcases mem_put hx with rfl | hx
        · rcases lt_tri k p with h | h | h
          · exact h
          · exact absurd h e
          · exact absurd h hl
        · exact h1 x hx
theorem rising_del {st : St} (p : Bs) (hs : Rising st) : Rising (delSt st p) := List.Pairwise.filter _ hs
theorem wt_cons (x : Bs × PN) (st : St) : wt (x :: st) = wt st + 1 + x.2.data.length := by
  unfold wt bytesOf; simp only [List.map_cons, List.sum_cons, List.length_cons]; omega
/-- What a node weighs; nothing: nought. -/
def own1 : Option PN → Nat
  | none => 0
  | some n => 1 + n.data.length
theorem wt_put : ∀ {st : St} (p : Bs) (n : PN), Rising st → wt (putSt st p n) + own1 (find st p) = wt st + 1 + n.data.length
  | [], p, n, _ => by simp [putSt, find, own1, wt, bytesOf]
  | (k, m) :: r, p, n, hs => by
    obtain ⟨h1, h2⟩ := List.pairwise_cons.1 hs
    rw [putSt, find]
    split
    · rename_i e; subst e; rw [wt_cons, wt_cons]; simp only [own1]; omega
    · rename_i e
      split
      · rename_i hl
        have : find r p = none := find_none.2 fun x hx e' => by
          have := h1 x hx; rw [e'] at this
          exact List.lt_irrefl p (List.lt_trans hl this)
        rw [this, wt_cons]; simp only [own1]; omega
      · rw [wt_cons, wt_cons]
        have := wt_put p n h2
        omega
theorem len_put : ∀ {st : St} (p : Bs) (n : PN), Rising st → (putSt st p n).length = st.length + if (find st p).isSome then 0 else 1
  | [], p, n, _ => by simp [putSt, find]
  | (k, m) :: r, p, n, hs => by
    obtain ⟨h1, h2⟩ := List.pairwise_cons.1 hs
    rw [putSt, find]
    split
    · simp
    · split
      · rename_i hl
        have : find r p = none := find_none.2 fun x hx e' => by
          have := h1 x hx; rw [e'] at this
          exact List.lt_irrefl p (List.lt_trans hl this)
        rw [this]; simp
      · have := len_put p n h2
        simp only [List.length_cons, this]; omega
theorem del_none {st : St} {p : Bs} (h : find st p = none) : delSt st p = st := by
  unfold delSt
  rw [List.filter_eq_self]
  intro x hx
  simpa using find_none.1 h x hx
theorem wt_del : ∀ {st : St} (p : Bs), Rising st → wt (delSt st p) + own1 (find st p) = wt st
  | [], p, _ => by simp [delSt, find, own1]
  | (k, m) :: r, p, hs => by
    obtain ⟨h1, h2⟩ := List.pairwise_cons.1 hs
    by_cases hk : k = p
    · subst hk
      have : find r k = none := find_none.2 fun x hx e' => by
        have := h1 x hx; rw [e'] at this; exact List.lt_irrefl k this
      have e : delSt ((k, m) :: r) k = r := by
        have := del_none this
        unfold delSt at this ⊢
        rw [List.filter_cons]; simp only [ne_eq, not_true_eq_false, decide_false, Bool.false_eq_true, if_false]; exact this
      rw [e, find, if_pos rfl, wt_cons]; simp only [own1]; omega
    · have e : delSt ((k, m) :: r) p = (k, m) :: delSt r p := by
        unfold delSt; rw [List.filter_cons]; simp [hk]
      rw [e, find, if_neg hk, wt_cons, wt_cons]
      have := wt_del p h2
      omega
theorem len_del : ∀ {st : St} (p : Bs), Rising st → (delSt st p).length + (if (find st p).isSome then 1 else 0) = st.length
  | [], p, _ => by simp [delSt, find]
  | (k, m) :: r, p, hs => by
    obtain ⟨h1, h2⟩ := List.pairwise_cons.1 hs
    by_cases hk : k = p
    · subst hk
      have : find r k = none := find_none.2 fun x hx e' => by
        have := h1 x hx; rw [e'] at this; exact List.lt_irrefl k this
      have e : delSt ((k, m) :: r) k = r := by
        have := del_none this
        unfold delSt at this ⊢
        rw [List.filter_cons]; simp only [ne_eq, not_true_eq_false, decide_false, Bool.false_eq_true, if_false]; exact this
      rw [e, find, if_pos rfl]; simp
    · have e : delSt ((k, m) :: r) p = (k, m) :: delSt r p := by
        unfold delSt; rw [List.filter_cons]; simp [hk]
      rw [e, find, if_neg hk]
      have := len_del p h2
      simp only [List.length_cons]; omega
theorem own1_le {st : St} {p : Bs} (hs : Rising st) : own1 (find st p) ≤ wt st := by have := wt_del p hs; omega
theorem find_len {st : St} {p : Bs} {n : PN} (hs : Rising st) (h : find st p = some n) : 1 + n.data.length ≤ wt st := by
  have := own1_le (p := p) hs; rw [h] at this; exact this

/-- What is looked for. -/
inductive LookR where
  | err (e : Int)
  | root
  | none
  | node (n : PN)
def chk (st : St) : List Bs → Option Int
  | [] => Option.none
  | u :: r => match find st u with
    | Option.none => some 10
    | some n => if n.dir then chk st r else some 11
def lookT (st : St) (q : Bs) : LookR :=
  match chk st (ups q) with
  | some e => .err e
  | Option.none => match find st q with
    | some n => .node n
    | Option.none => .none
/-- look, over a clean path. -/
def lookQ (st : St) (q : Bs) : LookR := if validB q = false then .err 16 else if q = [] then .root else lookT st q
theorem lookT_err {st : St} {q : Bs} {e : Int} (h : chk st (ups q) = some e) : lookT st q = .err e := by unfold lookT; rw [h]
theorem lookT_none {st : St} {q : Bs} (h : chk st (ups q) = Option.none) (h' : find st q = Option.none) : lookT st q = .none := by unfold lookT; rw [h]; simp only [h']
theorem lookT_some {st : St} {q : Bs} {n : PN} (h : chk st (ups q) = Option.none) (h' : find st q = some n) : lookT st q = .node n := by unfold lookT; rw [h]; simp only [h']
theorem chk_none {st : St} {u : Bs} {r : List Bs} (h : find st u = Option.none) : chk st (u :: r) = some 10 := by rw [chk, h]
theorem chk_file {st : St} {u : Bs} {r : List Bs} {n : PN} (h : find st u = some n) (hd : n.dir = false) : chk st (u :: r) = some 11 := by rw [chk, h]; simp [hd]
theorem chk_dir {st : St} {u : Bs} {r : List Bs} {n : PN} (h : find st u = some n) (hd : n.dir = true) : chk st (u :: r) = chk st r := by rw [chk, h]; simp [hd]
end Go.Proofs.YtnnepcodghfcmaaGreatDoor
