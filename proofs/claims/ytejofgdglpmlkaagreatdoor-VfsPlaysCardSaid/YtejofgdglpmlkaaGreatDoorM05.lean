/-
  A file tree as a rising list of paths and nodes: looking up, putting, taking away, its weight. Plain Lean. Conditions: none.
  A file system in memory: its struct, its map, its nodes. Conditions: none.
  A file system in memory: nodes and their bytes; what stays. Conditions: none.
-/
import Derived.Test.YtejofgdglpmlkaaGreatDoorM01
import Derived.Test.YtejofgdglpmlkaaGreatDoorM04
import Derived.Maps.RangeWalk
import Derived.StringKeys
import Derived.Sort.KeysCollected
namespace Go.Proofs.YtejofgdglpmlkaaGreatDoor

structure PN where
  dir : Bool
  time : Int
  data : Bs
abbrev St := List (Bs × PN)
def find : St → Bs → Option PN
  | [], _ => none
  | (q, n) :: r, p => if q = p then some n else find r p
def Rising (st : St) : Prop := st.Pairwise fun a b => a.1 < b.1
def putSt : St → Bs → PN → St
  | [], p, n => [(p, n)]
  | (q, m) :: r, p, n => if q = p then (p, n) :: r else if p < q then (p, n) :: (q, m) :: r else (q, m) :: putSt r p n
def delSt (st : St) (p : Bs) : St := st.filter fun x => decide (x.1 ≠ p)
def bytesOf (st : St) : Nat := (st.map fun x => x.2.data.length).sum
def wt (st : St) : Nat := st.length + bytesOf st

theorem lt_tri (a b : Bs) : a < b ∨ a = b ∨ b < a := by
  rcases Decidable.em (a < b) with h | h
  · exact Or.inl h
  · rcases Decidable.em (b < a) with h' | h'
    · exact Or.inr (Or.inr h')
    · exact Or.inr (Or.inl (List.le_antisymm (List.not_lt.1 h') (List.not_lt.1 h)))
theorem find_mem : ∀ {st : St} {p : Bs} {n : PN}, find st p = some n → (p, n) ∈ st
  | [], _, _, h => by cases h
  | (q, m) :: r, p, n, h => by
    rw [find] at h
    split at h
    · rename_i e; injection h with h; subst h; subst e; simp
    · exact List.mem_cons_of_mem _ (find_mem h)
theorem find_none : ∀ {st : St} {p : Bs}, find st p = none ↔ ∀ x ∈ st, x.1 ≠ p
  | [], _ => by simp [find]
  | (q, m) :: r, p => by
    rw [find]
    split
    · rename_i e; simp [e]
    · rename_i e; rw [find_none]; simp [e]
theorem find_of_mem : ∀ {st : St} {p : Bs} {n : PN}, Rising st → (p, n) ∈ st → find st p = some n
  | [], _, _, _, h => by simp at h
  | (q, m) :: r, p, n, hs, h => by
    obtain ⟨h1, h2⟩ := List.pairwise_cons.1 hs
    rcases List.mem_cons.1 h with e | h
    · injection e with e1 e2; subst e1; subst e2; rw [find, if_pos rfl]
    · rw [find, if_neg (fun e => by have := h1 _ h; dsimp only at this; rw [e] at this; exact List.lt_irrefl p this), find_of_mem h2 h]
theorem find_put : ∀ (st : St) (p : Bs) (n : PN) (q : Bs), find (putSt st p n) q = if q = p then some n else find st q
  | [], p, n, q => by
    simp only [putSt, find]
    by_cases h : q = p
    · simp [h]
    · simp [h, Ne.symm h]
  | (k, m) :: r, p, n, q => by
    rw [putSt]
    split
    · rename_i e; subst e
      rw [find, find]; by_cases h : q = k
      · simp [h]
      · simp [h, Ne.symm h]
    · rename_i e
      split
      · rw [find]
        by_cases h : q = p
        · simp [h]
        · simp [h, Ne.symm h]
      · rw [find, find, find_put r p n q]
        by_cases h : q = p
        · subst h; simp [e]
        · simp [h]
theorem find_del : ∀ (st : St) (p q : Bs), find (delSt st p) q = if q = p then none else find st q
  | [], p, q => by simp [delSt, find]
  | (k, m) :: r, p, q => by
    have ih := find_del r p q
    unfold delSt at ih ⊢
    rw [List.filter_cons]
    by_cases hk : k = p
    · subst hk
      simp only [ne_eq, not_true_eq_false, decide_false, Bool.false_eq_true, if_false]
      rw [ih, find]
      by_cases h : q = k
      · simp [h]
      · simp [h, Ne.symm h]
    · simp only [ne_eq, hk, not_false_eq_true, decide_true, if_true]
      rw [find, find, ih]
      by_cases h : q = p
      · subst h; simp [hk]
      · simp [h]
theorem mem_put : ∀ {st : St} {p : Bs} {n : PN} {x : Bs × PN}, x ∈ putSt st p n → x = (p, n) ∨ x ∈ st
  | [], p, n, x, h => by simp [putSt] at h; exact Or.inl h
  | (k, m) :: r, p, n, x, h => by
    rw [putSt] at h
    split at h
    · rcases List.mem_cons.1 h with e | h
      · exact Or.inl e
      · exact Or.inr (by simp [h])
    · split at h
      · rcases List.mem_cons.1 h with e | h
        · exact Or.inl e
        · exact Or.inr h
      · rcases List.mem_cons.1 h with e | h
        · exact Or.inr (by simp [e])
        · rcases mem_put h with e | h
          · exact Or.inl e
          · exact Or.inr (by simp [h])
theorem rising_put : ∀ {st : St} (p : Bs) (n : PN), Rising st → Rising (putSt st p n)
  | [], p, n, _ => by simp [putSt, Rising]
  | (k, m) :: r, p, n, hs => by
    obtain ⟨h1, h2⟩ := List.pairwise_cons.1 hs
    rw [putSt]
    split
    · rename_i e; subst e
      exact List.pairwise_cons.2 ⟨h1, h2⟩
    · rename_i e
      split
      · rename_i hl
        refine List.pairwise_cons.2 ⟨fun x hx => ?_, hs⟩
        rcases List.mem_cons.1 hx with rfl | hx
        · exact hl
        · exact List.lt_trans hl (h1 x hx)
      · rename_i hl
        refine List.pairwise_cons.2 ⟨fun x hx => ?_, rising_put p n h2⟩
        rcases mem_put hx with rfl | hx
        · rcases lt_tri k p with h | h | h
          · exact h
          · exact absurd h e
          · exact absurd h hl
        · exact h1 x hx
theorem rising_del {st : St} (p : Bs) (hs : Rising st) : Rising (delSt st p) := List.Pairwise.filter _ hs
theorem wt_cons (x : Bs × PN) (st : St) : wt (x :: st) = wt st + 1 + x.2.data.length := by
  unfold wt bytesOf; simp only [List.map_cons, List.sum_cons, List.length_cons]; omega
/-- What a node weighs; nothing: nought. -/
def own1 : Option PN → Nat
  | none => 0
  | some n => 1 + n.data.length
theorem wt_put : ∀ {st : St} (p : Bs) (n : PN), Rising st → wt (putSt st p n) + own1 (find st p) = wt st + 1 + n.data.length
  | [], p, n, _ => by simp [putSt, find, own1, wt, bytesOf]
  | (k, m) :: r, p, n, hs => by
    obtain ⟨h1, h2⟩ := List.pairwise_cons.1 hs
    rw [putSt, find]
    split
    · rename_i e; subst e; rw [wt_cons, wt_cons]; simp only [own1]; omega
    · rename_i e
      split
      · rename_i hl
        have : find r p = none := find_none.2 fun x hx e' => by
          have := h1 x hx; rw [e'] at this
          exact List.lt_irrefl p (List.lt_trans hl this)
        rw [this, wt_cons]; simp only [own1]; omega
      · rw [wt_cons, wt_cons]
        have := wt_put p n h2
        omega
theorem len_put : ∀ {st : St} (p : Bs) (n : PN), Rising st → (putSt st p n).length = st.length + if (find st p).isSome then 0 else 1
  | [], p, n, _ => by simp [putSt, find]
  | (k, m) :: r, p, n, hs => by
    obtain ⟨h1, h2⟩ := List.pairwise_cons.1 hs
    rw [putSt, find]
    split
    · simp
    · split
      · rename_i hl
        have : find r p = none := find_none.2 fun x hx e' => by
          have := h1 x hx; rw [e'] at this
          exact List.lt_irrefl p (List.lt_trans hl this)
        rw [this]; simp
      · have := len_put p n h2
        simp only [List.length_cons, this]; omega
theorem del_none {st : St} {p : Bs} (h : find st p = none) : delSt st p = st := by
  unfold delSt
  rw [List.filter_eq_self]
  intro x hx
  simpa using find_none.1 h x hx
theorem wt_del : ∀ {st : St} (p : Bs), Rising st → wt (delSt st p) + own1 (find st p) = wt st
  | [], p, _ => by simp [delSt, find, own1]
  | (k, m) :: r, p, hs => by
    obtain ⟨h1, h2⟩ := List.pairwise_cons.1 hs
    by_cases hk : k = p
    · subst hk
      have : find r k = none := find_none.2 fun x hx e' => by
        have := h1 x hx; rw [e'] at this; exact List.lt_irrefl k this
      have e : delSt ((k, m) :: r) k = r := by
        have := del_none this
        unfold delSt at this ⊢
        rw [List.filter_cons]; simp only [ne_eq, not_true_eq_false, decide_false, Bool.false_eq_true, if_false]; exact this
      rw [e, find, if_pos rfl, wt_cons]; simp only [own1]; omega
    · have e : delSt ((k, m) :: r) p = (k, m) :: delSt r p := by
        unfold delSt; rw [List.filter_cons]; simp [hk]
      rw [e, find, if_neg hk, wt_cons, wt_cons]
      have := wt_del p h2
      omega
theorem len_del : ∀ {st : St} (p : Bs), Rising st → (delSt st p).length + (if (find st p).isSome then 1 else 0) = st.length
  | [], p, _ => by simp [delSt, find]
  | (k, m) :: r, p, hs => by
    obtain ⟨h1, h2⟩ := List.pairwise_cons.1 hs
    by_cases hk : k = p
    · subst hk
      have : find r k = none := find_none.2 fun x hx e' => by
        have := h1 x hx; rw [e'] at this; exact List.lt_irrefl k this
      have e : delSt ((k, m) :: r) k = r := by
        have := del_none this
        unfold delSt at this ⊢
        rw [List.filter_cons]; simp only [ne_eq, not_true_eq_false, decide_false, Bool.false_eq_true, if_false]; exact this
      rw [e, find, if_pos rfl]; simp
    · have e : delSt ((k, m) :: r) p = (k, m) :: delSt r p := by
        unfold delSt; rw [List.filter_cons]; simp [hk]
      rw [e, find, if_neg hk]
      have := len_del p h2
      simp only [List.length_cons]; omega
theorem own1_le {st : St} {p : Bs} (hs : Rising st) : own1 (find st p) ≤ wt st := by have := wt_del p hs; omega
theorem find_len {st : St} {p : Bs} {n : PN} (hs : Rising st) (h : find st p = some n) : 1 + n.data.length ≤ wt st := by
  have := own1_le (p := p) hs; rw [h] at this; exact this

/-- What is looked for. -/
inductive LookR where
  | err (e : Int)
  | root
  | none
  | node (n : PN)
def chk (st : St) : List Bs → Option Int
  | [] => Option.none
  | u :: r => match find st u with
    | Option.none => some 10
    | some n => if n.dir then chk st r else some 11
def lookT (st : St) (q : Bs) : LookR :=
  match chk st (ups q) with
  | some e => .err e
  | Option.none => match find st q with
    | some n => .node n
    | Option.none => .none
/-- look, over a clean path. -/
def lookQ (st : St) (q : Bs) : LookR := if validB q = false then .err 16 else if q = [] then .root else lookT st q
theorem lookT_err {st : St} {q : Bs} {e : Int} (h : chk st (ups q) = some e) : lookT st q = .err e := by unfold lookT; rw [h]
theorem lookT_none {st : St} {q : Bs} (h : chk st (ups q) = Option.none) (h' : find st q = Option.none) : lookT st q = .none := by unfold lookT; rw [h]; simp only [h']
theorem lookT_some {st : St} {q : Bs} {n : PN} (h : chk st (ups q) = Option.none) (h' : find st q = some n) : lookT st q = .node n := by unfold lookT; rw [h]; simp only [h']
theorem chk_none {st : St} {u : Bs} {r : List Bs} (h : find st u = Option.none) : chk st (u :: r) = some 10 := by rw [chk, h]
theorem chk_file {st : St} {u : Bs} {r : List Bs} {n : PN} (h : find st u = some n) (hd : n.dir = false) : chk st (u :: r) = some 11 := by rw [chk, h]; simp [hd]
theorem chk_dir {st : St} {u : Bs} {r : List Bs} {n : PN} (h : find st u = some n) (hd : n.dir = true) : chk st (u :: r) = chk st r := by rw [chk, h]; simp [hd]
end Go.Proofs.YtejofgdglpmlkaaGreatDoor
namespace Go.Proofs.YtejofgdglpmlkaaGreatDoor
open Go.RowKit

/-- How a pointer to a node reads: by its block's number. -/
def ptrElem : Value → Option (DataW Unit × List MemPlace)
  | .pointer none => some (.nil, [])
  | .pointer (some ⟨b, 0, none⟩) => some (.lit (.int .i64 b), [])
  | _ => none
theorem ptrElem_none : ptrElem (.pointer none) = some (.nil, []) := rfl
theorem ptrElem_some (b : Nat) : ptrElem (.pointer (some ⟨b, 0, none⟩)) = some (.lit (.int .i64 b), []) := rfl
theorem ptrElem_inv {v : Value} {z : DataW Unit × List MemPlace} (h : ptrElem v = some z) : (v = .pointer none ∧ z = (.nil, [])) ∨ ∃ b : Nat, v = .pointer (some ⟨b, 0, none⟩) ∧ z = (.lit (.int .i64 b), []) := by
  unfold ptrElem at h
  split at h
  · injection h with h; exact Or.inl ⟨rfl, h.symm⟩
  · injection h with h; exact Or.inr ⟨_, rfl, h.symm⟩
  · cases h
theorem lawS : Maps.Keyed Tryz.prog 9 := Maps.string_keyed Tryz.underlying9
theorem keyS (s : ByteArray) (h : s.size ≤ maxLen) : keyOf Tryz.prog 9 (.string s) = some (.string s.data.toList) := Go.WideMaps.keyOf_string_mk Tryz.underlying9 h
theorem zeroP (w : World) : (zeroValue 59).run Tryz.prog w = .ok (.pointer none) w := by kernel_rfl

/-- The pointer that lies at a path. -/
def ptrAt (st : St) (N : Bs → Nat) (p : Bs) : Value := match find st p with
  | none => .pointer none
  | some _ => .pointer (some ⟨N p, 0, none⟩)
def datAt (st : St) (N : Bs → Nat) (p : Bs) : DataW Unit := match find st p with
  | none => .nil
  | some _ => .lit (.int .i64 (N p))
/-- Block mb is a map from just the paths of st to their nodes' blocks. -/
def MapAt (w : World) (mb : Nat) (N : Bs → Nat) (st : St) : Prop :=
  ∃ D : DataW Unit, w.ownsMap Tryz.prog 9 ptrElem mb (Maps.size D) D ∧ Maps.size D = st.length ∧ ∀ p : Bs, p.length ≤ maxLen → D.atKey (.string p) .nil = datAt st N p ∧ Maps.has D (.string p) = (find st p).isSome
theorem ownsMap_tight {w : World} {b n : Nat} {D : DataW Unit} (h : w.ownsMap Tryz.prog 9 ptrElem b n D) : w.ownsMap Tryz.prog 9 ptrElem b (Maps.size D) D := by
  obtain ⟨es, clock, hb, F, hs, rfl⟩ := h
  exact ⟨es, clock, hb, F, by simp [Maps.size, length_sorted], rfl⟩
theorem MapAt.of_heap {w w' : World} {mb : Nat} {N : Bs → Nat} {st : St} (h : MapAt w mb N st) (e : w'.heap[mb]? = w.heap[mb]?) : MapAt w' mb N st := by
  obtain ⟨D, ⟨es, clock, hb, r⟩, h2⟩ := h
  exact ⟨D, ⟨es, clock, e.trans hb, r⟩, h2⟩
theorem MapAt.lt {w : World} {mb : Nat} {N : Bs → Nat} {st : St} (h : MapAt w mb N st) : mb < w.heap.size := by
  obtain ⟨D, h1, _⟩ := h; exact h1.lt
theorem MapAt.look {w : World} {mb : Nat} {N : Bs → Nat} {st : St} (h : MapAt w mb N st) (s : ByteArray) (hs : s.size ≤ maxLen) : (Instr.lookup 56 (.map (some mb)) (.string s) false).run Tryz.prog w = .ok (ptrAt st N s.data.toList) w := by
  obtain ⟨D, h1, h2, h3⟩ := h
  obtain ⟨v, ps, hrun, hv⟩ := h1.lookup lawS Tryz.underlying56 (zeroP w) ptrElem_none (keyS s hs)
  have := (h3 s.data.toList (by rw [← Go.Lib.size_eq]; exact hs)).1
  rw [this] at hv
  have hvp : v = ptrAt st N s.data.toList := by
    clear hrun this
    unfold datAt at hv
    unfold ptrAt
    cases hf : find st s.data.toList with
    | none =>
      simp only [hf] at hv
      rcases ptrElem_inv hv with ⟨h, _⟩ | ⟨b, _, e⟩
      · exact h
      · injection e with e1; cases e1
    | some nd =>
      simp only [hf] at hv
      rcases ptrElem_inv hv with ⟨_, e⟩ | ⟨b, h, e⟩
      · injection e with e1; cases e1
      · injection e with e1; injection e1 with e1; injection e1 with _ e1
        have : N s.data.toList = b := by omega
        rw [h]; simp only [this]
  rw [hrun, hvp]
theorem MapAt.len {w : World} {mb : Nat} {N : Bs → Nat} {st : St} (h : MapAt w mb N st) (ty : TypeId) : (Builtin.len_ #[56] ty #[.map (some mb)]).run Tryz.prog w = .ok (.int .i64 st.length) w := by
  obtain ⟨D, h1, h2, h3⟩ := h
  rw [h1.len Tryz.underlying56 ty, h2]
theorem MapAt.put {w : World} {mb nb : Nat} {N : Bs → Nat} {st : St} (h : MapAt w mb N st) (hr : Rising st) (s : ByteArray) (hs : s.size ≤ maxLen) (hn : st.length < maxLen) (n : PN) :
    ∃ w', (Instr.mapUpdate 56 (.map (some mb)) (.string s) (.pointer (some ⟨nb, 0, none⟩))).run Tryz.prog w = .ok () w' ∧ MapAt w' mb (fun q => if q = s.data.toList then nb else N q) (putSt st s.data.toList n) ∧ w.grownBy w' (some mb) ∧ w'.heap.size = w.heap.size := by
  obtain ⟨D, h1, h2, h3⟩ := h
  obtain ⟨w', hrun, ho, hg⟩ := h1.store lawS Tryz.underlying56 (by rw [h2]; exact hn) (keyS s hs) (ptrElem_some nb)
  have hsl : s.data.toList.length ≤ maxLen := by rw [← Go.Lib.size_eq]; exact hs
  have hkl : WideAt.IsKeyLit (.string s.data.toList) := lawS.key (keyS s hs)
  refine ⟨w', hrun, ⟨_, ownsMap_tight ho, ?_, fun p hp => ?_⟩, hg.grown, ?_⟩
  · rw [Maps.size_put (h1.tidy lawS), len_put _ n hr, (h3 _ hsl).2, h2]
    cases (find st s.data.toList).isSome <;> simp
  · unfold datAt
    rw [find_put]
    by_cases e : p = s.data.toList
    · subst e
      rw [Maps.atKey_put_same h1.isMap hkl, Maps.has_put_same h1.isMap hkl]
      simp
    · have hne : (Lit.string p) ≠ .string s.data.toList := fun e' => e (by injection e')
      rw [Maps.atKey_put_other hne, Maps.has_put_other hne, (h3 p hp).1, (h3 p hp).2]
      simp [e, datAt]
  · obtain ⟨es, clock, es', clock', _, rfl⟩ := hg
    simp [ChangeMaps.setBlock]
theorem MapAt.del {w : World} {mb : Nat} {N : Bs → Nat} {st : St} (h : MapAt w mb N st) (hr : Rising st) (s : ByteArray) (hs : s.size ≤ maxLen) (ty : TypeId) :
    ∃ w', (Builtin.delete_ #[56, 9] ty #[.map (some mb), .string s]).run Tryz.prog w = .ok (.tuple #[]) w' ∧ MapAt w' mb N (delSt st s.data.toList) ∧ w.grownBy w' (some mb) ∧ w'.heap.size = w.heap.size := by
  obtain ⟨D, h1, h2, h3⟩ := h
  obtain ⟨w', hrun, ho, hg⟩ := h1.drop lawS Tryz.underlying56 (keyS s hs) ty
  have hsl : s.data.toList.length ≤ maxLen := by rw [← Go.Lib.size_eq]; exact hs
  have hkl : WideAt.IsKeyLit (.string s.data.toList) := lawS.key (keyS s hs)
  refine ⟨w', hrun, ⟨_, ownsMap_tight ho, ?_, fun p hp => ?_⟩, hg.grown, ?_⟩
  · have h4 := len_del s.data.toList hr
    have h5 := Maps.size_del (k := .string s.data.toList) (h1.tidy lawS)
    rw [(h3 _ hsl).2, h2] at h5
    omega
  · unfold datAt
    rw [find_del]
    by_cases e : p = s.data.toList
    · subst e
      rw [Maps.atKey_del_same, Maps.has_del_same]
      simp
    · have hne : (Lit.string p) ≠ .string s.data.toList := fun e' => e (by injection e')
      rw [Maps.atKey_del_other hne, Maps.has_del_other hne, (h3 p hp).1, (h3 p hp).2]
      simp [e, datAt]
  · obtain ⟨es, clock, es', clock', _, rfl⟩ := hg
    simp [ChangeMaps.setBlock]
end Go.Proofs.YtejofgdglpmlkaaGreatDoor
namespace Go.Proofs.YtejofgdglpmlkaaGreatDoor
open Go.RowKit

def BytesAt (w : World) (v : Value) (d : Bs) (S : Nat → Prop) : Prop :=
  ∃ a c, v = .slice a d.length c ∧ d.length ≤ c ∧ c ≤ maxLen ∧ (a = none → c = 0) ∧ (0 < d.length → ∃ b off, a = some ⟨b, off, none⟩ ∧ S b ∧ b < w.heap.size ∧ ∀ (k : Nat) (x : UInt8), d[k]? = some x → w.cell? ⟨b, off + k, none⟩ = some (.int .u8 x.toNat))
theorem lt_of_heap {w w' : World} {b : Nat} (hb : b < w.heap.size) (e : w'.heap[b]? = w.heap[b]?) : b < w'.heap.size := by
  rw [Array.getElem?_eq_getElem hb] at e
  exact (Array.getElem?_eq_some_iff.1 e).1
theorem BytesAt.of_heap {w w' : World} {v : Value} {d : Bs} {S S' : Nat → Prop} (h : BytesAt w v d S) (he : ∀ k, S k → w'.heap[k]? = w.heap[k]?) (hS : ∀ k, S k → S' k) : BytesAt w' v d S' := by
  obtain ⟨a, c, h1, h2, h3, h4, h5⟩ := h
  refine ⟨a, c, h1, h2, h3, h4, fun h0 => ?_⟩
  obtain ⟨b, off, e1, e2, e3, e4⟩ := h5 h0
  exact ⟨b, off, e1, hS _ e2, lt_of_heap e3 (he b e2), fun k x hk => (World.cell?_of_block (a := ⟨b, off + k, none⟩) (he b e2)).trans (e4 k x hk)⟩
theorem BytesAt.nil (w : World) (S : Nat → Prop) : BytesAt w (.slice none 0 0) [] S := ⟨none, 0, rfl, Nat.le_refl _, Nat.zero_le _, fun _ => rfl, fun h => absurd h (Nat.lt_irrefl _)⟩
theorem BytesAt.form {w : World} {v : Value} {d : Bs} {S : Nat → Prop} (h : BytesAt w v d S) : ∃ a c, v = .slice a d.length c := by
  obtain ⟨a, c, h1, _⟩ := h; exact ⟨a, c, h1⟩
def NodeAt (w : World) (nb : Nat) (nd : PN) (S : Nat → Prop) : Prop :=
  ∃ v, w.heap[nb]? = some (.cells #[.bool nd.dir, .int .i64 nd.time, v] 61 (0, 0)) ∧ BytesAt w v nd.data S
theorem NodeAt.of_heap {w w' : World} {nb : Nat} {nd : PN} {S S' : Nat → Prop} (h : NodeAt w nb nd S) (hn : S nb) (he : ∀ k, S k → w'.heap[k]? = w.heap[k]?) (hS : ∀ k, S k → S' k) : NodeAt w' nb nd S' := by
  obtain ⟨v, h1, h2⟩ := h
  exact ⟨v, (he nb hn).trans h1, h2.of_heap he hS⟩
/-- Of what was there nothing has turned but blocks of S. -/
structure Kept (S : Nat → Prop) (w w' : World) : Prop where
  os : w'.os = w.os
  tape : w'.tape = w.tape
  output : w'.output = w.output
  size : w.heap.size ≤ w'.heap.size
  block : ∀ k, k < w.heap.size → ¬ S k → w'.heap[k]? = w.heap[k]?
theorem Kept.refl (S : Nat → Prop) (w : World) : Kept S w w := ⟨rfl, rfl, rfl, Nat.le_refl _, fun _ _ _ => rfl⟩
theorem Kept.of_below {S : Nat → Prop} {w w' : World} (h : Below w.heap.size w w') : Kept S w w' := ⟨h.os, h.tape, h.output, h.size, fun k hk _ => h.block k hk⟩
theorem Kept.trans {S S' : Nat → Prop} {w w1 w2 : World} (h : Kept S w w1) (h' : Kept S' w1 w2) (hs : ∀ k, S' k → S k ∨ w.heap.size ≤ k) : Kept S w w2 :=
  ⟨h'.os.trans h.os, h'.tape.trans h.tape, h'.output.trans h.output, Nat.le_trans h.size h'.size, fun k hk hn =>
    (h'.block k (Nat.lt_of_lt_of_le hk h.size) fun hk' => (hs k hk').elim hn fun h0 => by omega).trans (h.block k hk hn)⟩
theorem Kept.then {S : Nat → Prop} {w w1 w2 : World} (h : Kept S w w1) (h' : Below w1.heap.size w1 w2) : Kept S w w2 := h.trans (S' := fun _ => False) (Kept.of_below h') (fun _ h => h.elim)
theorem Below.kept {S : Nat → Prop} {w w1 w2 : World} (h : Below w.heap.size w w1) (h' : Kept S w1 w2) : Kept S w w2 := (Kept.of_below h).trans h' fun _ h => Or.inl h
theorem Kept.grown {S : Nat → Prop} {w w' : World} {row : Option Nat} (h : w.grownBy w' row) (hr : ∀ k, row = some k → S k) : Kept S w w' :=
  ⟨h.os, h.tape, h.output, h.size, fun k hk hn => h.block k hk fun e => hn (hr k e.symm)⟩
theorem Kept.weaken {S S' : Nat → Prop} {w w' : World} (h : Kept S w w') (hs : ∀ k, S k → S' k) : Kept S' w w' := ⟨h.os, h.tape, h.output, h.size, fun k hk hn => h.block k hk fun h' => hn (hs k h')⟩
theorem Kept.drewN {S : Nat → Prop} {w w' : World} (h : Kept S w w') (n : Nat) : Kept S w (w'.drewN n) := h.then (below_drewN' (Below.refl _ _) n)

structure FsIn (w : World) (f mb : Nat) (N : Bs → Nat) (S : Nat → Prop) (st : St) (clock room : Int) : Prop where
  cells : w.heap[f]? = some (.cells #[.map (some mb), .int .i64 clock, .int .i64 room, .int .i64 (wt st)] 58 (0, 0))
  sf : S f
  sm : S mb
  map : MapAt w mb N st
  rising : Rising st
  node : ∀ p nd, find st p = some nd → p.length ≤ 1000 ∧ S (N p) ∧ NodeAt w (N p) nd S
  inj : ∀ p q, (find st p).isSome → (find st q).isSome → N p = N q → p = q
  lt : ∀ b, S b → b < w.heap.size
def FsAt (w : World) (f : Nat) (S : Nat → Prop) (st : St) (clock room : Int) : Prop := ∃ mb N, FsIn w f mb N S st clock room
theorem FsIn.of_heap {w w' : World} {f mb : Nat} {N : Bs → Nat} {S : Nat → Prop} {st : St} {clock room : Int} (h : FsIn w f mb N S st clock room) (he : ∀ k, S k → w'.heap[k]? = w.heap[k]?) : FsIn w' f mb N S st clock room :=
  ⟨(he f h.sf).trans h.cells, h.sf, h.sm, h.map.of_heap (he mb h.sm), h.rising, fun p nd hf => ⟨(h.node p nd hf).1, (h.node p nd hf).2.1, (h.node p nd hf).2.2.of_heap (h.node p nd hf).2.1 he fun _ h => h⟩, h.inj, fun b hb => lt_of_heap (h.lt b hb) (he b hb)⟩
theorem FsIn.below {w w' : World} {f mb : Nat} {N : Bs → Nat} {S : Nat → Prop} {st : St} {clock room : Int} (h : FsIn w f mb N S st clock room) (hb : Below w.heap.size w w') : FsIn w' f mb N S st clock room := h.of_heap fun k hk => hb.block k (h.lt k hk)
theorem FsIn.other {w w' : World} {f mb : Nat} {N : Bs → Nat} {S T : Nat → Prop} {st : St} {clock room : Int} (h : FsIn w f mb N S st clock room) (hb : Kept T w w') (hd : ∀ k, S k → ¬ T k) : FsIn w' f mb N S st clock room := h.of_heap fun k hk => hb.block k (h.lt k hk) (hd k hk)
theorem cells4 {w : World} {b : Nat} {a0 a1 a2 a3 : Value} {t : TypeId} (h : w.heap[b]? = some (.cells #[a0, a1, a2, a3] t (0, 0))) :
    w.cell? ⟨b, 0, none⟩ = some a0 ∧ w.cell? ⟨b, 1, none⟩ = some a1 ∧ w.cell? ⟨b, 2, none⟩ = some a2 ∧ w.cell? ⟨b, 3, none⟩ = some a3 ∧ (∀ o, w.frozen? ⟨b, o, none⟩ = false) := by
  refine ⟨?_, ?_, ?_, ?_, fun o => ?_⟩
  · simp [World.cell?, h]
  · simp [World.cell?, h]
  · simp [World.cell?, h]
  · simp [World.cell?, h]
  · simp [World.frozen?, h]
theorem cells3 {w : World} {b : Nat} {a0 a1 a2 : Value} {t : TypeId} (h : w.heap[b]? = some (.cells #[a0, a1, a2] t (0, 0))) :
    w.cell? ⟨b, 0, none⟩ = some a0 ∧ w.cell? ⟨b, 1, none⟩ = some a1 ∧ w.cell? ⟨b, 2, none⟩ = some a2 ∧ (∀ o, w.frozen? ⟨b, o, none⟩ = false) := by
  refine ⟨?_, ?_, ?_, fun o => ?_⟩
  · simp [World.cell?, h]
  · simp [World.cell?, h]
  · simp [World.cell?, h]
  · simp [World.frozen?, h]
def errV (q : Bs) (e : Int) : Value := .iface 94 (.agg #[.string (mk q), .iface 29 (.int .i64 e)])
def LookV (N : Bs → Nat) (B : Nat) (w : World) (q : Bs) : LookR → Value → Value → Prop
  | .err e, pv, ev => pv = .pointer none ∧ ev = errV q e
  | .root, pv, ev => (∃ g, B ≤ g ∧ w.heap[g]? = some (.cells #[.bool true, .int .i64 0, .slice none 0 0] 61 (0, 0)) ∧ pv = .pointer (some ⟨g, 0, none⟩)) ∧ ev = .nilIface
  | .none, pv, ev => pv = .pointer none ∧ ev = .nilIface
  | .node _, pv, ev => pv = .pointer (some ⟨N q, 0, none⟩) ∧ ev = .nilIface
end Go.Proofs.YtejofgdglpmlkaaGreatDoor
