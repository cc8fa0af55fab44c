/-
  A file system in memory: its struct, its map, its nodes. Conditions: none.
-/
import Derived.Test.YtnnepcodghfcmaaGreatDoorVValid
import Derived.Test.YtnnepcodghfcmaaGreatDoorVSt
import Derived.Maps.RangeWalk
import Derived.StringKeys
import Derived.Sort.KeysCollected
namespace Go.Proofs.YtnnepcodghfcmaaGreatDoor
open Go.RowKit

/-- How a pointer to a node reads: by its block's number. -/
def ptrElem : Value → Option (DataW Unit × List MemPlace)
  | .pointer none => some (.nil, [])
  | .pointer (some ⟨b, 0, none⟩) => some (.lit (.int .i64 b), [])
  | _ => none
theorem ptrElem_none : ptrElem (.pointer none) = some (.nil, []) := rfl
theorem ptrElem_some (b : Nat) : ptrElem (.pointer (some ⟨b, 0, none⟩)) = some (.lit (.int .i64 b), []) := rfl
theorem ptrElem_inv {v : Value} {z : DataW Unit × List MemPlace} (h : ptrElem v = some z) : (v = .pointer none ∧ z = (.nil, [])) ∨ ∃ b : Nat, v = .pointer (some ⟨b, 0, none⟩) ∧ z = (.lit (.int .i64 b), []) := by
  unfold ptrElem at h
  split at h
  · injection h with h; exact Or.inl ⟨rfl, h.symm⟩
  · injection h with h; exact Or.inr ⟨_, rfl, h.symm⟩
  · cases h
theorem lawS : Maps.Keyed Tryz.prog 9 := Maps.string_keyed Tryz.underlying9
theorem keyS (s : ByteArray) (h : s.size ≤ maxLen) : keyOf Tryz.prog 9 (.string s) = some (.string s.data.toList) := Go.WideMaps.keyOf_string_mk Tryz.underlying9 h
theorem zeroP (w : World) : (zeroValue 55).run Tryz.prog w = .ok (.pointer none) w := by kernel_rfl

/-- The pointer that lies at a path. -/
def ptrAt (st : St) (N : Bs → Nat) (p : Bs) : Value := match find st p with
  | none => .pointer none
  | some _ => .pointer (some ⟨N p, 0, none⟩)
def datAt (st : St) (N : Bs → Nat) (p : Bs) : DataW Unit := match find st p with
  | none => .nil
  | some _ => .lit (.int .i64 (N p))
/-- Block mb is a map from just the paths of st to their nodes' blocks. -/
def MapAt (w : World) (mb : Nat) (N : Bs → Nat) (st : St) : Prop :=
  ∃ D : DataW Unit, w.ownsMap Tryz.prog 9 ptrElem mb (Maps.size D) D ∧ Maps.size D = st.length ∧ ∀ p : Bs, p.length ≤ maxLen → D.atKey (.string p) .nil = datAt st N p ∧ Maps.has D (.string p) = (find st p).isSome
theorem ownsMap_tight {w : World} {b n : Nat} {D : DataW Unit} (h : w.ownsMap Tryz.prog 9 ptrElem b n D) : w.ownsMap Tryz.prog 9 ptrElem b (Maps.size D) D := by
  obtain ⟨es, clock, hb, F, hs, rfl⟩ := h
  exact ⟨es, clock, hb, F, by simp [Maps.size, length_sorted], rfl⟩
theorem MapAt.of_heap {w w' : World} {mb : Nat} {N : Bs → Nat} {st : St} (h : MapAt w mb N st) (e : w'.heap[mb]? = w.heap[mb]?) : MapAt w' mb N st := by
  obtain ⟨D, ⟨es, clock, hb, r⟩, h2⟩ := h
  exact ⟨D, ⟨es, clock, e.trans hb, r⟩, h2⟩
theorem MapAt.lt {w : World} {mb : Nat} {N : Bs → Nat} {st : St} (h : MapAt w mb N st) : mb < w.heap.size := by
  obtain ⟨D, h1, _⟩ := h; exact h1.lt
theorem MapAt.look {w : World} {mb : Nat} {N : Bs → Nat} {st : St} (h : MapAt w mb N st) (s : ByteArray) (hs : s.size ≤ maxLen) : (Instr.lookup 50 (.map (some mb)) (.string s) false).run Tryz.prog w = .ok (ptrAt st N s.data.toList) w := by
  obtain ⟨D, h1, h2, h3⟩ := h
  obtain ⟨v, ps, hrun, hv⟩ := h1.lookup lawS Tryz.underlying50 (zeroP w) ptrElem_none (keyS s hs)
  have := (h3 s.data.toList (by rw [← Go.Lib.size_eq]; exact hs)).1
  rw [this] at hv
  have hvp : v = ptrAt st N s.data.toList := by
    clear hrun this
    unfold datAt at hv
    unfold ptrAt
    cases hf : find st s.data.toList with
    | none =>
      simp only [hf] at hv
      rcases ptrElem_inv hv with ⟨h, _⟩ | ⟨b, _, e⟩
      · exact h
      · injection e with e1; cases e1
    | some nd =>
      simp only [hf] at hv
      rcases ptrElem_inv hv with ⟨_, e⟩ | ⟨b, h, e⟩
      · injection e with e1; cases e1
      · injection e with e1; injection e1 with e1; injection e1 with _ e1
        have : N s.data.toList = b := by omega
        rw [h]; simp only [this]
  rw [hrun, hvp]
theorem MapAt.len {w : World} {mb : Nat} {N : Bs → Nat} {st : St} (h : MapAt w mb N st) (ty : TypeId) : (Builtin.len_ #[50] ty #[.map (some mb)]).run Tryz.prog w = .ok (.int .i64 st.length) w := by
  obtain ⟨D, h1, h2, h3⟩ := h
  rw [h1.len Tryz.underlying50 ty, h2]
theorem MapAt.put {w : World} {mb nb : Nat} {N : Bs → Nat} {st : St} (h : MapAt w mb N st) (hr : Rising st) (s : ByteArray) (hs : s.size ≤ maxLen) (hn : st.length < maxLen) (n : PN) :
    ∃ w', (Instr.mapUpdate 50 (.map (some mb)) (.string s) (.pointer (some ⟨nb, 0, none⟩))).run Tryz.prog w = .ok () w' ∧ MapAt w' mb (fun q => if q = s.data.toList then nb else N q) (putSt st s.data.toList n) ∧ w.grownBy w' (some mb) ∧ w'.heap.size = w.heap.size := by
  obtain ⟨D, h1, h2, h3⟩ := h
  obtain ⟨w', hrun, ho, hg⟩ := h1.store lawS Tryz.underlying50 (by rw [h2]; exact hn) (keyS s hs) (ptrElem_some nb)
  have hsl : s.data.toList.length ≤ maxLen := by rw [← Go.Lib.size_eq]; exact hs
  have hkl : WideAt.IsKeyLit (.string s.data.toList) := lawS.key (keyS s hs)
  refine ⟨w', hrun, ⟨_, ownsMap_tight ho, ?_, fun p hp => ?_⟩, hg.grown, ?_⟩
  · rw [Maps.size_put (h1.tidy lawS), len_put _ n hr, (h3 _ hsl).2, h2]
    cases (find st s.data.toList).isSome <;> simp
  · unfold datAt
    rw [find_put]
    by_cases e : p = s.data.toList
    · subst e
      rw [Maps.atKey_put_same h1.isMap hkl, Maps.has_put_same h1.isMap hkl]
      simp
    · have hne : (Lit.string p) ≠ .string s.data.toList := fun e' => e (by injection e')
      rw [Maps.atKey_put_other hne, Maps.has_put_other hne, (h3 p hp).1, (h3 p hp).2]
      simp [e, datAt]
  · obtain ⟨es, clock, es', clock', _, rfl⟩ := hg
    simp [ChangeMaps.setBlock]
theorem MapAt.del {w : World} {mb : Nat} {N : Bs → Nat} {st : St} (h : MapAt w mb N st) (hr : Rising st) (s : ByteArray) (hs : s.size ≤ maxLen) (ty : TypeId) :
    ∃ w', (Builtin.delete_ #[50, 9] ty #[.map (some mb), .string s]).run Tryz.prog w = .ok (.tuple #[]) w' ∧ MapAt w' mb N (delSt st s.data.toList) ∧ w.grownBy w' (some mb) ∧ w'.heap.size = w.heap.size := by
  obtain ⟨D, h1, h2, h3⟩ := h
  obtain ⟨w', hrun, ho, hg⟩ := h1.drop lawS Tryz.underlying50 (keyS s hs) ty
  have hsl : s.data.toList.length ≤ maxLen := by rw [← Go.Lib.size_eq]; exact hs
  have hkl : WideAt.IsKeyLit (.string s.data.toList) := lawS.key (keyS s hs)
  refine ⟨w', hrun, ⟨_, ownsMap_tight ho, ?_, fun p hp => ?_⟩, hg.grown, ?_⟩
  · have h4 := len_del s.data.toList hr
    have h5 := Maps.size_del (k := .string s.data.toList) (h1.tidy lawS)
    rw [(h3 _ hsl).2, h2] at h5
    omega
  · unfold datAt
    rw [find_del]
    by_cases e : p = s.data.toList
    · subst e
      rw [Maps.atKey_del_same, Maps.has_del_same]
      simp
    · have hne : (Lit.string p) ≠ .string s.data.toList := fun e' => e (by injection e')
      rw [Maps.atKey_del_other hne, Maps.has_del_other hne, (h3 p hp).1, (h3 p hp).2]
      simp [e, datAt]
  · obtain ⟨es, clock, es', clock', _, rfl⟩ := hg
    simp [ChangeMaps.setBlock]
end Go.Proofs.YtnnepcodghfcmaaGreatDoor
