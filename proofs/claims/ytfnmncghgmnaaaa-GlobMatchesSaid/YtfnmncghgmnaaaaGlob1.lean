/-
  glob.set (function 37): what a set that is read comes to, with its two captured cells in new memory. Condition: the pattern has at most 1,000,000 bytes.
-/
import Derived.Test.YtfnmncghgmnaaaaShelf
import Derived.Test.YtfnmncghgmnaaaaGlobPure
import Derived.WalkKit
import Derived.WalkSpells
import Derived.WalkLawsBesides
import Derived.Outline
import Derived.Lib.Hide
import Derived.Lib.IndexBytes
namespace Go.Proofs.Ytfnmncghgmnaaaa
open Go.RowKit

theorem set_at_none {l : List UInt8} {j : Nat} {r : List UInt8} (hr : Gl.body r = l.drop j) (hj : l.length ≤ j) : Gl.setOf r = none := by
  unfold Gl.setOf; rw [hr, List.drop_of_length_le hj]
theorem set_at {l : List UInt8} {j : Nat} {r : List UInt8} (hr : Gl.body r = l.drop j) (hj : j < l.length) :
    Gl.setOf r = match Gl.idx 93 (l.drop (j + 1)) with | some e => some (Gl.neg r, (l.drop j).take (e + 1), l.drop (j + 1 + (e + 1))) | none => none := by
  unfold Gl.setOf; rw [hr]
  cases h : Gl.idx 93 (l.drop (j + 1)) with
  | none => rw [List.drop_eq_getElem_cons hj]; simp [h]
  | some e =>
    have e1 : (l.drop j).take (e + 1) = l[j] :: (l.drop (j + 1)).take e := by rw [List.drop_eq_getElem_cons hj, List.take_succ_cons]
    rw [List.drop_eq_getElem_cons hj]; simp [h]; exact e1.symm

/-- What a set that is read comes to. -/
def SetYes (p : ByteArray) (at_ : Nat) (n : Bool) (ms rest : List UInt8) (w : World) (e : Ending) (w' : World) : Prop :=
  Below w.heap.size w w' ∧ ∃ b1 b2 next : Nat, e = .returned (.tuple #[.func (.func 46) #[] #[.pointer (some ⟨b1, 0, none⟩), .pointer (some ⟨b2, 0, none⟩)], .int .i64 next, .bool true]) ∧
    w.heap.size ≤ b1 ∧ w.heap.size ≤ b2 ∧ w'.heap[b1]? = some (.cells #[.string ⟨ms.toArray⟩] 9 (0, 0)) ∧ w'.heap[b2]? = some (.cells #[.bool n] 4 (0, 0)) ∧
    at_ < next ∧ next ≤ p.size ∧ p.data.toList.drop next = rest
def SetPost (p : ByteArray) (at_ : Nat) (w : World) (e : Ending) (w' : World) : Prop :=
  match Gl.setOf (p.data.toList.drop (at_ + 1)) with
  | none => e = .returned (.tuple #[.nilFunc, .int .i64 0, .bool false]) ∧ Below w.heap.size w w'
  | some (n, ms, rest) => SetYes p at_ n ms rest w e w'

theorem setPost_no {p : ByteArray} {at_ : Nat} {w w' : World} {e : Ending} (h : Gl.setOf (p.data.toList.drop (at_ + 1)) = none)
    (he : e = .returned (.tuple #[.nilFunc, .int .i64 0, .bool false])) (hb : Below w.heap.size w w') : SetPost p at_ w e w' := by
  unfold SetPost; rw [h]; exact ⟨he, hb⟩

theorem setPost_yes {p : ByteArray} {at_ j k : Nat} {b : Bool} {w : World} (hn : Gl.neg (p.data.toList.drop (at_ + 1)) = b) (hr : Gl.body (p.data.toList.drop (at_ + 1)) = p.data.toList.drop j)
    (hj : at_ < j) (hk : j + 1 + k < p.size) (hi : Gl.idx 93 (p.data.toList.drop (j + 1)) = some k) :
    SetPost p at_ w (.returned (.tuple #[.func (.func 46) #[] #[.pointer (some ⟨w.heap.size + 1, 0, none⟩), .pointer (some ⟨w.heap.size, 0, none⟩)], .int .i64 ((j : Int) + 1 + k + 1), .bool true]))
      ((w.alloc (.cells #[.bool b] 4)).alloc (.cells #[.string (p.extract j (j + 1 + k))] 9)) := by
  unfold SetPost
  rw [set_at hr (by rw [← Go.Lib.size_eq]; omega), hi]
  have ex : p.extract j (j + 1 + k) = ⟨((p.data.toList.drop j).take (k + 1)).toArray⟩ := by
    have : (p.extract j (j + 1 + k)).data.toList = (p.data.toList.drop j).take (k + 1) := by
      rw [Go.Lib.extract_data, show j + 1 + k - j = k + 1 by omega]
    rw [← this]
  refine ⟨((Below.refl _ _).alloc (Nat.le_refl _) _).alloc (by simp) _, _, _, j + 1 + (k + 1), rfl, by omega, by omega, ?_, ?_, by omega, by omega, rfl⟩
  · rw [ex]; have := heap_alloc_new (w.alloc (.cells #[.bool b] 4)) (.cells #[.string ⟨((p.data.toList.drop j).take (k + 1)).toArray⟩] 9)
    simpa using this
  · have := Below.heap_alloc (w.alloc (.cells #[.bool b] 4)) (.cells #[.string (p.extract j (j + 1 + k))] 9) w.heap.size (by simp)
    rw [this, heap_alloc_new, hn]

theorem drop_cons {p : ByteArray} {j : Nat} (h : j < p.size) : p.data.toList.drop j = p[j] :: p.data.toList.drop (j + 1) := by
  rw [List.drop_eq_getElem_cons (by rw [← Go.Lib.size_eq]; exact h)]; rfl

theorem neg_no {p : ByteArray} {j : Nat} (h : j < p.size) (h1 : ¬ (p[j].toNat : Int) = 33) (h2 : ¬ (p[j].toNat : Int) = 94) :
    Gl.neg (p.data.toList.drop j) = false ∧ Gl.body (p.data.toList.drop j) = p.data.toList.drop j := by
  have e : Gl.neg (p.data.toList.drop j) = false := by
    rw [drop_cons h]
    simp only [Gl.neg, Bool.or_eq_false_iff, beq_eq_false_iff_ne]
    exact ⟨fun e => h1 (by rw [e]; rfl), fun e => h2 (by rw [e]; rfl)⟩
  exact ⟨e, by unfold Gl.body; rw [e]; rfl⟩
theorem neg_yes {p : ByteArray} {j : Nat} (h : j < p.size) (h1 : (p[j].toNat : Int) = 33 ∨ (p[j].toNat : Int) = 94) :
    Gl.neg (p.data.toList.drop j) = true ∧ Gl.body (p.data.toList.drop j) = p.data.toList.drop (j + 1) := by
  have e : Gl.neg (p.data.toList.drop j) = true := by
    rw [drop_cons h]
    simp only [Gl.neg, Bool.or_eq_true, beq_iff_eq]
    rcases h1 with h1 | h1
    · exact Or.inl (UInt8.toNat_inj.1 (by have : p[j].toNat = 33 := by omega
                                          rw [this]; rfl))
    · exact Or.inr (UInt8.toNat_inj.1 (by have : p[j].toNat = 94 := by omega
                                          rw [this]; rfl))
  exact ⟨e, by unfold Gl.body; rw [e, drop_cons h]; rfl⟩

set_option maxHeartbeats 400000 in
theorem set_a (p : ByteArray) (at_ : Nat) (w : World) (hp : p.size ≤ 1000000) (h1 : at_ + 1 < p.size) (c1 : (p[at_ + 1].toNat : Int) = 33) :
    Calls Try.prog 37 #[.string p, .int .i64 at_] w (SetPost p at_ w) := by
  obtain ⟨gn0, gb0⟩ := neg_yes h1 (Or.inl c1)
  have gn := Lib.hid gn0; have gb := Lib.hid gb0; clear gn0 gb0
  by_cases h2 : p.size ≤ at_ + 1 + 1
  · have gs := Lib.hid (set_at_none gb.out (by rw [← Go.Lib.size_eq]; exact h2))
    go_enter Try.func37, Try.ntmps37
    go_wp2_with fail
    go_ret3
    exact setPost_no gs.out rfl ((Below.refl _ _).alloc (Nat.le_refl _) _)
  · have h3 : at_ + 1 + 1 < p.size := by omega
    clear h2
    cases hi0 : Gl.idx 93 (p.data.toList.drop (at_ + 1 + 1 + 1)) with
    | none =>
      have hi := Lib.hid hi0
      have gs := Lib.hid (set_at gb.out (by rw [← Go.Lib.size_eq]; exact h3))
      clear hi0
      go_enter Try.func37, Try.ntmps37
      go_wp2_with fail
      refine (Try.strings_IndexByte _ _ _).mono ?_
      rintro e w' ⟨rfl, rfl⟩
      rw [Go.Lib.extract_to_end, Gl.indexByte_idx, show ((93 : Int).toNat.toUInt8) = 93 by decide, hi.out]
      go_wp2_with fail
      go_ret3
      exact setPost_no (by rw [gs.out, hi.out]) rfl ((Below.refl _ _).alloc (Nat.le_refl _) _)
    | some k =>
      have hi := Lib.hid hi0
      have hk : at_ + 1 + 1 + 1 + k < p.size := by have := Gl.idx_lt hi0; rw [List.length_drop, ← Go.Lib.size_eq] at this; omega
      clear hi0
      go_enter Try.func37, Try.ntmps37
      go_wp2_with fail
      refine (Try.strings_IndexByte _ _ _).mono ?_
      rintro e w' ⟨rfl, rfl⟩
      rw [Go.Lib.extract_to_end, Gl.indexByte_idx, show ((93 : Int).toNat.toUInt8) = 93 by decide, hi.out]
      go_wp2_with fail
      go_ret3
      exact setPost_yes (j := at_ + 1 + 1) gn.out gb.out (by omega) hk hi.out

set_option maxHeartbeats 400000 in
theorem set_b (p : ByteArray) (at_ : Nat) (w : World) (hp : p.size ≤ 1000000) (h1 : at_ + 1 < p.size) (c1 : (p[at_ + 1].toNat : Int) = 94) :
    Calls Try.prog 37 #[.string p, .int .i64 at_] w (SetPost p at_ w) := by
  obtain ⟨gn0, gb0⟩ := neg_yes h1 (Or.inr c1)
  have gn := Lib.hid gn0; have gb := Lib.hid gb0; clear gn0 gb0
  by_cases h2 : p.size ≤ at_ + 1 + 1
  · have gs := Lib.hid (set_at_none gb.out (by rw [← Go.Lib.size_eq]; exact h2))
    go_enter Try.func37, Try.ntmps37
    go_wp2_with fail
    go_ret3
    exact setPost_no gs.out rfl ((Below.refl _ _).alloc (Nat.le_refl _) _)
  · have h3 : at_ + 1 + 1 < p.size := by omega
    clear h2
    cases hi0 : Gl.idx 93 (p.data.toList.drop (at_ + 1 + 1 + 1)) with
    | none =>
      have hi := Lib.hid hi0
      have gs := Lib.hid (set_at gb.out (by rw [← Go.Lib.size_eq]; exact h3))
      clear hi0
      go_enter Try.func37, Try.ntmps37
      go_wp2_with fail
      refine (Try.strings_IndexByte _ _ _).mono ?_
      rintro e w' ⟨rfl, rfl⟩
      rw [Go.Lib.extract_to_end, Gl.indexByte_idx, show ((93 : Int).toNat.toUInt8) = 93 by decide, hi.out]
      go_wp2_with fail
      go_ret3
      exact setPost_no (by rw [gs.out, hi.out]) rfl ((Below.refl _ _).alloc (Nat.le_refl _) _)
    | some k =>
      have hi := Lib.hid hi0
      have hk : at_ + 1 + 1 + 1 + k < p.size := by have := Gl.idx_lt hi0; rw [List.length_drop, ← Go.Lib.size_eq] at this; omega
      clear hi0
      go_enter Try.func37, Try.ntmps37
      go_wp2_with fail
      refine (Try.strings_IndexByte _ _ _).mono ?_
      rintro e w' ⟨rfl, rfl⟩
      rw [Go.Lib.extract_to_end, Gl.indexByte_idx, show ((93 : Int).toNat.toUInt8) = 93 by decide, hi.out]
      go_wp2_with fail
      go_ret3
      exact setPost_yes (j := at_ + 1 + 1) gn.out gb.out (by omega) hk hi.out

set_option maxHeartbeats 400000 in
theorem set_c (p : ByteArray) (at_ : Nat) (w : World) (hp : p.size ≤ 1000000) (h1 : at_ + 1 < p.size) (c1 : ¬ (p[at_ + 1].toNat : Int) = 33) (c2 : ¬ (p[at_ + 1].toNat : Int) = 94) :
    Calls Try.prog 37 #[.string p, .int .i64 at_] w (SetPost p at_ w) := by
  obtain ⟨gn0, gb0⟩ := neg_no h1 c1 c2
  have d1 := beq_eq_false_iff_ne.2 c1; have d2 := beq_eq_false_iff_ne.2 c2; clear c1 c2
  have gn := Lib.hid gn0; have gb := Lib.hid gb0; clear gn0 gb0
  by_cases h2 : p.size ≤ at_ + 1
  · omega
  · have h3 : at_ + 1 < p.size := by omega
    clear h2
    cases hi0 : Gl.idx 93 (p.data.toList.drop (at_ + 1 + 1)) with
    | none =>
      have hi := Lib.hid hi0
      have gs := Lib.hid (set_at gb.out (by rw [← Go.Lib.size_eq]; exact h3))
      clear hi0
      go_enter Try.func37, Try.ntmps37
      go_wp2_with fail
      refine (Try.strings_IndexByte _ _ _).mono ?_
      rintro e w' ⟨rfl, rfl⟩
      rw [Go.Lib.extract_to_end, Gl.indexByte_idx, show ((93 : Int).toNat.toUInt8) = 93 by decide, hi.out]
      go_wp2_with fail
      go_ret3
      exact setPost_no (by rw [gs.out, hi.out]) rfl ((Below.refl _ _).alloc (Nat.le_refl _) _)
    | some k =>
      have hi := Lib.hid hi0
      have hk : at_ + 1 + 1 + k < p.size := by have := Gl.idx_lt hi0; rw [List.length_drop, ← Go.Lib.size_eq] at this; omega
      clear hi0
      go_enter Try.func37, Try.ntmps37
      go_wp2_with fail
      refine (Try.strings_IndexByte _ _ _).mono ?_
      rintro e w' ⟨rfl, rfl⟩
      rw [Go.Lib.extract_to_end, Gl.indexByte_idx, show ((93 : Int).toNat.toUInt8) = 93 by decide, hi.out]
      go_wp2_with fail
      go_ret3
      exact setPost_yes (j := at_ + 1) gn.out gb.out (by omega) hk hi.out

set_option maxHeartbeats 400000 in
theorem set_calls (p : ByteArray) (at_ : Nat) (w : World) (hp : p.size ≤ 1000000) (hat : at_ < p.size) :
    Calls Try.prog 37 #[.string p, .int .i64 at_] w (SetPost p at_ w) := by
  by_cases h1 : at_ + 1 < p.size
  · by_cases c1 : (p[at_ + 1].toNat : Int) = 33
    · exact set_a p at_ w hp h1 c1
    · by_cases c2 : (p[at_ + 1].toNat : Int) = 94
      · exact set_b p at_ w hp h1 c2
      · exact set_c p at_ w hp h1 c1 c2
  · have gs := Lib.hid (show Gl.setOf (p.data.toList.drop (at_ + 1)) = none by
      rw [List.drop_of_length_le (by rw [← Go.Lib.size_eq]; omega)]; rfl)
    go_enter Try.func37, Try.ntmps37
    go_wp2_with fail
    go_ret3
    exact setPost_no gs.out rfl ((Below.refl _ _).alloc (Nat.le_refl _) _)
end Go.Proofs.Ytfnmncghgmnaaaa
