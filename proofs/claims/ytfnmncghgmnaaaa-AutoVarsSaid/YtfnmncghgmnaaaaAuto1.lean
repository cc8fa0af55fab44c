/-
  Lists of strings: is one in a list, each once (functions 31, 30, 26, 41), are two lists the same (28). Conditions: lists of at most 1,000,000 strings.
-/
import Derived.Test.YtfnmncghgmnaaaaBase
import Derived.Test.YtfnmncghgmnaaaaShelfA
namespace Go.Proofs.Ytfnmncghgmnaaaa
open Go.RowKit

/-- Is a text in a list? -/
def inL (x : ByteArray) : List ByteArray → Bool
  | [] => false
  | y :: l => decide (y = x) || inL x l
theorem inL_iff {x : ByteArray} : ∀ {l : List ByteArray}, inL x l = true ↔ x ∈ l
  | [] => by simp [inL]
  | y :: l => by simp only [inL, Bool.or_eq_true, decide_eq_true_eq, inL_iff, List.mem_cons]; exact ⟨fun h => h.imp Eq.symm id, fun h => h.imp Eq.symm id⟩

theorem contains_calls (v : Value) (l : List ByteArray) (x : ByteArray) (w : World) (h : StrsAt w v l) :
    Calls Try.prog 41 #[v, .string x] w fun e w' => e = .returned (.bool (inL x l)) ∧ w = w' := by
  obtain ⟨a, n, c, rfl, hn, hc, hm, hcell, _⟩ := h
  unfold maxLen at hm
  by_cases h0 : 0 < n
  · obtain ⟨b, off, rfl, hb, hcells⟩ := hcell h0
    refine (Try.slices_Contains_string b off n c l x w (by omega) (by omega) (fun j hj => ?_)).mono ?_
    · rw [hcells j l[j] (List.getElem?_eq_getElem hj)]
      simp [List.getD, List.getElem?_eq_getElem hj]
    · rintro e w' ⟨rfl, rfl⟩
      refine ⟨?_, rfl⟩
      rw [List.take_of_length_le (by omega), show Lib.containsS l x = inL x l by rw [Bool.eq_iff_iff, Lib.containsS_iff, inL_iff]]
  · have hz : n = 0 := by omega
    have hl : l = [] := List.length_eq_zero_iff.1 (by omega)
    subst hz; subst hl
    refine (Try.slices_Contains_string_empty a c x w).mono ?_
    rintro e w' ⟨rfl, rfl⟩
    exact ⟨rfl, rfl⟩

set_option maxHeartbeats 400000 in
theorem has_list (v : Value) (l : List ByteArray) (x : ByteArray) (w : World) (h : StrsAt w v l) (hl : l.length ≤ 1000000) :
    Calls Try.prog 31 #[v, .string x] w fun e w' => e = .returned (.bool (inL x l)) ∧ w = w' := by
  obtain ⟨a, n, c, rfl, hn0, hc, hm, hcell, _⟩ := h
  have hnl : n ≤ 1000000 := by omega
  have hn := Lib.hid hn0
  have hce := Lib.hid hcell
  clear hn0 hcell hm hl
  go_enter Try.func31, Try.ntmps31
  go_wp2_with fail
  go_loop [5] (fun i => ∃ k : Nat, k ≤ n ∧ i = .int .i64 k ∧ Hid (inL x l = inL x (l.drop k))) (fun i => n - (intOf i).toNat)
  case atStart => exact ⟨0, Nat.zero_le _, rfl, rfl⟩
  case round =>
    obtain ⟨k, hk, rfl, hrel⟩ := hrel
    by_cases hlt : k < n
    · obtain ⟨s, hs⟩ : ∃ s, l[k]? = some s := ⟨_, List.getElem?_eq_getElem (by rw [← hn.out]; exact hlt)⟩
      obtain ⟨b, off, rfl, hb, hcells⟩ := hce.out (by omega)
      have hck := hcells k s hs
      have hd := getElem_split hs
      by_cases hx : s = x
      · have hh := Lib.hid (show inL x l = true by rw [hrel.out, hd, hx]; simp [inL])
        have hb1 : (s.toList == x.toList) = true := by rw [ba_beq]; exact decide_eq_true hx
        clear hx hd hs hcells
        go_wp2
        go_ret
        exact ⟨by rw [hh.out]; rfl, rfl⟩
      · have hh := Lib.hid (show inL x l = inL x (l.drop (k + 1)) by
          rw [hrel.out, hd]; simp [inL, hx])
        have hb1 : (s.toList == x.toList) = false := by rw [ba_beq]; exact decide_eq_false hx
        clear hx hd hs hcells
        go_wp2
        exact ⟨⟨k + 1, by omega, by go_num, hh⟩, by simp [intOf]; omega⟩
    · have hh := Lib.hid (show inL x l = false by rw [hrel.out, List.drop_of_length_le (by rw [← hn.out]; omega)]; rfl)
      go_wp2
      go_ret
      exact ⟨by rw [hh.out]; rfl, rfl⟩

/-- A list without doubles and without what is in another one, onto what is there. -/
def onceTo (but : List ByteArray) : List ByteArray → List ByteArray → List ByteArray
  | out, [] => out
  | out, x :: l => onceTo but (if inL x out || inL x but then out else out ++ [x]) l

theorem once_turn {w wr w1 w2 : World} {n k : Nat} {o l : List ByteArray} {x : ByteArray} {but : List ByteArray} {v v' : Value} (hlt : k < n) (hol : o.length ≤ k)
    (hB : Below w.heap.size w wr) (hb : Below wr.heap.size wr w1) (hown : wr.ownsRow w.heap.size 9 1 v o.length (scells o))
    (hown' : w2.ownsRow w.heap.size 9 1 v' (o.length + 1) (scells o ++ [.string x])) (hg : w1.grownBy w2 v.ownBlock)
    (hstep : Hid (onceTo but [] l = onceTo but (o ++ [x]) (l.drop (k + 1)))) :
    (∃ (k_1 : Nat) (o : List ByteArray), k_1 ≤ n ∧ Value.int IntKind.i64 (((k + 1 : Nat)) : Int) = Value.int IntKind.i64 (k_1 : Int) ∧ w2.ownsRow w.heap.size 9 1 v' o.length (scells o) ∧ o.length ≤ k_1 ∧
      Below w.heap.size w w2 ∧ Hid (onceTo but [] l = onceTo but o (l.drop k_1))) ∧
    n - (intOf (Value.int IntKind.i64 (((k + 1 : Nat)) : Int))).toNat < n - (intOf (Value.int IntKind.i64 (k : Int))).toNat := by
  have hs := hB.size
  have hB1 : Below w.heap.size w w1 := hB.trans (hb.mono hs)
  refine ⟨⟨k + 1, o ++ [x], hlt, rfl, ?_, by simp; omega, hB1.grown hg hB1.size (fun k e => (hown.lt k e).1), hstep⟩, by simp [intOf]; omega⟩
  have e : scells (o ++ [x]) = scells o ++ [.string x] := List.map_append
  rw [e, List.length_append]; exact hown'

set_option maxHeartbeats 1000000 in
theorem ronce_calls (v : Value) (l : List ByteArray) (w : World) (h : StrsAt w v l) (hl : l.length ≤ 1000000) :
    Calls Try.prog 30 #[v] w fun e w' => ∃ v', e = .returned v' ∧ w'.ownsRow w.heap.size 9 1 v' (onceTo [] [] l).length (scells (onceTo [] [] l)) ∧ Below w.heap.size w w' := by
  obtain ⟨i0, hi, hz0, hz1, hz2⟩ := info_parts info9
  obtain ⟨a, n, c, rfl, hn0, hc, hm, hcell, _⟩ := h
  have hnl : n ≤ 1000000 := by omega
  have hn := Lib.hid hn0
  have hce := Lib.hid hcell
  clear hn0 hcell hm hl
  go_enter Try.func30, Try.ntmps30
  go_wp2_with fail
  go_loopw [3, 4] (fun v i wr => ∃ (k : Nat) (o : List ByteArray), k ≤ n ∧ i = .int .i64 k ∧ wr.ownsRow w.heap.size 9 1 v o.length (scells o) ∧ o.length ≤ k ∧ Below w.heap.size w wr ∧ Hid (onceTo [] [] l = onceTo [] o (l.drop k))) (fun _ i _ => n - (intOf i).toNat)
  case atStart => exact ⟨0, [], Nat.zero_le _, rfl, World.ownsRow_nil _ _ _ _, Nat.le_refl _, Below.refl _ _, rfl⟩
  case round =>
    obtain ⟨k, o, hk, rfl, hown, hol, hB, hrel⟩ := hrel
    by_cases hlt : k < n
    · have hfit : (o.length + 1) * 16 ≤ 140737488355328 ∧ o.length + 1 ≤ maxLen := by unfold maxLen; omega
      obtain ⟨s, hs⟩ : ∃ s, l[k]? = some s := ⟨_, List.getElem?_eq_getElem (by rw [← hn.out]; exact hlt)⟩
      obtain ⟨b, off, rfl, hb, hcells⟩ := hce.out (by omega)
      have hck := (hB.cell (p := ⟨b, off + k, none⟩) hb).trans (hcells k s hs)
      have hd := getElem_split hs
      have hos := Lib.hid (strsAt_own hown)
      by_cases hx : inL s o = true
      · have hstep := Lib.hid (show onceTo [] [] l = onceTo [] o (l.drop (k + 1)) by rw [hrel.out, hd, onceTo, hx]; rfl)
        have hxx := Lib.hid hx
        clear hx hd hs hcells
        go_wp2_with fail
        refine (has_list _ o s _ hos.out (by omega)).mono ?_
        rintro e w' ⟨rfl, rfl⟩
        rw [hxx.out]
        go_wp2
        exact ⟨⟨k + 1, o, by omega, by go_num, hown, by omega, hB, hstep⟩, by simp [intOf]; omega⟩
      · have hstep := Lib.hid (show onceTo [] [] l = onceTo [] (o ++ [s]) (l.drop (k + 1)) by rw [hrel.out, hd, onceTo, Bool.eq_false_iff.2 hx]; rfl)
        have hxx := Lib.hid (Bool.eq_false_iff.2 hx)
        clear hx hd hs hcells
        go_wp2_with fail
        refine (has_list _ o s _ hos.out (by omega)).mono ?_
        rintro e w' ⟨rfl, rfl⟩
        rw [hxx.out]
        go_wp2_with (at_builtin; refine wpList_append_own _ rfl _ _ 22 rfl w.heap.size 9 i0 _ 1 16 Try.underlying22 hi hz0 hz1 hz2 rfl (by decide) _ _ _ rfl (hown.alloc _) ⟨wr.heap.size, 0, none⟩ 1 1 [.string s] rfl rfl (cells_new wr _ 9) (by intro u hu; simp at hu; subst hu; rfl) hfit.2 hfit.1 (by have := hB.size; simp; omega) ?_; intro v' w2 hown' hgrow _)
        exact once_turn hlt hol hB ((Below.refl _ _).alloc (Nat.le_refl _) _) hown hown' hgrow hstep
    · have e := Lib.hid (show onceTo [] [] l = o by rw [hrel.out, List.drop_of_length_le (by rw [← hn.out]; omega)]; rfl)
      go_wp2
      go_ret
      rw [e.out]
      exact ⟨_, rfl, hown, hB⟩
end Go.Proofs.Ytfnmncghgmnaaaa
