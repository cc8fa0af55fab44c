/-
  Lists of strings: each once (function 26), how much they are (10), joined with blanks (25, 40). Conditions: lists of at most 1,000,000 strings; what is joined has at most a thousand million bytes.
-/
import Derived.Test.YtfnmncghgmnaaaaAuto1
namespace Go.Proofs.Ytfnmncghgmnaaaa
open Go.RowKit

set_option maxHeartbeats 1000000 in
theorem once_calls (v vb : Value) (l but : List ByteArray) (w : World) (h : StrsAt w v l) (hb : StrsAt w vb but) (hl : l.length ≤ 1000000) :
    Calls Try.prog 26 #[v, vb] w fun e w' => ∃ v', e = .returned v' ∧ w'.ownsRow w.heap.size 9 1 v' (onceTo but [] l).length (scells (onceTo but [] l)) ∧ Below w.heap.size w w' := by
  obtain ⟨i0, hi, hz0, hz1, hz2⟩ := info_parts info9
  obtain ⟨a, n, c, rfl, hn0, hc, hm, hcell, _⟩ := h
  have hnl : n ≤ 1000000 := by omega
  have hn := Lib.hid hn0
  have hce := Lib.hid hcell
  have hbut := Lib.hid hb
  clear hn0 hcell hm hl hb
  go_enter Try.func26, Try.ntmps26
  go_wp2_with fail
  go_loopw [5, 10] (fun v i wr => ∃ (k : Nat) (o : List ByteArray), k ≤ n ∧ i = .int .i64 k ∧ wr.ownsRow w.heap.size 9 1 v o.length (scells o) ∧ o.length ≤ k ∧ Below w.heap.size w wr ∧ Hid (onceTo but [] l = onceTo but o (l.drop k))) (fun _ i _ => n - (intOf i).toNat)
  case atStart => exact ⟨0, [], Nat.zero_le _, rfl, World.ownsRow_nil _ _ _ _, Nat.le_refl _, Below.refl _ _, rfl⟩
  case round =>
    obtain ⟨k, o, hk, rfl, hown, hol, hB, hrel⟩ := hrel
    by_cases hlt : k < n
    · have hfit : (o.length + 1) * 16 ≤ 140737488355328 ∧ o.length + 1 ≤ maxLen := by unfold maxLen; omega
      obtain ⟨s, hs⟩ : ∃ s, l[k]? = some s := ⟨_, List.getElem?_eq_getElem (by rw [← hn.out]; exact hlt)⟩
      obtain ⟨b, off, rfl, hb, hcells⟩ := hce.out (by omega)
      have hck := (hB.cell (p := ⟨b, off + k, none⟩) hb).trans (hcells k s hs)
      have hd := getElem_split hs
      have hos := Lib.hid (strsAt_own hown)
      have hbs := Lib.hid (hbut.out.below hB)
      by_cases hx : inL s o = true
      · have hstep := Lib.hid (show onceTo but [] l = onceTo but o (l.drop (k + 1)) by rw [hrel.out, hd, onceTo, hx]; rfl)
        have hxx := Lib.hid hx
        clear hx hd hs hcells
        go_wp2_with fail
        refine (contains_calls _ o s _ hos.out).mono ?_
        rintro e w' ⟨rfl, rfl⟩
        rw [hxx.out]
        go_wp2
        exact ⟨⟨k + 1, o, by omega, by go_num, hown, by omega, hB, hstep⟩, by simp [intOf]; omega⟩
      · by_cases hy : inL s but = true
        · have hstep := Lib.hid (show onceTo but [] l = onceTo but o (l.drop (k + 1)) by rw [hrel.out, hd, onceTo, hy, Bool.or_true]; rfl)
          have hxx := Lib.hid (Bool.eq_false_iff.2 hx)
          have hyy := Lib.hid hy
          clear hx hy hd hs hcells
          go_wp2_with fail
          refine (contains_calls _ o s _ hos.out).mono ?_
          rintro e w' ⟨rfl, rfl⟩
          rw [hxx.out]
          go_wp2_with fail
          refine (contains_calls _ but s _ hbs.out).mono ?_
          rintro e w' ⟨rfl, rfl⟩
          rw [hyy.out]
          go_wp2
          exact ⟨⟨k + 1, o, by omega, by go_num, hown, by omega, hB, hstep⟩, by simp [intOf]; omega⟩
        · have hstep := Lib.hid (show onceTo but [] l = onceTo but (o ++ [s]) (l.drop (k + 1)) by rw [hrel.out, hd, onceTo, Bool.eq_false_iff.2 hx, Bool.eq_false_iff.2 hy]; rfl)
          have hxx := Lib.hid (Bool.eq_false_iff.2 hx)
          have hyy := Lib.hid (Bool.eq_false_iff.2 hy)
          clear hx hy hd hs hcells
          go_wp2_with fail
          refine (contains_calls _ o s _ hos.out).mono ?_
          rintro e w' ⟨rfl, rfl⟩
          rw [hxx.out]
          go_wp2_with fail
          refine (contains_calls _ but s _ hbs.out).mono ?_
          rintro e w' ⟨rfl, rfl⟩
          rw [hyy.out]
          go_wp2_with (at_builtin; refine wpList_append_own _ rfl _ _ 22 rfl w.heap.size 9 i0 _ 1 16 Try.underlying22 hi hz0 hz1 hz2 rfl (by decide) _ _ _ rfl (hown.alloc _) ⟨wr.heap.size, 0, none⟩ 1 1 [.string s] rfl rfl (cells_new wr _ 9) (by intro u hu; simp at hu; subst hu; rfl) hfit.2 hfit.1 (by have := hB.size; simp; omega) ?_; intro v' w2 hown' hgrow _)
          exact once_turn hlt hol hB ((Below.refl _ _).alloc (Nat.le_refl _) _) hown hown' hgrow hstep
    · have e := Lib.hid (show onceTo but [] l = o by rw [hrel.out, List.drop_of_length_le (by rw [← hn.out]; omega)]; rfl)
      go_wp2
      go_ret
      rw [e.out]
      exact ⟨_, rfl, hown, hB⟩

/-- How much a list of texts is: one more for each. -/
def wt : List ByteArray → Nat
  | [] => 0
  | s :: l => s.size + 1 + wt l
theorem wt_append (a b : List ByteArray) : wt (a ++ b) = wt a + wt b := by
  induction a with
  | nil => simp [wt]
  | cons s a ih => simp only [List.cons_append, wt, ih]; omega
theorem wt_take (l : List ByteArray) (k : Nat) : wt (l.take k) ≤ wt l := by
  conv => rhs; rw [← List.take_append_drop k l]
  rw [wt_append]; omega
theorem wt_len (l : List ByteArray) : l.length ≤ wt l := by
  induction l with
  | nil => exact Nat.le_refl _
  | cons s l ih => simp only [List.length_cons, wt]; omega

set_option maxHeartbeats 400000 in
theorem big_calls (v : Value) (l : List ByteArray) (w : World) (h : StrsAt w v l) (hz : ∀ s ∈ l, s.size ≤ 140737488351232) :
    Calls Try.prog 10 #[v] w fun e w' => e = .returned (.bool (decide (20000 < wt l))) ∧ w = w' := by
  obtain ⟨a, n, c, rfl, hn0, hc, hm, hcell, _⟩ := h
  unfold maxLen at hm
  have hn := Lib.hid hn0
  have hce := Lib.hid hcell
  have hzs := Lib.hid hz
  clear hn0 hcell hz
  go_enter Try.func10, Try.ntmps10
  go_wp2_with fail
  go_loop [3, 4] (fun t i => ∃ (k m : Nat), k ≤ n ∧ i = .int .i64 k ∧ t = .int .i64 m ∧ m ≤ 140737488400000 ∧ Hid (m = wt (l.take k))) (fun _ i => n - (intOf i).toNat)
  case atStart => exact ⟨0, 0, Nat.zero_le _, rfl, rfl, Nat.zero_le _, rfl⟩
  case round =>
    obtain ⟨k, m, hk, rfl, rfl, hmm, hrel⟩ := hrel
    by_cases hlt : k < n
    · by_cases hmb : m ≤ 20000
      · obtain ⟨s, hs⟩ : ∃ s, l[k]? = some s := ⟨_, List.getElem?_eq_getElem (by rw [← hn.out]; exact hlt)⟩
        obtain ⟨b, off, rfl, hb, hcells⟩ := hce.out (by omega)
        have hck := hcells k s hs
        have hsz := hzs.out s (List.mem_of_getElem? hs)
        have hst := Lib.hid (show m + 1 + s.size = wt (l.take (k + 1)) by rw [take_more hs, wt_append, ← hrel.out]; simp only [wt]; omega)
        clear hs hcells
        go_wp2
        exact ⟨⟨k + 1, m + 1 + s.size, by omega, by go_num, by go_num, by omega, hst⟩, by simp [intOf]; omega⟩
      · have hd : decide (m ≤ 20000) = false := decide_eq_false hmb
        have hh := Lib.hid (show decide (20000 < wt l) = true from decide_eq_true (by have := wt_take l k; rw [← hrel.out] at this; omega))
        go_wp2
        go_ret
        exact ⟨by rw [hh.out]; rfl, rfl⟩
    · have hh := Lib.hid (show wt l = m by rw [hrel.out, List.take_of_length_le (by rw [← hn.out]; omega)])
      by_cases hmb : m ≤ 20000
      · have h2 := Lib.hid (show decide (20000 < wt l) = false from decide_eq_false (by rw [hh.out]; omega))
        have h3 := Lib.hid (show decide ((20000 : Int) < (m : Int)) = false from decide_eq_false (by omega))
        go_wp2
        go_ret
        exact ⟨by rw [h2.out]; show Ending.returned (.bool (decide ((20000 : Int) < (m : Int)))) = _; rw [h3.out], rfl⟩
      · have h2 := Lib.hid (show decide (20000 < wt l) = true from decide_eq_true (by rw [hh.out]; omega))
        have h3 := Lib.hid (show decide ((20000 : Int) < (m : Int)) = true from decide_eq_true (by omega))
        go_wp2
        go_ret
        exact ⟨by rw [h2.out]; show Ending.returned (.bool (decide ((20000 : Int) < (m : Int)))) = _; rw [h3.out], rfl⟩

/-- Joined with a blank between each two. -/
def jn (l : List ByteArray) : List UInt8 := Lib.join (l.map (·.data.toList)) [32]
theorem joinTail_len (l : List ByteArray) : (Lib.joinTail [32] (l.map (·.data.toList))).length = wt l := by
  induction l with
  | nil => rfl
  | cons s l ih =>
    have e : Lib.joinTail [32] ((s :: l).map (·.data.toList)) = [32] ++ s.data.toList ++ Lib.joinTail [32] (l.map (·.data.toList)) := by simp [Lib.joinTail]
    rw [e, List.length_append, List.length_append, ih, ← Lib.size_eq]; simp only [List.length_singleton, wt]; omega
theorem jn_len (l : List ByteArray) : (jn l).length ≤ wt l := by
  cases l with
  | nil => exact Nat.zero_le _
  | cons s l =>
    unfold jn
    rw [List.map_cons, Lib.join_cons, List.length_append, joinTail_len, ← Lib.size_eq]; simp only [wt]; omega

set_option maxHeartbeats 400000 in
theorem join_calls (v : Value) (l : List ByteArray) (w : World) (h : StrsAt w v l) (hz : wt l ≤ 1000000000) :
    Calls Try.prog 25 #[v] w fun e w' => e = .returned (.string ⟨(jn l).toArray⟩) ∧ Below w.heap.size w w' := by
  have hjl := jn_len l
  have hwl := wt_len l
  obtain ⟨a, n, c, rfl, hn, hc, hm, hcell, _⟩ := h
  have key : ∀ w0, w0 = w → Calls Try.prog 48 #[.slice a n c, .string ⟨#[32]⟩] w0 fun e w' => e = .returned (.string ⟨(jn l).toArray⟩) ∧ Below w.heap.size w w' := by
    rintro w0 rfl
    by_cases h0 : 0 < n
    · obtain ⟨b, off, rfl, hb, hcells⟩ := hcell h0
      subst hn
      exact Try.strings_Join b off c l ⟨#[32]⟩ w0 (fun j x hx => hcells j x hx) hb (by omega) hc (by show (jn l).length ≤ _; omega)
    · have hz : n = 0 := by omega
      have hl : l = [] := List.length_eq_zero_iff.1 (by omega)
      subst hz; subst hl
      refine (Try.strings_Join_none a c ⟨#[32]⟩ w0).mono ?_
      rintro e w' ⟨rfl, rfl⟩
      exact ⟨rfl, Below.refl _ _⟩
  have hk := Lib.hid (key w rfl)
  clear key hcell hn hm hjl hwl hz
  have hw : Calls Try.prog 40 #[.string ⟨#[32]⟩, .slice a n c] w fun e w' => e = .returned (.string ⟨(jn l).toArray⟩) ∧ Below w.heap.size w w' := by
    go_enter Try.func40, Try.ntmps40
    go_wp2_with fail
    refine (hk.out).mono ?_
    rintro e w1 ⟨rfl, hB⟩
    go_wp2
    go_ret
    exact ⟨rfl, hB⟩
  have hw' := Lib.hid hw
  clear hw
  go_enter Try.func25, Try.ntmps25
  go_wp2_with fail
  refine (hw'.out).mono ?_
  rintro e w1 ⟨rfl, hB⟩
  go_wp2
  go_ret
  exact ⟨rfl, hB⟩
end Go.Proofs.Ytfnmncghgmnaaaa
