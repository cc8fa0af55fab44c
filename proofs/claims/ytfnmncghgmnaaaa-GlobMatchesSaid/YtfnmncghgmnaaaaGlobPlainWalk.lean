/-
  The law GlobPlain returns true for every two strings and turns nothing that was there. Condition: both are strings of the model.
-/
import Derived.Test.YtfnmncghgmnaaaaGlob6
namespace Go.Proofs.Ytfnmncghgmnaaaa
open Go.RowKit

def quote (l : List UInt8) : List UInt8 := l.flatMap fun c => [92, c]
theorem parts_quote : ∀ l, Gl.parts (quote l) = l.map .byte
  | [] => by simp [quote, Gl.parts_nil]
  | c :: t => by
    show Gl.parts (92 :: c :: quote t) = _
    rw [Gl.parts_esc, parts_quote t]; rfl
theorem plain_quote : ∀ l, Gl.plain (quote l) = l
  | [] => by simp [quote, Gl.plain_nil]
  | c :: t => by
    show Gl.plain (92 :: c :: quote t) = _
    rw [Gl.plain_esc, plain_quote t]
theorem mt_bytes : ∀ l t, Gl.mt (l.map Gl.Part.byte) t = decide (t = l)
  | [], t => by rw [List.map_nil, Gl.mt_nil]; cases t <;> rfl
  | c :: l, [] => by rw [List.map_cons, Gl.mt_one_nil _ (by simp)]; rfl
  | c :: l, d :: t => by
    rw [List.map_cons, Gl.mt_one _ _ _ (by simp), mt_bytes l t]
    simp only [Gl.one]
    by_cases h1 : c = d
    · subst h1; simp
    · have : ¬ d = c := fun e => h1 e.symm
      simp [h1, this]
theorem wild_quote (l : List UInt8) : Gl.wild (quote l) = false := by
  unfold Gl.wild; rw [parts_quote]; simp
theorem whole_quote (l t : List UInt8) : Gl.whole true (quote l) t = decide (t = l) := by
  unfold Gl.whole
  rw [parts_quote, mt_bytes]
  by_cases h : t = l
  · subst h
    cases t with
    | nil => rfl
    | cons c t => by_cases hc : c = 46 <;> simp [Gl.hidden, Gl.points, hc]
  · simp [h]
theorem quote_snoc (l : List UInt8) (c : UInt8) : quote (l ++ [c]) = quote l ++ [92, c] := by simp [quote]
theorem quote_len (l : List UInt8) : (quote l).length = 2 * l.length := by
  induction l with
  | nil => rfl
  | cons c t ih => show (92 :: c :: quote t).length = _; simp [ih]; omega

theorem ba_ext {a b : ByteArray} (h : a.data.toList = b.data.toList) : a = b := by
  cases a with | mk a => cases b with | mk b => cases a with | mk a => cases b with | mk b => simp at h; subst h; rfl
theorem ba_back (s : ByteArray) : (⟨s.data.toList.toArray⟩ : ByteArray) = s := ba_ext (by simp)
theorem ba_append (a b : ByteArray) : (a ++ b).data.toList = a.data.toList ++ b.data.toList := by rw [ByteArray.data_append, Array.toList_append]
theorem ba_ne {a b : ByteArray} (h : a ≠ b) : (a.toList == b.toList) = false := by
  rw [beq_eq_false_iff_ne, Go.Lib.toList_data, Go.Lib.toList_data]
  exact fun e => h (ba_ext e)
theorem drop_take1 {p : ByteArray} {j : Nat} (h : j < p.size) : p.data.toList.take (j + 1) = p.data.toList.take j ++ [p[j]] := by
  rw [List.take_succ_eq_append_getElem (by rw [← Go.Lib.size_eq]; exact h)]; rfl
theorem extract_one {p : ByteArray} {j : Nat} (h : j < p.size) : (p.extract j (j + 1)).data.toList = [p[j]] := by
  rw [Go.Lib.extract_data, show j + 1 - j = 1 by omega, drop_cons h]; rfl

set_option maxHeartbeats 400000 in
theorem plainLaw_calls (s o : ByteArray) (w : World) (hs : s.size ≤ maxLen) (ho : o.size ≤ maxLen) :
    Calls Try.prog 5 #[.string s, .string o] w fun e w' => e = .returned (.bool true) ∧ Below w.heap.size w w' := by
  unfold maxLen at hs ho
  by_cases h1 : s.size ≤ 1500
  · by_cases h2 : o.size ≤ 1500
    · go_enter Try.func5, Try.ntmps5
      go_wp2_with fail
      refine (alive_calls _).mono ?_
      rintro e w1 ⟨rfl, hB⟩
      go_wp2_with fail
      go_loop [6, 7] (fun t i => ∃ (k : Nat) (P : ByteArray), k ≤ s.size ∧ i = .int .i64 k ∧ t = .string P ∧ P.size ≤ 2 * k ∧ Hid (P.data.toList = quote (s.data.toList.take k))) (fun _ i => s.size - (intOf i).toNat)
      case atStart => exact ⟨0, ⟨#[]⟩, Nat.zero_le _, rfl, rfl, Nat.le_refl _, rfl⟩
      case round =>
        obtain ⟨k, P, hk, rfl, rfl, hPs, hP⟩ := hrel
        by_cases hlt : k < s.size
        · have hn := Lib.hid (show (P ++ ⟨#[92]⟩ ++ s.extract k (k + 1)).data.toList = quote (s.data.toList.take (k + 1)) by
            rw [ba_append, ba_append, hP.out, drop_take1 hlt, quote_snoc, extract_one hlt, List.append_assoc]; rfl)
          have hn2 := Lib.hid (show (P ++ ⟨#[92]⟩ ++ s.extract k (k + 1)).size ≤ 2 * (k + 1) by
            rw [Go.Lib.size_eq, hn.out, quote_len]; have := List.length_take_le (k + 1) s.data.toList; omega)
          go_wp2
          exact ⟨⟨k + 1, _, by omega, by go_num, rfl, hn2.out, hn⟩, by simp [intOf]; omega⟩
        · have e := Lib.hid (show P.data.toList = quote s.data.toList by rw [hP.out, List.take_of_length_le (by rw [← Go.Lib.size_eq]; omega)])
          go_wp2_with fail
          refine (match_calls P s _ (by omega) (by omega)).mono ?_
          rintro e1 w2 ⟨rfl, hB2⟩
          rw [e.out, whole_quote, decide_eq_true rfl]
          by_cases hos : o = s
          · subst hos
            go_wp2_with fail
            refine (plain_calls P _ (by omega)).mono ?_
            rintro e4 w4 ⟨rfl, hB4⟩
            rw [e.out, plain_quote, ba_back]
            go_wp2_with fail
            refine (has_calls P _ (by omega)).mono ?_
            rintro e5 w5 ⟨rfl, hB5⟩
            rw [e.out, wild_quote]
            go_wp2
            go_ret
            exact ⟨rfl, ((hB5.mono' hB4).mono' hB2).mono' hB⟩
          · have hne := ba_ne hos
            go_wp2_with fail
            refine (match_calls P o _ (by omega) (by omega)).mono ?_
            rintro e3 w3 ⟨rfl, hB3⟩
            rw [e.out, whole_quote, decide_eq_false (fun h => hos (ba_ext h))]
            go_wp2_with fail
            refine (plain_calls P _ (by omega)).mono ?_
            rintro e4 w4 ⟨rfl, hB4⟩
            rw [e.out, plain_quote, ba_back]
            go_wp2_with fail
            refine (has_calls P _ (by omega)).mono ?_
            rintro e5 w5 ⟨rfl, hB5⟩
            rw [e.out, wild_quote]
            go_wp2
            go_ret
            exact ⟨rfl, (((hB5.mono' hB4).mono' hB3).mono' hB2).mono' hB⟩
    · go_enter Try.func5, Try.ntmps5
      go_wp2_with fail
      refine (alive_calls _).mono ?_
      rintro e w1 ⟨rfl, hB⟩
      go_wp2
      go_ret
      exact ⟨rfl, hB⟩
  · go_enter Try.func5, Try.ntmps5
    go_wp2_with fail
    refine (alive_calls _).mono ?_
    rintro e w1 ⟨rfl, hB⟩
    go_wp2
    go_ret
    exact ⟨rfl, hB⟩
end Go.Proofs.Ytfnmncghgmnaaaa
