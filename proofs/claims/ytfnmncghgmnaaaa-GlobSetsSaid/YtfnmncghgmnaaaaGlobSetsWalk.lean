/-
  The law GlobSets returns true for every three numbers and turns nothing that was there. Condition: the numbers are of Go's int.
-/
import Derived.Test.YtfnmncghgmnaaaaGlobPlainWalk
namespace Go.Proofs.Ytfnmncghgmnaaaa
open Go.RowKit

def badB (c : UInt8) : Bool := c == 33 || c == 94 || c == 93 || c == 45 || c == 91
theorem beq_byte (c : UInt8) (n : Nat) (hn : n < 256) : ((c.toNat : Int) == (n : Int)) = (c == n.toUInt8) := by
  rw [Bool.eq_iff_iff, beq_iff_eq, beq_iff_eq]
  exact ⟨fun h => byte_eq h hn, fun h => by rw [h]; simp; omega⟩

set_option maxHeartbeats 400000 in
theorem func1_calls (c : UInt8) (w : World) : Calls Try.prog 23 #[.int .u8 c.toNat] w fun e w' => e = .returned (.bool (badB c)) ∧ w = w' := by
  have e : badB c = ((c.toNat : Int) == 33 || (c.toNat : Int) == 94 || (c.toNat : Int) == 93 || (c.toNat : Int) == 45 || (c.toNat : Int) == 91) := by
    have h1 := beq_byte c 33 (by decide); have h2 := beq_byte c 94 (by decide); have h3 := beq_byte c 93 (by decide); have h4 := beq_byte c 45 (by decide); have h5 := beq_byte c 91 (by decide)
    unfold badB
    exact congr (congrArg _ (congr (congrArg _ (congr (congrArg _ (congr (congrArg _ h1.symm) h2.symm)) h3.symm)) h4.symm)) h5.symm
  have h := Lib.hid e
  clear e
  go_enter Try.func23, Try.ntmps23
  go_wp2
  all_goals
    go_ret
    refine ⟨?_, rfl⟩
    rw [h.out]
    simp [*]

theorem conv_new (W : World) (l : List UInt8) (hl : l.length ≤ maxLen) : (convert 37 9 (.slice (some ⟨W.heap.size, 0, none⟩) l.length l.length)).run Try.prog (W.alloc (.cells (bcells l).toArray 5)) = .ok (.string ⟨l.toArray⟩) (W.alloc (.cells (bcells l).toArray 5)) := by
  exact convert_own (base := 0) ⟨by simp [bcells], Or.inr ⟨W.heap.size, l.length, _, rfl, Nat.zero_le _, heap_alloc_new W _, Nat.le_refl _, hl, by simp [bcells], List.take_of_length_le (by simp [bcells])⟩⟩

theorem set_of {x y : UInt8} {r : List UInt8} (hy : badB y = false) (hr : Gl.body r = [x, 45, y, 93]) : Gl.setOf r = some (Gl.neg r, [x, 45, y], []) := by
  simp only [badB, Bool.or_eq_false_iff, beq_eq_false_iff_ne] at hy
  unfold Gl.setOf
  rw [hr]
  have : Gl.idx 93 [45, y, 93] = some 2 := by
    simp [Gl.idx, hy.1.1.2]
  simp only [this]
  rfl
theorem sets_pos {x y z : UInt8} (hx : badB x = false) (hy : badB y = false) (hz : z ≠ 46) : Gl.whole true [91, x, 45, y, 93] [z] = (decide (x ≤ z) && decide (z ≤ y)) := by
  have hx' := hx
  simp only [badB, Bool.or_eq_false_iff, beq_eq_false_iff_ne] at hx'
  have hn : Gl.neg [x, 45, y, 93] = false := by simp [Gl.neg, hx'.1.1.1.1, hx'.1.1.1.2]
  have hs := set_of hy (show Gl.body [x, 45, y, 93] = [x, 45, y, 93] by unfold Gl.body; rw [hn]; rfl)
  unfold Gl.whole
  rw [Gl.parts_set hs, Gl.parts_nil, Gl.mt_one _ _ _ (by simp), Gl.mt_nil, hn]
  have : (z == 46) = false := beq_eq_false_iff_ne.2 hz
  simp [Gl.hidden, Gl.one, Gl.mem, this]
theorem sets_neg {x y z g : UInt8} (hg : g = 33 ∨ g = 94) (hy : badB y = false) (hz : z ≠ 46) : Gl.whole true [91, g, x, 45, y, 93] [z] = !(decide (x ≤ z) && decide (z ≤ y)) := by
  have hn : Gl.neg [g, x, 45, y, 93] = true := by rcases hg with rfl | rfl <;> rfl
  have hs := set_of hy (show Gl.body [g, x, 45, y, 93] = [x, 45, y, 93] by unfold Gl.body; rw [hn]; rfl)
  unfold Gl.whole
  rw [Gl.parts_set hs, Gl.parts_nil, Gl.mt_one _ _ _ (by simp), Gl.mt_nil, hn]
  have : (z == 46) = false := beq_eq_false_iff_ne.2 hz
  simp [Gl.hidden, Gl.one, Gl.mem, this]

theorem below_al {w w1 : World} {o : Obj} (h : Below w.heap.size w w1) : Below w.heap.size w (w1.alloc o) := h.alloc h.size _

theorem mod_byte (a : Int) : ∃ x : UInt8, a % 256 = (x.toNat : Int) :=
  ⟨(a % 256).toNat.toUInt8, by have := Int.emod_nonneg a (show (256 : Int) ≠ 0 by decide); have := Int.emod_lt_of_pos a (show (0 : Int) < 256 by decide); simp; omega⟩

set_option maxHeartbeats 400000 in
theorem setsLaw_calls (a b c : Int) (w : World) (_ha : (Lit.int .i64 a).wf = true) (_hb : (Lit.int .i64 b).wf = true) (_hc : (Lit.int .i64 c).wf = true) :
    Calls Try.prog 8 #[.int .i64 a, .int .i64 b, .int .i64 c] w fun e w' => e = .returned (.bool true) ∧ Below w.heap.size w w' := by
  obtain ⟨x, hx⟩ := mod_byte a
  obtain ⟨y, hy⟩ := mod_byte b
  obtain ⟨z, hz⟩ := mod_byte c
  go_enter Try.func8, Try.ntmps8
  go_wp2_with fail
  refine (alive_calls _).mono ?_
  rintro e w1 ⟨rfl, hB⟩
  go_wp2_with fail
  refine (func1_calls x _).mono ?_
  rintro e w2 ⟨rfl, rfl⟩
  cases hbx : badB x with
  | true =>
    clear hbx
    go_wp2
    go_ret
    exact ⟨rfl, hB⟩
  | false =>
    have hx0 := Lib.hid hbx
    clear hbx
    go_wp2_with fail
    refine (func1_calls y _).mono ?_
    rintro e w2 ⟨rfl, rfl⟩
    cases hby : badB y with
    | true =>
      clear hby
      go_wp2
      go_ret
      exact ⟨rfl, hB⟩
    | false =>
      have hy0 := Lib.hid hby
      clear hby
      by_cases h46 : z = 46
      · have e : ((z.toNat : Int) == 46) = true := by rw [h46]; rfl
        clear h46
        go_wp2
        go_ret
        exact ⟨rfl, hB⟩
      · by_cases h47 : z = 47
        · have e : ((z.toNat : Int) == 47) = true := by rw [h47]; rfl
          have e2 : ((z.toNat : Int) == 46) = false := by rw [h47]; rfl
          clear h47
          go_wp2
          go_ret
          exact ⟨rfl, hB⟩
        · have e := beq_eq_false_iff_ne.2 (fun h : (z.toNat : Int) = 46 => h46 (byte_eq h (by decide)))
          have e2 := beq_eq_false_iff_ne.2 (fun h : (z.toNat : Int) = 47 => h47 (byte_eq h (by decide)))
          have hz46 := Lib.hid h46
          clear h46 h47
          obtain ⟨S, hS0⟩ : ∃ S : ByteArray, S = ⟨#[x, 45, y]⟩ := ⟨_, rfl⟩
          obtain ⟨Z, hZ0⟩ : ∃ Z : ByteArray, Z = ⟨#[z]⟩ := ⟨_, rfl⟩
          have hcv : Sem.run Try.prog (convert 37 9 (.slice (some ⟨w1.heap.size, 0, none⟩) 3 3)) (w1.alloc (.cells #[.int .u8 x.toNat, .int .u8 45, .int .u8 y.toNat] 5)) = .ok (.string S) (w1.alloc (.cells #[.int .u8 x.toNat, .int .u8 45, .int .u8 y.toNat] 5)) := by
            rw [hS0]; exact conv_new w1 [x, 45, y] (by simp [maxLen])
          have hcz : ∀ W : World, Sem.run Try.prog (convert 37 9 (.slice (some ⟨W.heap.size, 0, none⟩) 1 1)) (W.alloc (.cells #[.int .u8 z.toNat] 5)) = .ok (.string Z) (W.alloc (.cells #[.int .u8 z.toNat] 5)) := by
            intro W; rw [hZ0]; exact conv_new W [z] (by simp [maxLen])
          have hcz1 := hcz (w1.alloc (.cells #[.int .u8 x.toNat, .int .u8 45, .int .u8 y.toNat] 5))
          have hsz : (w1.alloc (.cells #[.int .u8 x.toNat, .int .u8 45, .int .u8 y.toNat] 5)).heap.size = w1.heap.size + 1 := by simp
          rw [hsz] at hcz1
          clear hsz
          have hS := Lib.hid (show S.data.toList = [x, 45, y] by rw [hS0])
          have hZ := Lib.hid (show Z.data.toList = [z] by rw [hZ0])
          have hp1 : (⟨#[91]⟩ ++ S ++ ⟨#[93]⟩ : ByteArray).data.toList = [91, x, 45, y, 93] := by rw [ba_append, ba_append, hS.out]; rfl
          have hp2 : (⟨#[91, 33]⟩ ++ S ++ ⟨#[93]⟩ : ByteArray).data.toList = [91, 33, x, 45, y, 93] := by rw [ba_append, ba_append, hS.out]; rfl
          have hp3 : (⟨#[91, 94]⟩ ++ S ++ ⟨#[93]⟩ : ByteArray).data.toList = [91, 94, x, 45, y, 93] := by rw [ba_append, ba_append, hS.out]; rfl
          have q1 := Lib.hid (show Gl.whole true (⟨#[91]⟩ ++ S ++ ⟨#[93]⟩ : ByteArray).data.toList Z.data.toList = (decide (x ≤ z) && decide (z ≤ y)) by rw [hp1, hZ.out]; exact sets_pos hx0.out hy0.out hz46.out)
          have q2 := Lib.hid (show Gl.whole true (⟨#[91, 33]⟩ ++ S ++ ⟨#[93]⟩ : ByteArray).data.toList Z.data.toList = !(decide (x ≤ z) && decide (z ≤ y)) by rw [hp2, hZ.out]; exact sets_neg (Or.inl rfl) hy0.out hz46.out)
          have q3 := Lib.hid (show Gl.whole true (⟨#[91, 94]⟩ ++ S ++ ⟨#[93]⟩ : ByteArray).data.toList Z.data.toList = !(decide (x ≤ z) && decide (z ≤ y)) by rw [hp3, hZ.out]; exact sets_neg (Or.inr rfl) hy0.out hz46.out)
          have z1 := Lib.hid (show (⟨#[91]⟩ ++ S ++ ⟨#[93]⟩ : ByteArray).size ≤ 1000000 by rw [Go.Lib.size_eq, hp1]; show 5 ≤ 1000000; decide)
          have z2 := Lib.hid (show (⟨#[91, 33]⟩ ++ S ++ ⟨#[93]⟩ : ByteArray).size ≤ 1000000 by rw [Go.Lib.size_eq, hp2]; show 6 ≤ 1000000; decide)
          have z3 := Lib.hid (show (⟨#[91, 94]⟩ ++ S ++ ⟨#[93]⟩ : ByteArray).size ≤ 1000000 by rw [Go.Lib.size_eq, hp3]; show 6 ≤ 1000000; decide)
          have zS : S.size ≤ 3 := by rw [hS0]; show 3 ≤ 3; decide
          have zZ : Z.size ≤ 1 := by rw [hZ0]; show 1 ≤ 1; decide
          have zZ' := Lib.hid (Nat.le_trans zZ (show 1 ≤ 1000000 by decide))
          have b1 := Lib.hid (UInt8.le_iff_toNat_le (a := x) (b := z))
          have b2 := Lib.hid (UInt8.le_iff_toNat_le (a := z) (b := y))
          clear hp1 hp2 hp3 hS0 hZ0
          by_cases g1 : x.toNat ≤ z.toNat
          · by_cases g2 : z.toNat ≤ y.toNat
            · have hin := Lib.hid (show (decide (x ≤ z) && decide (z ≤ y)) = true by rw [decide_eq_true (b1.out.2 g1), decide_eq_true (b2.out.2 g2)]; rfl)
              go_wp2_with fail
              refine (match_calls _ Z _ ?_ zZ'.out).mono ?_
              · exact z1.out
              rintro e3 w2 ⟨rfl, hB2⟩
              rw [q1.out, hin.out]
              go_wp2_with fail
              refine (match_calls _ Z _ ?_ zZ'.out).mono ?_
              · exact z2.out
              rintro e4 w3 ⟨rfl, hB3⟩
              rw [q2.out, hin.out]
              go_wp2_with fail
              refine (match_calls _ Z _ ?_ zZ'.out).mono ?_
              · exact z3.out
              rintro e5 w4 ⟨rfl, hB4⟩
              rw [q3.out, hin.out]
              go_wp2
              go_ret
              exact ⟨rfl, hB4.mono' (below_al (hB3.mono' (below_al (hB2.mono' (below_al (below_al hB))))))⟩
            · have hin := Lib.hid (show (decide (x ≤ z) && decide (z ≤ y)) = false by rw [decide_eq_false (fun h => g2 (b2.out.1 h)), Bool.and_false])
              go_wp2_with fail
              refine (match_calls _ Z _ ?_ zZ'.out).mono ?_
              · exact z1.out
              rintro e3 w2 ⟨rfl, hB2⟩
              rw [q1.out, hin.out]
              go_wp2_with fail
              refine (match_calls _ Z _ ?_ zZ'.out).mono ?_
              · exact z2.out
              rintro e4 w3 ⟨rfl, hB3⟩
              rw [q2.out, hin.out]
              go_wp2_with fail
              refine (match_calls _ Z _ ?_ zZ'.out).mono ?_
              · exact z3.out
              rintro e5 w4 ⟨rfl, hB4⟩
              rw [q3.out, hin.out]
              go_wp2
              go_ret
              exact ⟨rfl, hB4.mono' (below_al (hB3.mono' (below_al (hB2.mono' (below_al (below_al hB))))))⟩
          · have hin := Lib.hid (show (decide (x ≤ z) && decide (z ≤ y)) = false by rw [decide_eq_false (fun h => g1 (b1.out.1 h)), Bool.false_and])
            go_wp2_with fail
            refine (match_calls _ Z _ ?_ zZ'.out).mono ?_
            · exact z1.out
            rintro e3 w2 ⟨rfl, hB2⟩
            rw [q1.out, hin.out]
            go_wp2_with fail
            refine (match_calls _ Z _ ?_ zZ'.out).mono ?_
            · exact z2.out
            rintro e4 w3 ⟨rfl, hB3⟩
            rw [q2.out, hin.out]
            go_wp2_with fail
            refine (match_calls _ Z _ ?_ zZ'.out).mono ?_
            · exact z3.out
            rintro e5 w4 ⟨rfl, hB4⟩
            rw [q3.out, hin.out]
            go_wp2
            go_ret
            exact ⟨rfl, hB4.mono' (below_al (hB3.mono' (below_al (hB2.mono' (below_al (below_al hB))))))⟩
end Go.Proofs.Ytfnmncghgmnaaaa
