/-
  The law GlobStars returns true for every five strings and turns nothing that was there. Condition: they are strings of the model.
-/
import Derived.Test.YtfnmncghgmnaaaaGlobPlainWalk
namespace Go.Proofs.Ytfnmncghgmnaaaa
open Go.RowKit

/-- No byte of a text means something in a pattern, and none is a point. -/
def Tame (l : List UInt8) : Prop := ∀ c ∈ l, c ≠ 92 ∧ c ≠ 42 ∧ c ≠ 63 ∧ c ≠ 91 ∧ c ≠ 93 ∧ c ≠ 46
theorem Tame.append {a b : List UInt8} (ha : Tame a) (hb : Tame b) : Tame (a ++ b) := fun c hc => by
  rcases List.mem_append.1 hc with h | h
  · exact ha c h
  · exact hb c h
theorem parts_tame {r : List UInt8} : ∀ {l : List UInt8}, Tame l → Gl.parts (l ++ r) = l.map .byte ++ Gl.parts r
  | [], _ => rfl
  | c :: t, h => by
    have hc := h c (List.mem_cons_self ..)
    rw [List.cons_append, Gl.parts_byte _ hc.1 hc.2.2.2.1 hc.2.1 hc.2.2.1, parts_tame (fun d hd => h d (List.mem_cons_of_mem _ hd))]; rfl
theorem row_self : ∀ l : List UInt8, Gl.row (l.map .byte) l = true
  | [] => rfl
  | c :: t => by simp [Gl.row, Gl.one, row_self t]
theorem mt_self (l : List UInt8) (m : List Gl.Part) (u : List UInt8) : Gl.mt (l.map .byte ++ m) (l ++ u) = Gl.mt m u :=
  Gl.mt_row m u (by simp) (row_self l)
theorem mt_skip (x : List UInt8) {m : List Gl.Part} {u : List UInt8} (h : Gl.mt m u = true) : Gl.mt (.star :: m) (x ++ u) = true :=
  (Gl.mt_star m _).2 ⟨x.length, by simp, by simpa using h⟩
theorem whole_tame {p s : List UInt8} (hs : Tame s) (h : Gl.mt (Gl.parts p) s = true) : Gl.whole true p s = true := by
  have : Gl.hidden s = false := by
    cases s with
    | nil => rfl
    | cons c t => exact beq_eq_false_iff_ne.2 (hs c (List.mem_cons_self ..)).2.2.2.2.2
  unfold Gl.whole; rw [this, h]; rfl
theorem stars1 {a b c x y : List UInt8} (ha : Tame a) (hb : Tame b) (hc : Tame c) (hx : Tame x) (hy : Tame y) : Gl.whole true (a ++ [42] ++ b ++ [42] ++ c) (a ++ x ++ b ++ y ++ c) = true := by
  refine whole_tame ((((ha.append hx).append hb).append hy).append hc) ?_
  have e : Gl.parts (a ++ [42] ++ b ++ [42] ++ c) = a.map .byte ++ (.star :: (b.map .byte ++ (.star :: (c.map .byte ++ [])))) := by
    have e1 := parts_tame (r := []) hc
    rw [List.append_nil, Gl.parts_nil] at e1
    simp only [List.append_assoc]
    rw [parts_tame ha]
    show _ ++ Gl.parts (42 :: (b ++ (42 :: c))) = _
    rw [Gl.parts_star, parts_tame hb, Gl.parts_star, e1]
  rw [e]
  simp only [List.append_assoc]
  rw [mt_self]
  refine mt_skip x ?_
  rw [mt_self]
  refine mt_skip y ?_
  have := mt_self c [] []
  rw [List.append_nil c] at this
  rw [this, Gl.mt_nil]; rfl
theorem stars2 {b x y : List UInt8} (hb : Tame b) (hx : Tame x) (hy : Tame y) : Gl.whole true ([42] ++ b ++ [42]) (x ++ b ++ y) = true := by
  refine whole_tame ((hx.append hb).append hy) ?_
  have e : Gl.parts ([42] ++ b ++ [42]) = .star :: (b.map .byte ++ [.star]) := by
    show Gl.parts (42 :: (b ++ [42])) = _
    rw [Gl.parts_star, parts_tame hb, Gl.parts_star, Gl.parts_nil]
  rw [e, List.append_assoc]
  refine mt_skip x ?_
  rw [mt_self]
  have := mt_skip y (m := []) (u := []) (by rw [Gl.mt_nil]; rfl)
  rwa [List.append_nil] at this
theorem stars3 {a y : List UInt8} (ha : Tame a) (hy : Tame y) : Gl.whole true (a ++ [42, 42]) (a ++ y) = true := by
  refine whole_tame (ha.append hy) ?_
  have e : Gl.parts (a ++ [42, 42]) = a.map .byte ++ [.star, .star] := by
    rw [parts_tame ha, Gl.parts_star, Gl.parts_star, Gl.parts_nil]
  rw [e, mt_self]
  have h1 := mt_skip y (m := []) (u := []) (by rw [Gl.mt_nil]; rfl)
  rw [List.append_nil] at h1
  exact mt_skip [] h1

theorem tame_next {s : ByteArray} {k : Nat} (hk : k < s.size) (h : Hid (Tame (s.data.toList.take k)))
    (hx : (((((((s[k].toNat : Int) == 92) = false ∧ ((s[k].toNat : Int) == 42) = false) ∧ ((s[k].toNat : Int) == 63) = false) ∧ ((s[k].toNat : Int) == 91) = false) ∧ ((s[k].toNat : Int) == 93) = false) ∧ ((s[k].toNat : Int) == 46) = false)) :
    Hid (Tame (s.data.toList.take (k + 1))) := by
  show Tame _
  rw [drop_take1 hk]
  refine Tame.append h.out fun c hc => ?_
  simp only [List.mem_singleton] at hc
  subst hc
  obtain ⟨⟨⟨⟨⟨a, b⟩, c⟩, d⟩, e⟩, f⟩ := hx
  exact ⟨fun h => by rw [h] at a; exact absurd a (by decide), fun h => by rw [h] at b; exact absurd b (by decide), fun h => by rw [h] at c; exact absurd c (by decide), fun h => by rw [h] at d; exact absurd d (by decide),
    fun h => by rw [h] at e; exact absurd e (by decide), fun h => by rw [h] at f; exact absurd f (by decide)⟩

set_option maxRecDepth 100000 in
set_option maxHeartbeats 2000000 in
theorem starsLaw_calls (a b c x y : ByteArray) (w : World) (ha : a.size ≤ maxLen) (hb : b.size ≤ maxLen) (hc : c.size ≤ maxLen) (hx : x.size ≤ maxLen) (hy : y.size ≤ maxLen) :
    Calls Try.prog 6 #[.string a, .string b, .string c, .string x, .string y] w fun e w' => e = .returned (.bool true) ∧ Below w.heap.size w w' := by
  have hss : ∀ j : Nat, j < 5 → ∃ s : ByteArray, [a, b, c, x, y][j]? = some s ∧ s.size ≤ 9223372036854775807 := by
    intro j hj
    unfold maxLen at ha hb hc hx hy
    match j, hj with
    | 0, _ => exact ⟨a, rfl, ha⟩
    | 1, _ => exact ⟨b, rfl, hb⟩
    | 2, _ => exact ⟨c, rfl, hc⟩
    | 3, _ => exact ⟨x, rfl, hx⟩
    | 4, _ => exact ⟨y, rfl, hy⟩
  have hsl := Lib.hid hss
  clear hss ha hb hc hx hy
  go_enter Try.func6, Try.ntmps6
  go_wp2_with fail
  refine (alive_calls _).mono ?_
  rintro e w1 ⟨rfl, hB⟩
  go_wp2_with fail
  obtain ⟨W, hW0⟩ : ∃ W, W = w1.alloc (.cells #[.string a, .string b, .string c, .string x, .string y] 9) := ⟨_, rfl⟩
  obtain ⟨g, hg0⟩ : ∃ g, g = w1.heap.size := ⟨_, rfl⟩
  rw [← hW0, ← hg0]
  have hcell : ∀ (j : Nat) (s : ByteArray), [a, b, c, x, y][j]? = some s → W.cell? ⟨g, j, none⟩ = some (.string s) := by
    intro j s h
    rw [hW0, hg0]
    unfold World.cell?
    rw [heap_alloc_new]
    simp only [Option.isSome_none, Bool.false_eq_true, if_false]
    match j, h with
    | 0, h => simp at h; subst h; rfl
    | 1, h => simp at h; subst h; rfl
    | 2, h => simp at h; subst h; rfl
    | 3, h => simp at h; subst h; rfl
    | 4, h => simp at h; subst h; rfl
  have hce := Lib.hid hcell
  have hBW : Below w.heap.size w W := by rw [hW0]; exact hB.alloc hB.size _
  clear hcell hW0 hg0
  go_loop [13, 14, 15] (fun i _ _ => ∃ j : Nat, j ≤ 5 ∧ i = .int .i64 j ∧ Hid (∀ (m : Nat) (s : ByteArray), m < j → [a, b, c, x, y][m]? = some s → s.size ≤ 200 ∧ Tame s.data.toList)) (fun i _ _ => 5 - (intOf i).toNat)
  case atStart => exact ⟨0, Nat.zero_le _, rfl, fun m s h => absurd h (Nat.not_lt_zero _)⟩
  case round =>
    obtain ⟨j, hj, rfl, hrel⟩ := hrel
    by_cases hlt : j < 5
    · obtain ⟨s, hs, hsz⟩ := hsl.out j hlt
      have hcj := hce.out j s hs
      have hsj := Lib.hid hs
      clear hs
      by_cases h200 : s.size ≤ 200
      · go_wp2_with fail
        go_loop [14, 15] (fun i _ => ∃ k : Nat, k ≤ s.size ∧ i = .int .i64 k ∧ Hid (Tame (s.data.toList.take k))) (fun i _ => s.size - (intOf i).toNat)
        case atStart => exact ⟨0, Nat.zero_le _, rfl, fun c hc => by simp at hc⟩
        case round =>
          obtain ⟨k, hk, rfl, hrel2⟩ := hrel
          by_cases hlt2 : k < s.size
          · go_wp2
            all_goals first
              | (go_ret; exact ⟨rfl, hBW⟩)
              | (rename_i hx; exact ⟨⟨k + 1, by omega, by go_num, tame_next hlt2 hrel2 hx⟩, by simp [intOf]; omega⟩)
          · have hall := Lib.hid (show ∀ (m : Nat) (s : ByteArray), m < j + 1 → [a, b, c, x, y][m]? = some s → s.size ≤ 200 ∧ Tame s.data.toList from fun m s' hm hms => by
              by_cases e : m = j
              · subst e
                rw [hsj.out] at hms
                injection hms with hms
                subst hms
                have := hrel2.out
                rw [List.take_of_length_le (by rw [← Go.Lib.size_eq]; omega)] at this
                exact ⟨h200, this⟩
              · exact hrel.out m s' (by omega) hms)
            go_wp2
            exact ⟨⟨j + 1, by omega, by go_num, hall⟩, by simp [intOf]; omega⟩
      · go_wp2
        go_ret
        exact ⟨rfl, hBW⟩
    · have e : j = 5 := by omega
      subst e
      obtain ⟨ta, ua⟩ := hrel.out 0 a (by omega) rfl
      obtain ⟨tb, ub⟩ := hrel.out 1 b (by omega) rfl
      obtain ⟨tc, uc⟩ := hrel.out 2 c (by omega) rfl
      obtain ⟨tx, ux⟩ := hrel.out 3 x (by omega) rfl
      obtain ⟨ty, uy⟩ := hrel.out 4 y (by omega) rfl
      have q1 := Lib.hid (show Gl.whole true (a ++ ⟨#[42]⟩ ++ b ++ ⟨#[42]⟩ ++ c : ByteArray).data.toList (a ++ x ++ b ++ y ++ c : ByteArray).data.toList = true by
        simp only [ba_append]; exact stars1 ua ub uc ux uy)
      have q2 := Lib.hid (show Gl.whole true (⟨#[42]⟩ ++ b ++ ⟨#[42]⟩ : ByteArray).data.toList (x ++ b ++ y : ByteArray).data.toList = true by
        simp only [ba_append]; exact stars2 ub ux uy)
      have q3 := Lib.hid (show Gl.whole true (a ++ ⟨#[42, 42]⟩ : ByteArray).data.toList (a ++ y : ByteArray).data.toList = true by
        simp only [ba_append]; exact stars3 ua uy)
      have s1 : (⟨#[42]⟩ : ByteArray).size = 1 := rfl
      have s2 : (⟨#[42, 42]⟩ : ByteArray).size = 2 := rfl
      have z1 := Lib.hid (show (a ++ ⟨#[42]⟩ ++ b ++ ⟨#[42]⟩ ++ c : ByteArray).size ≤ 1000000 by simp only [ByteArray.size_append, s1]; omega)
      have z2 := Lib.hid (show (a ++ x ++ b ++ y ++ c : ByteArray).size ≤ 1000000 by simp only [ByteArray.size_append]; omega)
      have z3 := Lib.hid (show (⟨#[42]⟩ ++ b ++ ⟨#[42]⟩ : ByteArray).size ≤ 1000000 by simp only [ByteArray.size_append, s1]; omega)
      have z4 := Lib.hid (show (x ++ b ++ y : ByteArray).size ≤ 1000000 by simp only [ByteArray.size_append]; omega)
      have z5 := Lib.hid (show (a ++ ⟨#[42, 42]⟩ : ByteArray).size ≤ 1000000 by simp only [ByteArray.size_append, s2]; omega)
      have z6 := Lib.hid (show (a ++ y : ByteArray).size ≤ 1000000 by simp only [ByteArray.size_append]; omega)
      clear s1 s2 ua ub uc ux uy
      go_wp2_with fail
      refine (match_calls _ _ _ ?_ ?_).mono ?_
      · exact z1.out
      · exact z2.out
      rintro e3 w3 ⟨rfl, hB3⟩
      rw [q1.out]
      go_wp2_with fail
      refine (match_calls _ _ _ ?_ ?_).mono ?_
      · exact z3.out
      · exact z4.out
      rintro e4 w4 ⟨rfl, hB4⟩
      rw [q2.out]
      go_wp2_with fail
      refine (match_calls _ _ _ ?_ ?_).mono ?_
      · exact z5.out
      · exact z6.out
      rintro e5 w5 ⟨rfl, hB5⟩
      rw [q3.out]
      go_wp2
      go_ret
      exact ⟨rfl, ((hB5.mono' hB4).mono' hB3).mono' hBW⟩
end Go.Proofs.Ytfnmncghgmnaaaa
