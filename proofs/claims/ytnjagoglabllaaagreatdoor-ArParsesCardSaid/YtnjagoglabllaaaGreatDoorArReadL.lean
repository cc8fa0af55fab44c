/-
  Every archive that Write writes is read as its members. Plain Lean. Conditions: none.
-/
import Derived.Test.YtnjagoglabllaaaGreatDoorArReadP
namespace Go.Proofs.YtnjagoglabllaaaGreatDoor
open Go.Lib (decDigits nDigits)

theorem index_ten : ∀ (a t : Bs), (10 : UInt8) ∉ a → Lib.index (a ++ 10 :: t) [10] = a.length
  | [], t, _ => by simp [Lib.index]
  | x :: a, t, h => by
    have hx : ¬ (10 : UInt8) = x := fun e => h (by simp [e])
    have ih := index_ten a t (fun hm => h (by simp [hm]))
    rw [List.cons_append, Lib.index]
    have hp : [10].isPrefixOf (x :: (a ++ 10 :: t)) = false := by
      simp [List.isPrefixOf, hx]
    rw [hp, if_neg (by simp), ih]
    have : ((a.length : Int) == -1) = false := by rw [beq_eq_false_iff_ne]; omega
    rw [this, if_neg (by simp)]
    simp
theorem cut_ten (a t : Bs) (h : (10 : UInt8) ∉ a) : (Lib.cut (a ++ 10 :: t) [10]).1 = a := by
  unfold Lib.cut
  rw [index_ten a t h, if_pos (by omega)]
  simp
theorem suffix_slash (a : Bs) : Lib.trimSuffix (a ++ [47]) [47] = a := by
  unfold Lib.trimSuffix Lib.hasSuffix
  rw [if_pos (by rw [List.isSuffixOf_iff_suffix]; exact List.suffix_append _ _)]
  simp
theorem name_free {x : Mem} (h : fairB x = true) : (47 : UInt8) ∉ x.name ∧ (10 : UInt8) ∉ x.name := by
  have := (fair_parts h).2.2.1
  unfold hasZ at this
  simp only [Bool.or_eq_false_iff, decide_eq_false_iff_not] at this
  exact ⟨this.1.1, this.2⟩
theorem head_parts {name date owner mode : Bs} {size : Nat} (h1 : name.length ≤ 16) (h2 : date.length ≤ 12) (h3 : owner.length ≤ 6) (h4 : mode.length ≤ 8) (h5 : size < 10000000000) :
    (headB name date owner mode size).take 16 = padB name 16 ∧ ((headB name date owner mode size).drop 16).take 12 = padB date 12 ∧ ((headB name date owner mode size).drop 48).take 10 = padB (decDigits size) 10 := by
  have l1 := padB_len h1
  have l2 := padB_len h2
  have l3 := padB_len h3
  have l4 := padB_len h4
  have l5 := padB_len (dec_len (n := size) (k := 10) (by simpa using h5) (by decide))
  unfold headB
  refine ⟨?_, ?_, ?_⟩
  · simp only [List.append_assoc]
    rw [List.take_append_of_le_length (by omega), List.take_of_length_le (by omega)]
  · simp only [List.append_assoc]
    rw [List.drop_append_of_le_length (by omega), List.drop_of_length_le (by omega), List.nil_append, List.take_append_of_le_length (by omega), List.take_of_length_le (by omega)]
  · have e : (padB name 16 ++ padB date 12 ++ padB owner 6 ++ padB owner 6 ++ padB mode 8).length = 48 := by simp only [List.length_append]; omega
    rw [List.append_assoc _ _ [96, 10], List.drop_append_of_le_length (by omega), List.drop_of_length_le (by omega), List.nil_append, List.take_append_of_le_length (by omega), List.take_of_length_le (by omega)]
theorem head_at {b H t : Bs} {k : Nat} (h : b.drop k = H ++ t) (hl : H.length = 60) : headAt b k = H ∧ (b.drop (k + 60)) = t ∧ k + 60 + t.length = b.length ∨ H = [] := by
  left
  unfold headAt
  refine ⟨?_, ?_, ?_⟩
  · rw [h, List.take_append_of_le_length (by omega), List.take_of_length_le (by omega)]
  · rw [← List.drop_drop, h, List.drop_append_of_le_length (by omega), List.drop_of_length_le (by omega), List.nil_append]
  · have := congrArg List.length h
    rw [List.length_drop, List.length_append] at this
    omega
theorem size_at {b name date owner mode d t : Bs} {k : Nat} (h1 : name.length ≤ 16) (h2 : date.length ≤ 12) (h3 : owner.length ≤ 6) (h4 : mode.length ≤ 8) (h5 : d.length < 10000000000) (h : b.drop k = headB name date owner mode d.length ++ evenB d ++ t) :
    headAt b k = headB name date owner mode d.length ∧ sizeAt b k = some d.length ∧ (b.drop (k + 60)).take d.length = d ∧ ¬ b.length - k < 60 ∧ b.drop (k + (60 + evenN d.length)) = t ∧ k + (60 + evenN d.length) ≤ b.length := by
  have hl := headB_len h1 h2 h3 h4 h5
  rw [List.append_assoc] at h
  rcases head_at h hl with ⟨e1, e2, e3⟩ | e
  · have he := evenB_len d
    rw [List.length_append, he] at e3
    have hev : d.length ≤ evenN d.length := by unfold evenN; omega
    have hd1 : (evenB d ++ t).take d.length = d := by
      unfold evenB
      split
      · rw [List.append_assoc, List.take_append_of_le_length (Nat.le_refl _), List.take_length]
      · rw [List.take_append_of_le_length (Nat.le_refl _), List.take_length]
    refine ⟨e1, ?_, by rw [e2, hd1], by omega, ?_, by omega⟩
    · unfold sizeAt
      rw [e1, (head_parts h1 h2 h3 h4 h5).2.2, trim_pad _ _ (dec_last _), atoi_dec]
      dsimp only
      rw [if_neg (by rw [Int.toNat_natCast]; omega), Int.toNat_natCast]
    · rw [← Nat.add_assoc, ← List.drop_drop, e2, ← he, List.drop_append_of_le_length (Nat.le_refl _), List.drop_length, List.nil_append]
  · rw [e] at hl; simp at hl
theorem name_last {c : Nat} {x : Mem} : (nameB c x).getLast? ≠ some 32 := by
  unfold nameB
  split
  · intro h
    cases hd : decDigits c with
    | nil => exact dec_ne c hd
    | cons y r =>
      rw [hd, List.getLast?_cons_cons, ← hd] at h
      exact dec_last c h
  · simp
theorem step_one {b t names t' : Bs} {k c : Nat} {x : Mem} (hf : fairB x = true) (hc : c < 1000000000000) (hd : x.data.length < 10000000000) (h : b.drop k = oneB c x ++ t) (hn : longM x = true → names.drop c = x.name ++ [47, 10] ++ t' ∧ c ≤ names.length) :
    stepP b k names = some (some x, names, k + (60 + evenN x.data.length)) ∧ b.drop (k + (60 + evenN x.data.length)) = t ∧ k + (60 + evenN x.data.length) ≤ b.length ∧ k ≠ b.length := by
  obtain ⟨p1, p2, p3, p4, p5⟩ := fair_parts hf
  obtain ⟨f1, f2⟩ := name_free hf
  have hdate := date_len p4 p5
  have hname := name_len c x hc
  obtain ⟨e1, e2, e3, e4, e5, e6⟩ := size_at hname hdate (by decide) (by decide) hd h
  obtain ⟨q1, q2, -⟩ := head_parts (owner := [48]) (mode := [49, 48, 48, 54, 52, 52]) hname hdate (by decide) (by decide) hd
  have hfield : fieldAt b k = nameB c x := by unfold fieldAt; rw [e1, q1, trim_pad _ _ name_last]
  have hdt : dateAt b k = some x.date := by
    unfold dateAt
    rw [e1, q2]
    obtain ⟨D, hD⟩ : ∃ D : Nat, x.date = (D : Int) := ⟨x.date.toNat, by omega⟩
    unfold dateB
    rw [hD, itoa_nat, trim_pad _ _ (dec_last _), atoi_dec]
  have hne : nameB c x ≠ [47, 47] := by
    unfold nameB
    split
    · intro e
      injection e with _ e
      have := dec_digits c 47 (by rw [e]; simp)
      simp at this
    · intro e
      have : x.name = [47] := by
        have h2 := congrArg (List.take 1) e
        have h3 := congrArg List.length e
        rw [List.length_append] at h3
        simp at h3
        rw [List.take_append_of_le_length (by omega), List.take_of_length_le (by omega)] at h2
        exact h2
      rw [this] at f1; simp at f1
  have hlong : longAt (nameB c x) names = some (x.name ++ [47]) := by
    unfold longAt nameB
    by_cases hm : longM x = true
    · obtain ⟨g1, g2⟩ := hn hm
      rw [if_pos hm, if_pos (by simp [Lib.hasPrefix, List.isPrefixOf]), List.drop_one, List.tail_cons, atoi_dec]
      dsimp only
      rw [if_neg (by omega), Int.toNat_natCast, g1, show x.name ++ [47, 10] ++ t' = (x.name ++ [47]) ++ 10 :: t' by simp, cut_ten _ _ (by simp [f2])]
    · rw [if_neg hm]
      obtain ⟨y, r, hy⟩ : ∃ y r, x.name = y :: r := by
        cases hh : x.name with
        | nil => exact absurd hh p1
        | cons y r => exact ⟨y, r, rfl⟩
      have : ¬ (47 : UInt8) = y := fun e => f1 (by rw [hy, e]; simp)
      rw [if_neg (by rw [hy]; simp [Lib.hasPrefix, List.isPrefixOf, this])]
  refine ⟨?_, e5, e6, by omega⟩
  unfold stepP
  rw [if_neg e4, e2]
  dsimp only
  rw [hfield, if_neg hne, hdt]
  dsimp only
  rw [hlong]
  dsimp only
  rw [suffix_slash, e3]
theorem step_table {b t L names : Bs} {k : Nat} (hL : L.length < 10000000000) (h : b.drop k = headB [47, 47] [] [] [] L.length ++ evenB L ++ t) :
    stepP b k names = some (none, L, k + (60 + evenN L.length)) ∧ b.drop (k + (60 + evenN L.length)) = t ∧ k + (60 + evenN L.length) ≤ b.length ∧ k ≠ b.length := by
  obtain ⟨e1, e2, e3, e4, e5, e6⟩ := size_at (name := [47, 47]) (date := []) (owner := []) (mode := []) (by decide) (by decide) (by decide) (by decide) hL h
  obtain ⟨q1, -, -⟩ := head_parts (name := [47, 47]) (date := []) (owner := []) (mode := []) (by decide) (by decide) (by decide) (by decide) hL
  have hfield : fieldAt b k = [47, 47] := by unfold fieldAt; rw [e1, q1, trim_pad _ _ (by decide)]
  refine ⟨?_, e5, e6, by omega⟩
  unfold stepP
  rw [if_neg e4, e2]
  dsimp only
  rw [hfield, if_pos rfl, e3]
theorem read_body {b : Bs} {l : List Mem} (hf : l.all fairB = true) (hs : ∀ x ∈ l, x.data.length < 10000000000) (ht : (tableB l).length < 100000000000) : ∀ (rest done : List Mem) (f k : Nat), l = done ++ rest → rest.length < f → k ≤ b.length → b.drop k = bodyB (tableB done).length rest → readFrom b f k (tableB l) = some rest
  | [], done, f, k, hl, hfu, hk, hb => by
    cases f with
    | zero => simp at hfu
    | succ f =>
      have : k = b.length := by
        have := congrArg List.length hb
        rw [List.length_drop] at this
        simp [bodyB] at this
        omega
      rw [readFrom, if_pos this]
  | x :: r, done, f, k, hl, hfu, hk, hb => by
    cases f with
    | zero => simp at hfu
    | succ f =>
      have hx : x ∈ l := by rw [hl]; simp
      have hfx : fairB x = true := List.all_eq_true.1 hf x hx
      have htl : tableB l = tableB done ++ tableB (x :: r) := by rw [hl, table_app]
      have hc : (tableB done).length < 1000000000000 := by rw [htl, List.length_append] at ht; omega
      rw [bodyB] at hb
      obtain ⟨e1, e2, e3, e4⟩ := step_one (names := tableB l) (t' := tableB r) hfx hc (hs x hx) hb (fun hm => ⟨by rw [htl, List.drop_append_of_le_length (Nat.le_refl _), List.drop_length, List.nil_append, tableB, if_pos hm], by rw [htl, List.length_append]; omega⟩)
      rw [readFrom, if_neg e4, e1]
      dsimp only
      have ih := read_body hf hs ht r (done ++ [x]) f (k + (60 + evenN x.data.length)) (by rw [hl]; simp) (by simpa using hfu) e3 (by
        rw [e2, table_app]
        congr 1
        unfold nextAt
        by_cases hm : longM x = true
        · rw [if_pos hm, tableB, if_pos hm]; simp [tableB]; omega
        · rw [if_neg hm, tableB, if_neg hm]; simp [tableB])
      rw [ih]; rfl
theorem sum_len : ∀ l : List Mem, 60 * l.length ≤ sumN l
  | [] => Nat.le_refl _
  | x :: r => by rw [sumN, List.length_cons]; have := sum_len r; omega
/-- What is written is read. -/
theorem read_arch {l : List Mem} {b : Bs} (h : archP l = (b, 0)) : readP b = some l := by
  unfold archP at h
  split at h
  · injection h with _ h; cases h
  · split at h
    · injection h with _ h; cases h
    · rename_i h1 h2
      injection h with hb _
      have hf : l.all fairB = true := by simpa using h2
      have hsz : ¬ 65536 < sizeN l := by omega
      obtain ⟨hs1, hs2⟩ := size_small hsz
      have hlen := arch_len hf hsz
      have hsum := sum_len l
      have hsn : 8 + sumN l ≤ sizeN l := by unfold sizeN; omega
      subst hb
      have hd8 : (archB l).drop 8 = headsB l ++ bodyB 0 l := by unfold archB; rw [List.append_assoc]; rfl
      unfold readP
      rw [if_pos (by unfold archB; rw [List.append_assoc, Lib.hasPrefix, List.isPrefixOf_iff_prefix]; exact List.prefix_append _ _)]
      have body := fun f k hfu hk hb => read_body (b := archB l) hf (fun x hx => by have := (hs1 x hx).2; omega) (by omega) l [] f k rfl hfu hk hb
      by_cases h0 : 0 < (tableB l).length
      · unfold headsB at hd8
        rw [if_pos h0] at hd8
        obtain ⟨e1, e2, e3, e4⟩ := step_table (names := []) (by omega) hd8
        rw [show (archB l).length + 1 = (archB l).length + 1 from rfl, readFrom, if_neg e4, e1]
        dsimp only
        exact body _ _ (by omega) e3 e2
      · have ht : tableB l = [] := List.length_eq_zero_iff.1 (by omega)
        unfold headsB at hd8
        rw [if_neg h0, List.nil_append] at hd8
        have := body ((archB l).length + 1) 8 (by omega) (by omega) hd8
        rwa [ht] at this
end Go.Proofs.YtnjagoglabllaaaGreatDoor
