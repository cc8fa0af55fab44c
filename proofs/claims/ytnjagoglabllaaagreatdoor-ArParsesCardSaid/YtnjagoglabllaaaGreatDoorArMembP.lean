/-
  What the reference's Members reads, and that it reads every archive. Plain Lean. Conditions: none.
-/
import Derived.Test.YtnjagoglabllaaaGreatDoorArReadL
import Derived.Test.YtnjagoglabllaaaGreatDoorArLong
namespace Go.Proofs.YtnjagoglabllaaaGreatDoor
open Go.Lib (decDigits nDigits)

/-- Where a field's number ends. -/
def blankAt (s : Bs) : Nat := if idxB s 32 < 0 then s.length else (idxB s 32).toNat
def digP (s : Bs) : Int :=
  if blankAt s = 0 ∨ 12 < blankAt s then -1 else
  match Lib.decFrom 0 (s.take (blankAt s)) with
  | some n => (n : Int)
  | none => -1
/-- The name that a head tells. -/
def mnameP (nm names : Bs) : Option Bs :=
  if nm.head? = some 47 then
    if digP (nm.drop 1) < 0 ∨ (names.length : Int) < digP (nm.drop 1) then none else
    if findB (names.drop (digP (nm.drop 1)).toNat) [47, 10] < 0 then none else some ((names.drop (digP (nm.drop 1)).toNat).take (findB (names.drop (digP (nm.drop 1)).toNat) [47, 10]).toNat)
  else if idxB nm 47 < 0 then none else some (nm.take (idxB nm 47).toNat)
def mstepP (b : Bs) (k : Nat) (names : Bs) : Option (Option Mem × Bs × Nat) :=
  if digP (((headAt b k).drop 48).take 10) < 0 ∨ ((b.length - (k + 60) : Nat) : Int) < digP (((headAt b k).drop 48).take 10) then none else
  if k = 8 ∧ (headAt b k).take 16 = padB [47, 47] 16 then some (none, (b.drop (k + 60)).take (digP (((headAt b k).drop 48).take 10)).toNat, k + 60 + evenN (digP (((headAt b k).drop 48).take 10)).toNat) else
  match mnameP ((headAt b k).take 16) names with
  | none => none
  | some n => some (some ⟨n, digP (((headAt b k).drop 16).take 12), (b.drop (k + 60)).take (digP (((headAt b k).drop 48).take 10)).toNat⟩, names, k + 60 + evenN (digP (((headAt b k).drop 48).take 10)).toNat)
def mFrom (b : Bs) : Nat → Nat → Bs → Option (List Mem)
  | 0, _, _ => none
  | f + 1, k, names =>
    if b.length < k + 60 then some [] else
    match mstepP b k names with
    | none => none
    | some (none, nm, a) => mFrom b f a nm
    | some (some m, nm, a) => (mFrom b f a nm).map (m :: ·)
def memP (b : Bs) : Option (List Mem) := mFrom b (b.length + 1) 8 []

theorem pad_at (s : Bs) (n : Nat) (c : UInt8) (hc : c ∉ s) (hcc : c ≠ 32) : c ∉ padB s n := by
  unfold padB
  simp [hc, hcc]
theorem blank_pad (s : Bs) (n : Nat) (h : (32 : UInt8) ∉ s) : blankAt (padB s n) = s.length := by
  unfold blankAt padB
  by_cases hn : n - s.length = 0
  · rw [hn, List.replicate_zero, List.append_nil, if_pos ((idxB_neg s 32).2 h)]
  · obtain ⟨m, hm⟩ : ∃ m, n - s.length = m + 1 := ⟨n - s.length - 1, by omega⟩
    have : idxB (s ++ List.replicate (n - s.length) 32) 32 = (s.length : Nat) := by
      refine idx_at (i := s.length) ?_ ?_
      · intro x hx
        rw [List.take_append_of_le_length (Nat.le_refl _), List.take_length] at hx
        exact fun e => h (e ▸ hx)
      · rw [hm, List.replicate_succ, List.getElem?_append_right (Nat.le_refl _), Nat.sub_self]; rfl
    rw [this, if_neg (by omega), Int.toNat_natCast]
theorem dec_blank (n : Nat) : (32 : UInt8) ∉ decDigits n := by
  intro h
  have := dec_digits n 32 h
  simp at this
theorem dig_pad (n w : Nat) (h : (decDigits n).length ≤ 12) : digP (padB (decDigits n) w) = (n : Int) := by
  unfold digP
  have hl := Go.Lib.decDigits_length n
  have hp := Go.Lib.nDigits_pos n
  rw [blank_pad _ _ (dec_blank n), if_neg (by omega)]
  have : (padB (decDigits n) w).take (decDigits n).length = decDigits n := by
    unfold padB
    rw [List.take_append_of_le_length (Nat.le_refl _), List.take_length]
  rw [this, decFrom_dec]
theorem pad_cons (c : UInt8) (s : Bs) (n : Nat) : padB (c :: s) (n + 1) = c :: padB s n := by
  unfold padB
  simp
theorem find_slash : ∀ (a t : Bs) (s : Bs) (k f : Nat), (47 : UInt8) ∉ a → s.drop k = a ++ 47 :: 10 :: t → a.length < f → findFrom s [47, 10] k f = ((k + a.length : Nat) : Int)
  | [], t, s, k, f, _, h, hf => by
    cases f with
    | zero => simp at hf
    | succ f => rw [findFrom, h]; simp
  | x :: a, t, s, k, f, hx, h, hf => by
    cases f with
    | zero => simp at hf
    | succ f =>
      have hne : ¬ x = 47 := fun e => hx (by rw [e]; simp)
      rw [findFrom, h, if_neg]
      · have h2 : s.drop (k + 1) = a ++ 47 :: 10 :: t := by
          rw [← List.drop_drop, h]; rfl
        rw [find_slash a t s (k + 1) f (fun hm => hx (by simp [hm])) h2 (by simpa using hf), List.length_cons]
        congr 1; omega
      · intro e
        have := congrArg List.head? e
        simp at this
        exact hne this
theorem find_name (a t : Bs) (h : (47 : UInt8) ∉ a) : findB (a ++ [47, 10] ++ t) [47, 10] = (a.length : Nat) := by
  unfold findB
  rw [find_slash a t _ 0 _ h (by simp) (by simp only [List.length_append, List.length_cons, List.length_nil]; omega), Nat.zero_add]
theorem mstep_one {b t names t' : Bs} {k c : Nat} {x : Mem} (hf : fairB x = true) (hc : c < 1000000000000) (hd : x.data.length < 10000000000) (h : b.drop k = oneB c x ++ t) (hn : longM x = true → names.drop c = x.name ++ [47, 10] ++ t' ∧ c ≤ names.length) :
    mstepP b k names = some (some x, names, k + (60 + evenN x.data.length)) ∧ b.drop (k + (60 + evenN x.data.length)) = t ∧ k + (60 + evenN x.data.length) ≤ b.length ∧ ¬ b.length < k + 60 := by
  obtain ⟨p1, p2, p3, p4, p5⟩ := fair_parts hf
  obtain ⟨f1, f2⟩ := name_free hf
  have hdate := date_len p4 p5
  have hname := name_len c x hc
  obtain ⟨e1, e2, e3, e4, e5, e6⟩ := size_at hname hdate (by decide) (by decide) hd h
  obtain ⟨q1, q2, q3⟩ := head_parts (owner := [48]) (mode := [49, 48, 48, 54, 52, 52]) hname hdate (by decide) (by decide) hd
  have hsz : digP (((headAt b k).drop 48).take 10) = (x.data.length : Nat) := by rw [e1, q3, dig_pad _ _ (Nat.le_trans (dec_len (k := 10) (by simpa using hd) (by decide)) (by decide))]
  have hdt : digP (((headAt b k).drop 16).take 12) = x.date := by
    rw [e1, q2]
    obtain ⟨D, hD⟩ : ∃ D : Nat, x.date = (D : Int) := ⟨x.date.toNat, by omega⟩
    have hD2 : D < 1000000000000 := by omega
    unfold dateB
    rw [hD, itoa_nat, dig_pad _ _ (dec12 hD2)]
  have hnot : ¬ padB (nameB c x) 16 = padB [47, 47] 16 := by
    intro e
    have h1 := congrArg (fun s => Lib.trimRightB s 32) e
    rw [trim_pad _ _ name_last, trim_pad _ _ (by decide)] at h1
    unfold nameB at h1
    split at h1
    · injection h1 with _ h1
      have := dec_digits c 47 (by rw [h1]; simp)
      simp at this
    · have h2 := congrArg (List.take 1) h1
      have h3 := congrArg List.length h1
      rw [List.length_append] at h3
      simp at h3
      rw [List.take_append_of_le_length (by omega), List.take_of_length_le (by omega)] at h2
      rw [h2] at f1; simp at f1
  have hev : x.data.length ≤ evenN x.data.length := by unfold evenN; omega
  have hmn : mnameP (padB (nameB c x) 16) names = some x.name := by
    unfold mnameP nameB
    by_cases hm : longM x = true
    · obtain ⟨g1, g2⟩ := hn hm
      rw [if_pos hm, pad_cons 47 (decDigits c) 15, if_pos (show (47 :: padB (decDigits c) 15).head? = some 47 from rfl), List.drop_one, List.tail_cons, dig_pad _ _ (dec12 hc), if_neg (by omega), Int.toNat_natCast, g1, find_name _ _ f1, if_neg (by omega), Int.toNat_natCast]
      congr 1
      simp
    · obtain ⟨y, r, hy⟩ : ∃ y r, x.name = y :: r := by
        cases hh : x.name with
        | nil => exact absurd hh p1
        | cons y r => exact ⟨y, r, rfl⟩
      have hy47 : ¬ y = 47 := fun e => f1 (by rw [hy, e]; simp)
      have hidx : idxB (padB (x.name ++ [47]) 16) 47 = (x.name.length : Nat) := by
        refine idx_at ?_ ?_
        · intro z hz
          unfold padB at hz
          rw [List.append_assoc, List.take_append_of_le_length (Nat.le_refl _), List.take_length] at hz
          exact fun e => f1 (e ▸ hz)
        · unfold padB
          rw [List.append_assoc, List.getElem?_append_right (Nat.le_refl _), Nat.sub_self]; rfl
      rw [if_neg hm, if_neg (by unfold padB; rw [hy]; simpa using hy47), hidx, if_neg (by omega), Int.toNat_natCast]
      congr 1
      unfold padB
      rw [List.append_assoc, List.take_append_of_le_length (Nat.le_refl _), List.take_length]
  refine ⟨?_, e5, e6, by omega⟩
  unfold mstepP
  rw [hsz, if_neg (by omega), Int.toNat_natCast, hdt, e1, q1, if_neg (fun h => hnot h.2), hmn, e3]
  dsimp only
  rw [Nat.add_assoc]
theorem mstep_table {b t L names : Bs} (hL : L.length < 10000000000) (h : b.drop 8 = headB [47, 47] [] [] [] L.length ++ evenB L ++ t) :
    mstepP b 8 names = some (none, L, 8 + (60 + evenN L.length)) ∧ b.drop (8 + (60 + evenN L.length)) = t ∧ 8 + (60 + evenN L.length) ≤ b.length ∧ ¬ b.length < 8 + 60 := by
  obtain ⟨e1, e2, e3, e4, e5, e6⟩ := size_at (name := [47, 47]) (date := []) (owner := []) (mode := []) (by decide) (by decide) (by decide) (by decide) hL h
  obtain ⟨q1, -, q3⟩ := head_parts (name := [47, 47]) (date := []) (owner := []) (mode := []) (by decide) (by decide) (by decide) (by decide) hL
  have hsz : digP (((headAt b 8).drop 48).take 10) = (L.length : Nat) := by rw [e1, q3, dig_pad _ _ (Nat.le_trans (dec_len (k := 10) (by simpa using hL) (by decide)) (by decide))]
  have hev : L.length ≤ evenN L.length := by unfold evenN; omega
  refine ⟨?_, e5, e6, by omega⟩
  unfold mstepP
  rw [hsz, if_neg (by omega), Int.toNat_natCast, e1, q1, if_pos ⟨rfl, rfl⟩, e3, Nat.add_assoc]
theorem mem_body {b : Bs} {l : List Mem} (hf : l.all fairB = true) (hs : ∀ x ∈ l, x.data.length < 10000000000) (ht : (tableB l).length < 100000000000) : ∀ (rest done : List Mem) (f k : Nat), l = done ++ rest → rest.length < f → k ≤ b.length → b.drop k = bodyB (tableB done).length rest → mFrom b f k (tableB l) = some rest
  | [], done, f, k, hl, hfu, hk, hb => by
    cases f with
    | zero => simp at hfu
    | succ f =>
      have : k = b.length := by
        have := congrArg List.length hb
        rw [List.length_drop] at this
        simp [bodyB] at this
        omega
      rw [mFrom, if_pos (by omega)]
  | x :: r, done, f, k, hl, hfu, hk, hb => by
    cases f with
    | zero => simp at hfu
    | succ f =>
      have hx : x ∈ l := by rw [hl]; simp
      have hfx : fairB x = true := List.all_eq_true.1 hf x hx
      have htl : tableB l = tableB done ++ tableB (x :: r) := by rw [hl, table_app]
      have hc : (tableB done).length < 1000000000000 := by rw [htl, List.length_append] at ht; omega
      rw [bodyB] at hb
      obtain ⟨e1, e2, e3, e4⟩ := mstep_one (names := tableB l) (t' := tableB r) hfx hc (hs x hx) hb (fun hm => ⟨by rw [htl, List.drop_append_of_le_length (Nat.le_refl _), List.drop_length, List.nil_append, tableB, if_pos hm], by rw [htl, List.length_append]; omega⟩)
      rw [mFrom, if_neg e4, e1]
      dsimp only
      have ih := mem_body hf hs ht r (done ++ [x]) f (k + (60 + evenN x.data.length)) (by rw [hl]; simp) (by simpa using hfu) e3 (by
        rw [e2, table_app]
        congr 1
        unfold nextAt
        by_cases hm : longM x = true
        · rw [if_pos hm, tableB, if_pos hm]; simp [tableB]; omega
        · rw [if_neg hm, tableB, if_neg hm]; simp [tableB])
      rw [ih]; rfl
/-- What is written is read. -/
theorem mem_arch {l : List Mem} {b : Bs} (h : archP l = (b, 0)) : memP b = some l := by
  unfold archP at h
  split at h
  · injection h with _ h; cases h
  · split at h
    · injection h with _ h; cases h
    · rename_i h1 h2
      injection h with hb _
      have hf : l.all fairB = true := by simpa using h2
      have hsz : ¬ 65536 < sizeN l := by omega
      obtain ⟨hs1, hs2⟩ := size_small hsz
      have hlen := arch_len hf hsz
      have hsum := sum_len l
      have hsn : 8 + sumN l ≤ sizeN l := by unfold sizeN; omega
      subst hb
      have hd8 : (archB l).drop 8 = headsB l ++ bodyB 0 l := by unfold archB; rw [List.append_assoc]; rfl
      unfold memP
      have body := fun f k hfu hk hb => mem_body (b := archB l) hf (fun x hx => by have := (hs1 x hx).2; omega) (by omega) l [] f k rfl hfu hk hb
      by_cases h0 : 0 < (tableB l).length
      · unfold headsB at hd8
        rw [if_pos h0] at hd8
        obtain ⟨e1, e2, e3, e4⟩ := mstep_table (names := []) (by omega) hd8
        rw [mFrom, if_neg e4, e1]
        dsimp only
        exact body _ _ (by omega) e3 e2
      · have ht : tableB l = [] := List.length_eq_zero_iff.1 (by omega)
        unfold headsB at hd8
        rw [if_neg h0, List.nil_append] at hd8
        have := body ((archB l).length + 1) 8 (by omega) (by omega) hd8
        rwa [ht] at this
end Go.Proofs.YtnjagoglabllaaaGreatDoor
