/-
  Slices of rules: how they read; the suffixes of a list of rules (21). Conditions: lists of at most a million strings.
-/
import Derived.Test.YtfnmncghgmnaaabDb5
import Derived.Deep.MidRow
namespace Go.Proofs.Ytfnmncghgmnaaab
open Go.RowKit

/-- A rule, and the values of its four lists. -/
structure Pl where
  r : Ru
  t : Value
  p : Value
  o : Value
  rc : Value
def Pl.cells (x : Pl) : List Value := [x.t, x.p, x.o, .bool x.r.double, .bool x.r.pattern, .bool x.r.terminal, .string x.r.static, x.rc, .bool x.r.has, .string x.r.again, .bool x.r.builtin]
def Pl.at (x : Pl) (w : World) : Prop := RuAt w x.r x.t x.p x.o x.rc
def Pl.new (x : Pl) (base : Nat) : Prop := NewAt base x.t ∧ NewAt base x.p ∧ NewAt base x.o ∧ NewAt base x.rc
def flat : List Pl → List Value
  | [] => []
  | x :: l => x.cells ++ flat l
theorem flat_append : ∀ (l m : List Pl), flat (l ++ m) = flat l ++ flat m
  | [], m => rfl
  | x :: l, m => by simp [flat, flat_append l m]
theorem flat_length : ∀ l : List Pl, (flat l).length = l.length * 11
  | [] => rfl
  | x :: l => by simp [flat, flat_length l, Pl.cells]; omega
theorem flat_get : ∀ (l : List Pl) (k j : Nat) (x : Pl), l[k]? = some x → j < 11 → (flat l)[k * 11 + j]? = x.cells[j]?
  | [], k, j, x, h, _ => by simp at h
  | y :: l, 0, j, x, h, hj => by
    simp at h; subst h
    rw [flat, List.getElem?_append_left (by simp [Pl.cells]; omega), Nat.zero_mul, Nat.zero_add]
  | y :: l, k + 1, j, x, h, hj => by
    simp at h
    rw [flat, List.getElem?_append_right (by simp [Pl.cells]; omega)]
    have := flat_get l k j x h hj
    rw [← this]
    congr 1
    simp [Pl.cells]; omega
theorem flat_one (l : List Pl) : ∀ v ∈ flat l, v.oneCell' = true → True := fun _ _ _ => trivial

/-- A slice of rules that reads as a list. -/
def RowAt (w : World) (v : Value) (xs : List Pl) : Prop :=
  ∃ (a : Option Addr) (n c : Nat), v = .slice a n c ∧ n = xs.length ∧ n ≤ c ∧ c ≤ maxLen ∧
    (0 < n → ∃ b off, a = some ⟨b, off, none⟩ ∧ b < w.heap.size ∧ ∀ (k : Nat) (x : Pl), xs[k]? = some x → w.rangeAt b (off + k * 11) x.cells) ∧ (a = none → c = 0)
theorem RowAt.below {w w' : World} {v : Value} {l : List Pl} (h : RowAt w v l) (hb : Below w.heap.size w w') : RowAt w' v l := by
  obtain ⟨a, n, c, h1, h2, h3, h3', h4, h5⟩ := h
  refine ⟨a, n, c, h1, h2, h3, h3', fun hn => ?_, h5⟩
  obtain ⟨b, off, ha, hl, hc⟩ := h4 hn
  exact ⟨b, off, ha, Nat.lt_of_lt_of_le hl hb.size, fun k s hk j v hj => (hb.cell (p := ⟨b, off + k * 11 + j, none⟩) hl).trans (hc k s hk j v hj)⟩
theorem rowAt_own {w : World} {base : Nat} {v : Value} {l : List Pl} (h : w.ownsRow base 43 11 v l.length (flat l)) : RowAt w v l := by
  have hc := fun g => h.cells (g := g)
  obtain ⟨hl, h⟩ := h
  rcases h with ⟨rfl, hn⟩ | ⟨g, cap, cur, rfl, hb, hg, hn, hm, _⟩
  · exact ⟨none, 0, 0, rfl, hn.symm, Nat.le_refl _, Nat.zero_le _, fun h => absurd h (Nat.lt_irrefl _), fun _ => rfl⟩
  · have ad : ∀ j, (⟨g, 0, none⟩ : Addr).add j = ⟨g, j, none⟩ := fun j => by unfold Addr.add; split <;> simp_all
    refine ⟨_, _, _, rfl, rfl, hn, hm, fun _ => ⟨g, 0, rfl, heap_lt hg, fun k x hk j u hu => ?_⟩, fun h => by cases h⟩
    have hj : j < 11 := by have := (List.getElem?_eq_some_iff.1 hu).1; simpa [Pl.cells] using this
    rw [Nat.zero_add, ← ad]
    exact hc g rfl _ _ ((flat_get l k j x hk hj).trans hu)
def RulesAt (w : World) (v : Value) (xs : List Pl) : Prop := RowAt w v xs ∧ ∀ x ∈ xs, x.at w
theorem RulesAt.below {w w' : World} {v : Value} {l : List Pl} (h : RulesAt w v l) (hb : Below w.heap.size w w') : RulesAt w' v l :=
  ⟨h.1.below hb, fun x hx => RuAt.below (h.2 x hx) hb⟩
theorem Pl.cells_size (x : Pl) : (Try.prog.info? 43).map (·.size) = some x.cells.length := by
  have : (Try.prog.info? 43).map (·.size) = some 11 := by kernel_rfl
  rw [this]; rfl
theorem isRow43 : ∃ d, Try.prog.underlying 43 = some d ∧ d.isRow = true := ⟨_, Try.underlying43, rfl⟩
/-- A rule is read out of its slice. -/
theorem load_rule {w : World} {b o : Nat} {x : Pl} (h : w.rangeAt b o x.cells) : (Instr.loadAt 43 (.pointer (some ⟨b, o, none⟩))).run Try.prog w = .ok (.agg x.cells.toArray) w := by
  obtain ⟨d, hu, hd⟩ := isRow43
  exact run_loadAt_mid w b o 43 x.cells d h hu hd x.cells_size

/-- A rule's cells, one by one. -/
theorem range11 {w : World} {b o : Nat} {x : Pl} (h : w.rangeAt b o x.cells) :
    w.cell? ⟨b, o, none⟩ = some (x.t) ∧ w.cell? ⟨b, o + 1, none⟩ = some (x.p) ∧ w.cell? ⟨b, o + 2, none⟩ = some (x.o) ∧ w.cell? ⟨b, o + 3, none⟩ = some (.bool x.r.double) ∧ w.cell? ⟨b, o + 4, none⟩ = some (.bool x.r.pattern) ∧ w.cell? ⟨b, o + 5, none⟩ = some (.bool x.r.terminal) ∧ w.cell? ⟨b, o + 6, none⟩ = some (.string x.r.static) ∧ w.cell? ⟨b, o + 7, none⟩ = some (x.rc) ∧ w.cell? ⟨b, o + 8, none⟩ = some (.bool x.r.has) ∧ w.cell? ⟨b, o + 9, none⟩ = some (.string x.r.again) ∧ w.cell? ⟨b, o + 10, none⟩ = some (.bool x.r.builtin) :=
  ⟨h 0 _ rfl, h 1 _ rfl, h 2 _ rfl, h 3 _ rfl, h 4 _ rfl, h 5 _ rfl, h 6 _ rfl, h 7 _ rfl, h 8 _ rfl, h 9 _ rfl, h 10 _ rfl⟩

theorem RuAt.slices {w : World} {r : Ru} {t p o rc : Value} (h : RuAt w r t p o rc) : (∃ a n c, t = .slice a n c) ∧ (∃ a n c, p = .slice a n c) ∧ (∃ a n c, o = .slice a n c) ∧ (∃ a n c, rc = .slice a n c) :=
  ⟨h.1.slice, h.2.1.slice, h.2.2.1.slice, h.2.2.2.slice⟩

theorem scells_one (l : List ByteArray) : ∀ u ∈ scells l, u.oneCell' = true := by
  intro u hu
  simp only [scells, List.mem_map] at hu
  obtain ⟨s, _, rfl⟩ := hu
  rfl
theorem scells_len (l : List ByteArray) : (scells l).length = l.length * 1 := by rw [scells, List.length_map, Nat.mul_one]
/-- What an append asks of the slice that is put behind. -/
theorem StrsAt.news {w : World} {ad : Addr} {n c : Nat} {l : List ByteArray} (h : StrsAt w (.slice (some ad) n c) l) :
    n = l.length ∧ (scells l).length = n * 1 ∧ ∀ (j : Nat) (u : Value), (scells l)[j]? = some u → w.cell? (ad.add j) = some u := by
  obtain ⟨a, n', c', e, h2, h3, h4, h5, h6⟩ := h
  injection e with e1 e2 e3
  subst e1 e2 e3
  refine ⟨h2, by rw [scells_len, h2], fun j u hu => ?_⟩
  have hj : j < l.length := by have := (List.getElem?_eq_some_iff.1 hu).1; simpa [scells] using this
  obtain ⟨b, off, e, hb, hcells⟩ := h5 (by omega)
  injection e with e
  subst e
  have ha : (⟨b, off, none⟩ : Addr).add j = ⟨b, off + j, none⟩ := by unfold Addr.add; split <;> simp_all
  rw [ha]
  simp only [scells, List.getElem?_map, List.getElem?_eq_getElem hj, Option.map_some] at hu
  injection hu with hu
  rw [← hu]
  exact hcells j _ (List.getElem?_eq_getElem hj)
theorem StrsAt.len {w : World} {a : Option Addr} {n c : Nat} {l : List ByteArray} (h : StrsAt w (.slice a n c) l) : n = l.length ∧ (a = none → n = 0 ∧ c = 0) ∧ c ≤ maxLen ∧ n ≤ c := by
  obtain ⟨a', n', c', e, h2, h3, h4, h5, h6⟩ := h
  injection e with e1 e2 e3
  subst e1 e2 e3
  exact ⟨h2, fun h => by have := h6 h; omega, h4, h3⟩

def suffixName : ByteArray := ⟨#[46, 83, 85, 70, 70, 73, 88, 69, 83]⟩
def sufStep (l : List ByteArray) (r : Ru) : List ByteArray :=
  if r.pattern || !inL suffixName r.targets then l else (if r.prereqs.length = 0 then [] else l) ++ r.prereqs
def sufInit (plain : Bool) : List ByteArray := if plain then [] else [⟨#[46, 111, 117, 116]⟩, ⟨#[46, 97]⟩, ⟨#[46, 111]⟩, ⟨#[46, 99]⟩, ⟨#[46, 104]⟩]
def sufs (plain : Bool) (rs : List Ru) : List ByteArray := rs.foldl sufStep (sufInit plain)
def preW (rs : List Ru) : Nat := (rs.map fun r => r.prereqs.length).sum
theorem sufStep_len (l : List ByteArray) (r : Ru) : (sufStep l r).length ≤ l.length + r.prereqs.length := by
  unfold sufStep
  split
  · omega
  · split <;> simp <;> omega
theorem foldl_len : ∀ (rs : List Ru) (l : List ByteArray), (rs.foldl sufStep l).length ≤ l.length + preW rs
  | [], l => by simp [preW]
  | r :: rs, l => by
    have h1 := foldl_len rs (sufStep l r)
    have h2 := sufStep_len l r
    simp only [preW, List.map_cons, List.sum_cons, List.foldl_cons] at h1 ⊢
    omega
theorem preW_take : ∀ (rs : List Ru) (k : Nat), preW (rs.take k) ≤ preW rs
  | [], k => by simp
  | r :: rs, 0 => by simp [preW]
  | r :: rs, k + 1 => by have := preW_take rs k; simp only [preW, List.take_succ_cons, List.map_cons, List.sum_cons] at this ⊢; omega
theorem preW_mem {r : Ru} : ∀ {rs : List Ru}, r ∈ rs → r.prereqs.length ≤ preW rs
  | q :: rs, h => by
    simp only [preW, List.map_cons, List.sum_cons]
    rcases List.mem_cons.1 h with rfl | h
    · omega
    · have := preW_mem h; simp only [preW] at this; omega
theorem sufs_len (plain : Bool) (rs : List Ru) (k : Nat) : (sufs plain (rs.take k)).length ≤ 5 + preW rs := by
  have h1 := foldl_len (rs.take k) (sufInit plain)
  have h2 := preW_take rs k
  have h3 : (sufInit plain).length ≤ 5 := by cases plain <;> simp [sufInit]
  unfold sufs; omega
theorem sufs_more {plain : Bool} {rs : List Ru} {k : Nat} {r : Ru} (h : rs[k]? = some r) : sufs plain (rs.take (k + 1)) = sufStep (sufs plain (rs.take k)) r := by
  unfold sufs; rw [take_more h, List.foldl_append]; rfl
end Go.Proofs.Ytfnmncghgmnaaab
