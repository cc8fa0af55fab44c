/-
  A rule in memory of its own (22). Conditions: lists of at most a million strings.
-/
import Derived.Test.YtfnmncghgmnaaabDb1
import Derived.Deep.RegionHeld
namespace Go.Proofs.Ytfnmncghgmnaaab
open Go.RowKit

/-- A rule, as lists. -/
structure Ru where
  targets : List ByteArray
  prereqs : List ByteArray
  orders : List ByteArray
  double : Bool
  pattern : Bool
  terminal : Bool
  static : ByteArray
  recipe : List ByteArray
  has : Bool
  again : ByteArray
  builtin : Bool
/-- Its eleven cells, over the values of its four lists. -/
def rcells (r : Ru) (t p o rc : Value) : Array Value := #[t, p, o, .bool r.double, .bool r.pattern, .bool r.terminal, .string r.static, rc, .bool r.has, .string r.again, .bool r.builtin]
def RuAt (w : World) (r : Ru) (t p o rc : Value) : Prop := StrsAt w t r.targets ∧ StrsAt w p r.prereqs ∧ StrsAt w o r.orders ∧ StrsAt w rc r.recipe
theorem RuAt.below {w w' : World} {r : Ru} {t p o rc : Value} (h : RuAt w r t p o rc) (hb : Below w.heap.size w w') : RuAt w' r t p o rc := ⟨h.1.below hb, h.2.1.below hb, h.2.2.1.below hb, h.2.2.2.below hb⟩
def RuSmall (r : Ru) : Prop := r.targets.length ≤ 1000000 ∧ r.prereqs.length ≤ 1000000 ∧ r.orders.length ≤ 1000000 ∧ r.recipe.length ≤ 1000000

theorem StrsAt.setCell {w : World} {base b o : Nat} {v x : Value} {l : List ByteArray} (h : StrsAt w v l) (hn : NewAt base v) (hb : b < base) : StrsAt (w.setCell ⟨b, o, none⟩ x) v l := by
  obtain ⟨a, n, c, rfl, h2, h3, h4, h5, h6⟩ := h
  refine ⟨a, n, c, rfl, h2, h3, h4, fun h0 => ?_, h6⟩
  obtain ⟨g, off, rfl, hg, hc⟩ := h5 h0
  have hge : base ≤ g := hn _ _ _ rfl
  exact ⟨g, off, rfl, by simpa using hg, fun k s hk => (World.cell?_setCell_far _ _ _ _ (by show b ≠ g; omega)).trans (hc k s hk)⟩
theorem StrsAt.slice {w : World} {v : Value} {l : List ByteArray} (h : StrsAt w v l) : ∃ a n c, v = .slice a n c := by
  obtain ⟨a, n, c, e, _⟩ := h; exact ⟨a, n, c, e⟩
theorem NewAt.mono {a b : Nat} {v : Value} (h : NewAt b v) (hab : a ≤ b) : NewAt a v := fun x n c e => Nat.le_trans hab (h x n c e)
theorem bcell {W w1 : World} (hb : Below W.heap.size W w1) : (∀ b o, b < W.heap.size → w1.cell? ⟨b, o, none⟩ = W.cell? ⟨b, o, none⟩) ∧ (∀ b o, b < W.heap.size → w1.frozen? ⟨b, o, none⟩ = W.frozen? ⟨b, o, none⟩) :=
  ⟨fun b o h => hb.cell (p := ⟨b, o, none⟩) h, fun b o h => hb.frozen (p := ⟨b, o, none⟩) h⟩

set_option maxHeartbeats 1000000 in
theorem own_calls (r : Ru) (t p o rc : Value) (w : World) (h : RuAt w r t p o rc) (hs : RuSmall r) :
    Calls Try.prog 22 #[.agg (rcells r t p o rc)] w fun e w' => ∃ t' p' o' rc', e = .returned (.agg (rcells r t' p' o' rc')) ∧ RuAt w' r t' p' o' rc' ∧ (NewAt w.heap.size t' ∧ NewAt w.heap.size p' ∧ NewAt w.heap.size o' ∧ NewAt w.heap.size rc') ∧ Below w.heap.size w w' := by
  obtain ⟨T, P, O, b1, b2, b3, s1, R, b4, s2, b5⟩ := r
  obtain ⟨h1, h2, h3, h4⟩ := h
  obtain ⟨z1, z2, z3, z4⟩ := hs
  have k1 := Lib.hid h1
  have k2 := Lib.hid h2
  have k3 := Lib.hid h3
  have k4 := Lib.hid h4
  clear h1 h2 h3 h4
  unfold rcells
  dsimp only at k1 k2 k3 k4 z1 z2 z3 z4 ⊢
  go_enter Try.func22, Try.ntmps22
  go_wp2_with fail
  have hb0 : Below w.heap.size w _ := below_al (o := .cells #[Value.slice none 0 0, Value.slice none 0 0, Value.slice none 0 0, Value.bool false, Value.bool false, Value.bool false, Value.string { data := #[] }, Value.slice none 0 0, Value.bool false, Value.string { data := #[] }, Value.bool false] 43) (below_al (o := .cells #[t, p, o, Value.bool b1, Value.bool b2, Value.bool b3, Value.string s1, rc, Value.bool b4, Value.string s2, Value.bool b5] 43) (Below.refl w.heap.size w))
  refine (cut_calls t T _ (k1.out.below hb0) z1).mono ?_
  rintro e w1 ⟨t', rfl, q1, n1, d1⟩
  have hB1 := d1.mono' hb0
  obtain ⟨hc0, hf0⟩ := bcell d1
  have hc1 := fun o => hc0 w.heap.size o (by simp; omega)
  have hc1b := fun o => hc0 (w.heap.size + 1) o (by simp)
  have hf1 := fun o => hf0 w.heap.size o (by simp; omega)
  have hf1b := fun o => hf0 (w.heap.size + 1) o (by simp)
  clear hc0 hf0
  have hz1 : w.heap.size + 1 < w1.heap.size := by have := d1.size; simp at this; omega
  have n1' := Lib.hid (show NewAt (w.heap.size + 2) t' from n1.mono (by simp))
  clear n1 d1 hb0
  obtain ⟨ta, tn, tc, rfl⟩ := q1.slice
  have q1_1 := Lib.hid q1
  clear q1
  go_wp2_with fail
  have e2 : Below w.heap.size w (w1.setCell ⟨w.heap.size, 0, none⟩ (.slice ta tn tc)) := hB1.setCell (Nat.le_refl _) _
  refine (cut_calls p P _ (k2.out.below e2) z2).mono ?_
  rintro e w2 ⟨v2, rfl, q2, n2, d2⟩
  have hB2 := d2.mono' e2
  obtain ⟨hc0, hf0⟩ := bcell d2
  have hy : w.heap.size + 1 < (w1.setCell ⟨w.heap.size, 0, none⟩ (.slice ta tn tc)).heap.size := by simpa using hz1
  have hc2 := fun o => hc0 w.heap.size o (by omega)
  have hc2b := fun o => hc0 (w.heap.size + 1) o hy
  have hf2 := fun o => hf0 w.heap.size o (by omega)
  have hf2b := fun o => hf0 (w.heap.size + 1) o hy
  clear hc0 hf0 hy
  have hz2 : w.heap.size + 1 < w2.heap.size := by have := d2.size; simp at this; omega
  have n2' := Lib.hid (show NewAt (w.heap.size + 2) v2 from n2.mono (by simp; omega))
  have q1_2 := Lib.hid ((q1_1.out.setCell n1'.out (o := 0) (x := (.slice ta tn tc)) (by omega)).below d2)
  clear n2 d2 e2
  obtain ⟨pa, pn, pc, rfl⟩ := q2.slice
  have q2_2 := Lib.hid q2
  clear q2
  go_wp2_with fail
  have e3 : Below w.heap.size w (w2.setCell ⟨w.heap.size, 1, none⟩ (.slice pa pn pc)) := hB2.setCell (Nat.le_refl _) _
  refine (cut_calls o O _ (k3.out.below e3) z3).mono ?_
  rintro e w3 ⟨v3, rfl, q3, n3, d3⟩
  have hB3 := d3.mono' e3
  obtain ⟨hc0, hf0⟩ := bcell d3
  have hy : w.heap.size + 1 < (w2.setCell ⟨w.heap.size, 1, none⟩ (.slice pa pn pc)).heap.size := by simpa using hz2
  have hc3 := fun o => hc0 w.heap.size o (by omega)
  have hc3b := fun o => hc0 (w.heap.size + 1) o hy
  have hf3 := fun o => hf0 w.heap.size o (by omega)
  have hf3b := fun o => hf0 (w.heap.size + 1) o hy
  clear hc0 hf0 hy
  have hz3 : w.heap.size + 1 < w3.heap.size := by have := d3.size; simp at this; omega
  have n3' := Lib.hid (show NewAt (w.heap.size + 2) v3 from n3.mono (by simp; omega))
  have q1_3 := Lib.hid ((q1_2.out.setCell n1'.out (o := 1) (x := (.slice pa pn pc)) (by omega)).below d3)
  have q2_3 := Lib.hid ((q2_2.out.setCell n2'.out (o := 1) (x := (.slice pa pn pc)) (by omega)).below d3)
  clear n3 d3 e3
  obtain ⟨oa, on, oc, rfl⟩ := q3.slice
  have q3_3 := Lib.hid q3
  clear q3
  go_wp2_with fail
  have e4 : Below w.heap.size w (w3.setCell ⟨w.heap.size, 2, none⟩ (.slice oa on oc)) := hB3.setCell (Nat.le_refl _) _
  refine (cut_calls rc R _ (k4.out.below e4) z4).mono ?_
  rintro e w4 ⟨v4, rfl, q4, n4, d4⟩
  have hB4 := d4.mono' e4
  obtain ⟨hc0, hf0⟩ := bcell d4
  have hy : w.heap.size + 1 < (w3.setCell ⟨w.heap.size, 2, none⟩ (.slice oa on oc)).heap.size := by simpa using hz3
  have hc4 := fun o => hc0 w.heap.size o (by omega)
  have hc4b := fun o => hc0 (w.heap.size + 1) o hy
  have hf4 := fun o => hf0 w.heap.size o (by omega)
  have hf4b := fun o => hf0 (w.heap.size + 1) o hy
  clear hc0 hf0 hy
  have hz4 : w.heap.size + 1 < w4.heap.size := by have := d4.size; simp at this; omega
  have n4' := Lib.hid (show NewAt (w.heap.size + 2) v4 from n4.mono (by simp; omega))
  have q1_4 := Lib.hid ((q1_3.out.setCell n1'.out (o := 2) (x := (.slice oa on oc)) (by omega)).below d4)
  have q2_4 := Lib.hid ((q2_3.out.setCell n2'.out (o := 2) (x := (.slice oa on oc)) (by omega)).below d4)
  have q3_4 := Lib.hid ((q3_3.out.setCell n3'.out (o := 2) (x := (.slice oa on oc)) (by omega)).below d4)
  clear n4 d4 e4
  obtain ⟨ra, rn, rc2, rfl⟩ := q4.slice
  have q4_4 := Lib.hid q4
  clear q4
  go_wp2_with fail
  refine bodyPost_ret (v := .agg #[.slice ta tn tc, .slice pa pn pc, .slice oa on oc, .bool b1, .bool b2, .bool b3, .string s1, .slice ra rn rc2, .bool b4, .string s2, .bool b5]) (by simp [results, Try.results22, go_sem, hc4, hc4b, hc3, hc3b, hc2, hc2b, hc1, hc1b]) rfl ?_
  exact ⟨_, _, _, _, rfl, ⟨(by
      iterate 12 with_reducible refine StrsAt.setCell ?_ n1'.out (by omega)
      exact q1_4.out),
    (by
      iterate 12 with_reducible refine StrsAt.setCell ?_ n2'.out (by omega)
      exact q2_4.out),
    (by
      iterate 12 with_reducible refine StrsAt.setCell ?_ n3'.out (by omega)
      exact q3_4.out),
    (by
      iterate 12 with_reducible refine StrsAt.setCell ?_ n4'.out (by omega)
      exact q4_4.out)⟩,
    ⟨n1'.out.mono (by omega), n2'.out.mono (by omega), n3'.out.mono (by omega), n4'.out.mono (by omega)⟩, by
      iterate 12 with_reducible refine Below.setCell ?_ (by dsimp only; omega) _
      exact hB4⟩
end Go.Proofs.Ytfnmncghgmnaaab
