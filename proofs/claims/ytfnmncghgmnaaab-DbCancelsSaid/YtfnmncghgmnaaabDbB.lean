/-
  Does a pattern count (25)? Conditions: none.
-/
import Derived.Test.YtfnmncghgmnaaabDbA
namespace Go.Proofs.Ytfnmncghgmnaaab
open Go.RowKit

def alikeB (a b : Ru) : Bool := decide (a.targets = b.targets) && decide (a.prereqs = b.prereqs)
def overOne (r : Ru) (i nb k : Nat) (o : Ru) : Bool := o.pattern && alikeB r o && (decide (i < k) || (r.builtin && decide (nb ≤ i)))
def overFrom (r : Ru) (i nb : Nat) : Nat → List Ru → Bool
  | _, [] => false
  | k, o :: l => overOne r i nb k o || overFrom r i nb (k + 1) l
def countsR (rs : List Ru) (nb i : Nat) (r : Ru) : Bool := r.has && !overFrom r i nb 0 (rs.take nb)
theorem overFrom_step {r o : Ru} {i nb k : Nat} {l : List Ru} (h : l[k]? = some o) : overFrom r i nb k (l.drop k) = (overOne r i nb k o || overFrom r i nb (k + 1) (l.drop (k + 1))) := by
  rw [getElem_split h]; rfl

theorem range_alloc (w : World) (cs : List Value) (t : TypeId) : (w.alloc (.cells cs.toArray t)).rangeAt w.heap.size 0 cs := by
  intro j v hv
  rw [Nat.zero_add]
  unfold World.cell?
  rw [heap_alloc_new]
  simpa using hv
theorem range_below {w w' : World} {b o : Nat} {cs : List Value} (h : w.rangeAt b o cs) (hb : Below w.heap.size w w') (hlt : b < w.heap.size) : w'.rangeAt b o cs :=
  fun j v hv => ((bcell hb).1 b (o + j) hlt).trans (h j v hv)

set_option maxHeartbeats 1000000 in
theorem counts_calls (bd nb i : Nat) (vr : Value) (xs : List Pl) (x : Pl) (w : World) (h0 : w.cell? ⟨bd, 0, none⟩ = some vr) (h2 : w.cell? ⟨bd, 2, none⟩ = some (.int .i64 nb)) (hbd : bd < w.heap.size)
    (hr : RulesAt w vr xs) (hx : xs[i]? = some x) (hnb : nb ≤ xs.length) :
    Calls Try.prog 25 #[.pointer (some ⟨bd, 0, none⟩), .int .i64 i] w fun e w' => e = .returned (.bool (countsR (xs.map Pl.r) nb i x.r)) ∧ Below w.heap.size w w' := by
  obtain ⟨⟨a, n, c, rfl, hn0, hc, hm, hrow0, -⟩, hat0⟩ := hr
  unfold maxLen at hm
  have hil : i < xs.length := (List.getElem?_eq_some_iff.1 hx).1
  have hin : i < n := by omega
  have hnbn : nb ≤ n := by omega
  obtain ⟨b, off, rfl, hb, hcells⟩ := hrow0 (by omega)
  have hrow := Lib.hid hcells
  have hat := Lib.hid hat0
  have hn := Lib.hid hn0
  have hnb' := Lib.hid hnb
  obtain ⟨c0, c1, c2, c3, c4, c5, c6, c7, c8, c9, c10⟩ := range11 (hcells i x hx)
  have hxa0 : x.at w := hat0 x (List.mem_of_getElem? hx)
  clear hcells hat0 hrow0 hx hil hnb hn0
  obtain ⟨⟨T, P, O, b1, pat, b3, s1, R, hs, s2, b5⟩, t, p, o, rc⟩ := x
  dsimp only [Pl.at] at hxa0 c0 c1 c2 c3 c4 c5 c6 c7 c8 c9 c10
  obtain ⟨⟨ta, tn, tc, rfl⟩, ⟨pa, pn, pc, rfl⟩, ⟨oa, on, oc, rfl⟩, ⟨ra, rn, rc2, rfl⟩⟩ := hxa0.slices
  have hxa := Lib.hid hxa0
  clear hxa0
  have y1 : (0 : Int) ≤ (i : Int) := by omega
  have y2 : (i : Int) < (n : Int) := by omega
  have y3 : (0 : Int) ≤ (nb : Int) := by omega
  have y4 : (nb : Int) ≤ (c : Int) := by omega
  go_enter Try.func25, Try.ntmps25
  cases hs
  · go_wp2
    go_ret
    exact ⟨by simp [countsR], below_al (Below.refl _ _)⟩
  · go_wp2_with fail
    go_quiet (fail)
    go_wp2_with fail
    have hB0 : Below w.heap.size w ((w.alloc (.cells (Pl.cells ⟨⟨T, P, O, b1, pat, b3, s1, R, true, s2, b5⟩, .slice ta tn tc, .slice pa pn pc, .slice oa on oc, .slice ra rn rc2⟩).toArray 43)).drewN nq) := below_drewN' (below_al (Below.refl _ _)) nq
    have hR0 : ((w.alloc (.cells (Pl.cells ⟨⟨T, P, O, b1, pat, b3, s1, R, true, s2, b5⟩, .slice ta tn tc, .slice pa pn pc, .slice oa on oc, .slice ra rn rc2⟩).toArray 43)).drewN nq).rangeAt w.heap.size 0 (Pl.cells ⟨⟨T, P, O, b1, pat, b3, s1, R, true, s2, b5⟩, .slice ta tn tc, .slice pa pn pc, .slice oa on oc, .slice ra rn rc2⟩) := range_alloc _ _ _
    go_loopw [28] (fun iv wr => ∃ k : Nat, k ≤ nb ∧ iv = .int .i64 k ∧ Below w.heap.size w wr ∧ w.heap.size < wr.heap.size ∧ wr.rangeAt w.heap.size 0 (Pl.cells ⟨⟨T, P, O, b1, pat, b3, s1, R, true, s2, b5⟩, .slice ta tn tc, .slice pa pn pc, .slice oa on oc, .slice ra rn rc2⟩) ∧ overFrom ⟨T, P, O, b1, pat, b3, s1, R, true, s2, b5⟩ i nb 0 ((xs.map Pl.r).take nb) = overFrom ⟨T, P, O, b1, pat, b3, s1, R, true, s2, b5⟩ i nb k (((xs.map Pl.r).take nb).drop k)) (fun iv _ => nb - (intOf iv).toNat)
    case atStart => exact ⟨0, Nat.zero_le _, rfl, hB0, by simp, hR0, rfl⟩
    case round =>
      obtain ⟨k, hk, rfl, hB, hz, hR, hov⟩ := hrel
      by_cases hlt : k < nb
      · obtain ⟨q, hq⟩ : ∃ q, xs[k]? = some q := ⟨_, List.getElem?_eq_getElem (by have := hn.out; omega)⟩
        obtain ⟨f0, f1, f2, f3, f4, f5, f6, f7, f8, f9, f10⟩ := range11 (w := wr) (x := q) (b := b) (o := off + k * 11) (fun j v hj => (hB.cell (p := ⟨b, off + k * 11 + j, none⟩) hb).trans (hrow.out k q hq j v hj))
        obtain ⟨g0, g1, g2, g3, g4, g5, g6, g7, g8, g9, g10⟩ := range11 hR
        have hqa0 : q.at wr := RuAt.below (hat.out q (List.mem_of_getElem? hq)) hB
        have hov' := Lib.hid (hov.trans (overFrom_step (l := (xs.map Pl.r).take nb) (o := q.r) (by rw [List.getElem?_take_of_lt hlt]; simp [hq])))
        have hd2 := (hB.cell (p := ⟨bd, 2, none⟩) hbd).trans h2
        have hxb := Lib.hid (RuAt.below hxa.out hB)
        have z1 : (0 : Int) ≤ (k : Int) := by omega
        have z2 : (k : Int) < (nb : Int) := by omega
        clear hov hq
        obtain ⟨⟨T', P', O', d1, pat', d3, u1, R', hs', u2, d5⟩, t', p', o', rc'⟩ := q
        dsimp only [Pl.at] at hqa0 f0 f1 f2 f3 f4 f5 f6 f7 f8 f9 f10 hov'
        obtain ⟨⟨ta', tn', tc', rfl⟩, ⟨pa', pn', pc', rfl⟩, ⟨oa', on', oc', rfl⟩, ⟨ra', rn', rc2', rfl⟩⟩ := hqa0.slices
        have hqa := Lib.hid hqa0
        clear hqa0
        have hB1 := Lib.hid (below_al (o := (.cells (Pl.cells ⟨⟨T', P', O', d1, pat', d3, u1, R', hs', u2, d5⟩, .slice ta' tn' tc', .slice pa' pn' pc', .slice oa' on' oc', .slice ra' rn' rc2'⟩).toArray 43)) hB)
        have hBr := Lib.hid (below_al (o := (.cells (Pl.cells ⟨⟨T', P', O', d1, pat', d3, u1, R', hs', u2, d5⟩, .slice ta' tn' tc', .slice pa' pn' pc', .slice oa' on' oc', .slice ra' rn' rc2'⟩).toArray 43)) (Below.refl wr.heap.size wr))
        cases pat'
        · go_wp2
          exact ⟨⟨k + 1, by omega, by go_num, hB1.out, by simp; omega, range_below hR hBr.out hz, by rw [hov'.out]; simp [overOne]⟩, by simp [intOf]; omega⟩
        · go_wp2_with fail
          have hlow : w.heap.size < (wr.alloc (.cells (Pl.cells ⟨⟨T', P', O', d1, true, d3, u1, R', hs', u2, d5⟩, .slice ta' tn' tc', .slice pa' pn' pc', .slice oa' on' oc', .slice ra' rn' rc2'⟩).toArray 43)).heap.size := by simp; omega
          have hbd1 : bd < (wr.alloc (.cells (Pl.cells ⟨⟨T', P', O', d1, true, d3, u1, R', hs', u2, d5⟩, .slice ta' tn' tc', .slice pa' pn' pc', .slice oa' on' oc', .slice ra' rn' rc2'⟩).toArray 43)).heap.size := by simp; omega
          have hR1 : (wr.alloc (.cells (Pl.cells ⟨⟨T', P', O', d1, true, d3, u1, R', hs', u2, d5⟩, .slice ta' tn' tc', .slice pa' pn' pc', .slice oa' on' oc', .slice ra' rn' rc2'⟩).toArray 43)).rangeAt w.heap.size 0 (Pl.cells ⟨⟨T, P, O, b1, pat, b3, s1, R, true, s2, b5⟩, .slice ta tn tc, .slice pa pn pc, .slice oa on oc, .slice ra rn rc2⟩) := range_below hR hBr.out hz
          have hd3 := (hBr.out.cell (p := ⟨bd, 2, none⟩) (by show bd < wr.heap.size; omega)).trans hd2
          refine (alike_calls ⟨T, P, O, b1, pat, b3, s1, R, true, s2, b5⟩ ⟨T', P', O', d1, true, d3, u1, R', hs', u2, d5⟩ _ _ _ _ _ _ _ _ _ (RuAt.below hxb.out hBr.out) (RuAt.below hqa.out hBr.out)).mono ?_
          rintro e w1 ⟨rfl, hal⟩
          have hB2 := Lib.hid (hal.mono' hB1.out)
          have hz2 : w.heap.size < w1.heap.size := Nat.lt_of_lt_of_le hlow hal.size
          have hR2 := Lib.hid (range_below hR1 hal hlow)
          have hd4 := (hal.cell (p := ⟨bd, 2, none⟩) hbd1).trans hd3
          have g10' := hR2.out 10 _ rfl
          rw [Nat.zero_add] at g10'
          clear hal hR1 hd3 hlow hbd1
          cases hal : (decide (T = T') && decide (P = P'))
          · have hal' := Lib.hid hal
            clear hal
            go_wp2
            exact ⟨⟨k + 1, by omega, by go_num, hB2.out, hz2, hR2.out, by rw [hov'.out]; simp [overOne, alikeB, hal'.out]⟩, by simp [intOf]; omega⟩
          · have hal' := Lib.hid hal
            clear hal
            by_cases hik : i < k
            · have e1 : (i : Int) < (k : Int) := by omega
              go_wp2
              go_ret
              exact ⟨by rw [countsR, hov'.out]; simp [overOne, alikeB, hal'.out, hik], hB2.out⟩
            · have e1 : ¬ ((i : Int) < (k : Int)) := by omega
              cases b5
              · go_wp2
                exact ⟨⟨k + 1, by omega, by go_num, hB2.out, hz2, hR2.out, by rw [hov'.out]; simp [overOne, alikeB, hik]⟩, by simp [intOf]; omega⟩
              · by_cases hni : nb ≤ i
                · have e2 : (nb : Int) ≤ (i : Int) := by omega
                  go_wp2
                  go_ret
                  exact ⟨by rw [countsR, hov'.out]; simp [overOne, alikeB, hal'.out, hni], hB2.out⟩
                · have e2 : ¬ ((nb : Int) ≤ (i : Int)) := by omega
                  go_wp2
                  exact ⟨⟨k + 1, by omega, by go_num, hB2.out, hz2, hR2.out, by rw [hov'.out]; simp [overOne, alikeB, hik, hni]⟩, by simp [intOf]; omega⟩
      · obtain rfl : k = nb := by omega
        have hov' := Lib.hid (hov.trans (by rw [List.drop_of_length_le (by rw [List.length_take]; exact Nat.min_le_left _ _)]))
        go_wp2
        go_ret
        exact ⟨by rw [countsR, hov'.out]; rfl, hB⟩
end Go.Proofs.Ytfnmncghgmnaaab
