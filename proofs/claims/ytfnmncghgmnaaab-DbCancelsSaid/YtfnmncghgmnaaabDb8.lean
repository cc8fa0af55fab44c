/-
  A suffix rule as a pattern (23). Conditions: none.
-/
import Derived.Test.YtfnmncghgmnaaabDb7
namespace Go.Proofs.Ytfnmncghgmnaaab
open Go.RowKit

def bcut (t s : ByteArray) : ByteArray := ⟨(Lib.trimPrefix t.data.toList s.data.toList).toArray⟩
def bhas (t s : ByteArray) : Bool := Lib.hasPrefix t.data.toList s.data.toList
def pct (s : ByteArray) : ByteArray := (⟨#[37]⟩ : ByteArray) ++ s
def findSuf (t : ByteArray) (all : List ByteArray) : List ByteArray → Option ByteArray
  | [] => none
  | s :: l => if bhas t s && decide (s ≠ ⟨#[]⟩) && inL (bcut t s) all then some s else findSuf t all l
def turnT (r : Ru) (t : ByteArray) (l : List ByteArray) : Option Ru :=
  match findSuf t l l with
  | some s => some { r with targets := [pct (bcut t s)], prereqs := [pct s], pattern := true }
  | none => if inL t l then some { r with targets := [⟨#[37]⟩], prereqs := [pct t], pattern := true } else none
def plainSuf (r : Ru) : Bool := !r.pattern && decide (r.static = ⟨#[]⟩) && decide (r.targets.length = 1) && decide (r.prereqs.length + r.orders.length = 0) && decide (r.again = ⟨#[]⟩) && !r.double && r.has
def turnedR (r : Ru) (l : List ByteArray) : Option Ru := if plainSuf r then turnT r (r.targets.headD ⟨#[]⟩) l else none
/-- What turned answers. -/
def TurnOut (r : Ru) (l : List ByteArray) (t p o rc : Value) (w : World) (e : Ending) (w' : World) : Prop :=
  ∃ x : Pl, e = .returned (.tuple #[.agg x.cells.toArray, .bool (turnedR r l).isSome]) ∧ x.r = (turnedR r l).getD r ∧ x.at w' ∧ ((x.t = t ∨ NewAt w.heap.size x.t) ∧ (x.p = p ∨ NewAt w.heap.size x.p) ∧ x.o = o ∧ x.rc = rc) ∧ Below w.heap.size w w'
theorem turnOut_none {r : Ru} {l : List ByteArray} {t p o rc : Value} {w w' : World} (h : RuAt w r t p o rc) (hp : plainSuf r = false) (hb : Below w.heap.size w w') :
    TurnOut r l t p o rc w (.returned (.tuple #[.agg (rcells r t p o rc), .bool false])) w' :=
  ⟨⟨r, t, p, o, rc⟩, by simp [turnedR, hp]; rfl, by simp [turnedR, hp], h.below hb, ⟨Or.inl rfl, Or.inl rfl, rfl, rfl⟩, hb⟩

set_option maxHeartbeats 2000000 in
theorem turned_early (r : Ru) (t p o rc v : Value) (l : List ByteArray) (w : World) (h : RuAt w r t p o rc) (hs : RuSmall r) (hno : plainSuf r = false) :
    Calls Try.prog 23 #[.agg (rcells r t p o rc), v] w (TurnOut r l t p o rc w) := by
  obtain ⟨⟨ta, tn, tc, rfl⟩, ⟨pa, pn, pc, rfl⟩, ⟨oa, on, oc, rfl⟩, ⟨ra, rn, rc2, rfl⟩⟩ := h.slices
  have hxa := Lib.hid h
  obtain ⟨T, P, O, b1, pat, b3, s1, R, b4, s2, b5⟩ := r
  have hT := Lib.hid (show tn = T.length from h.1.len.1)
  have hP := Lib.hid (show pn = P.length from h.2.1.len.1)
  have hO := Lib.hid (show on = O.length from h.2.2.1.len.1)
  have hp9 : pn ≤ 1000000 := by rw [hP.out]; exact hs.2.1
  have ho9 : on ≤ 1000000 := by rw [hO.out]; exact hs.2.2.1
  have ht9 : tn ≤ 1000000 := by rw [hT.out]; exact hs.1
  clear h hs
  have hno' := Lib.hid hno
  clear hno
  unfold rcells
  cases pat
  · by_cases e1 : s1 = ⟨#[]⟩
    · subst e1
      by_cases e2 : tn = 1
      · subst e2
        by_cases e3 : pn + on = 0
        · obtain ⟨rfl, rfl⟩ : pn = 0 ∧ on = 0 := by omega
          by_cases e4 : s2 = ⟨#[]⟩
          · subst e4
            cases b1
            · cases b4
              · have hq := Lib.hid (show plainSuf ⟨T, P, O, false, false, b3, ⟨#[]⟩, R, false, ⟨#[]⟩, b5⟩ = false by simp [plainSuf])
                go_enter Try.func23, Try.ntmps23
                go_wp2
                refine bodyPost_ret (v := .tuple #[.agg (rcells ⟨T, P, O, false, false, b3, ⟨#[]⟩, R, false, ⟨#[]⟩, b5⟩ (.slice ta 1 tc) (.slice pa 0 pc) (.slice oa 0 oc) (.slice ra rn rc2)), .bool false]) (by simp [results, Try.results23, go_sem, rcells]) rfl ?_
                exact turnOut_none hxa.out hq.out (below_al (below_al (Below.refl _ _)))
              · have hplain : plainSuf ⟨T, P, O, false, false, b3, ⟨#[]⟩, R, true, ⟨#[]⟩, b5⟩ = true := by simp [plainSuf, ← hT.out, ← hP.out, ← hO.out]
                exact absurd hno'.out (by rw [hplain]; simp)
            · have hq := Lib.hid (show plainSuf ⟨T, P, O, true, false, b3, ⟨#[]⟩, R, b4, ⟨#[]⟩, b5⟩ = false by simp [plainSuf])
              go_enter Try.func23, Try.ntmps23
              go_wp2
              refine bodyPost_ret (v := .tuple #[.agg (rcells ⟨T, P, O, true, false, b3, ⟨#[]⟩, R, b4, ⟨#[]⟩, b5⟩ (.slice ta 1 tc) (.slice pa 0 pc) (.slice oa 0 oc) (.slice ra rn rc2)), .bool false]) (by simp [results, Try.results23, go_sem, rcells]) rfl ?_
              exact turnOut_none hxa.out hq.out (below_al (below_al (Below.refl _ _)))
          · have g : (s2.toList == []) = false := by have g := ba_beq s2 ⟨#[]⟩; rw [decide_eq_false e4, Go.Lib.toList_data ⟨#[]⟩] at g; exact g
            have hq := Lib.hid (show plainSuf ⟨T, P, O, b1, false, b3, ⟨#[]⟩, R, b4, s2, b5⟩ = false by simp [plainSuf, e4])
            go_enter Try.func23, Try.ntmps23
            go_wp2
            refine bodyPost_ret (v := .tuple #[.agg (rcells ⟨T, P, O, b1, false, b3, ⟨#[]⟩, R, b4, s2, b5⟩ (.slice ta 1 tc) (.slice pa 0 pc) (.slice oa 0 oc) (.slice ra rn rc2)), .bool false]) (by simp [results, Try.results23, go_sem, rcells]) rfl ?_
            exact turnOut_none hxa.out hq.out (below_al (below_al (Below.refl _ _)))
        · have y : (0 : Int) < (pn : Int) + (on : Int) := by omega
          have hq := Lib.hid (show plainSuf ⟨T, P, O, b1, false, b3, ⟨#[]⟩, R, b4, s2, b5⟩ = false by simp [plainSuf, ← hP.out, ← hO.out]; omega)
          go_enter Try.func23, Try.ntmps23
          go_wp2
          refine bodyPost_ret (v := .tuple #[.agg (rcells ⟨T, P, O, b1, false, b3, ⟨#[]⟩, R, b4, s2, b5⟩ (.slice ta 1 tc) (.slice pa pn pc) (.slice oa on oc) (.slice ra rn rc2)), .bool false]) (by simp [results, Try.results23, go_sem, rcells]) rfl ?_
          exact turnOut_none hxa.out hq.out (below_al (below_al (Below.refl _ _)))
      · have y : ((tn : Int) = 1) = False := by simp; omega
        have hq := Lib.hid (show plainSuf ⟨T, P, O, b1, false, b3, ⟨#[]⟩, R, b4, s2, b5⟩ = false by simp [plainSuf, ← hT.out]; omega)
        go_enter Try.func23, Try.ntmps23
        go_wp2
        refine bodyPost_ret (v := .tuple #[.agg (rcells ⟨T, P, O, b1, false, b3, ⟨#[]⟩, R, b4, s2, b5⟩ (.slice ta tn tc) (.slice pa pn pc) (.slice oa on oc) (.slice ra rn rc2)), .bool false]) (by simp [results, Try.results23, go_sem, rcells]) rfl ?_
        exact turnOut_none hxa.out hq.out (below_al (below_al (Below.refl _ _)))
    · have g : (s1.toList == []) = false := by have g := ba_beq s1 ⟨#[]⟩; rw [decide_eq_false e1, Go.Lib.toList_data ⟨#[]⟩] at g; exact g
      have hq := Lib.hid (show plainSuf ⟨T, P, O, b1, false, b3, s1, R, b4, s2, b5⟩ = false by simp [plainSuf, e1])
      go_enter Try.func23, Try.ntmps23
      go_wp2
      refine bodyPost_ret (v := .tuple #[.agg (rcells ⟨T, P, O, b1, false, b3, s1, R, b4, s2, b5⟩ (.slice ta tn tc) (.slice pa pn pc) (.slice oa on oc) (.slice ra rn rc2)), .bool false]) (by simp [results, Try.results23, go_sem, rcells]) rfl ?_
      exact turnOut_none hxa.out hq.out (below_al (below_al (Below.refl _ _)))
  · have hq := Lib.hid (show plainSuf ⟨T, P, O, b1, true, b3, s1, R, b4, s2, b5⟩ = false by simp [plainSuf])
    go_enter Try.func23, Try.ntmps23
    go_wp2
    refine bodyPost_ret (v := .tuple #[.agg (rcells ⟨T, P, O, b1, true, b3, s1, R, b4, s2, b5⟩ (.slice ta tn tc) (.slice pa pn pc) (.slice oa on oc) (.slice ra rn rc2)), .bool false]) (by simp [results, Try.results23, go_sem, rcells]) rfl ?_
    exact turnOut_none hxa.out hq.out (below_al (below_al (Below.refl _ _)))
end Go.Proofs.Ytfnmncghgmnaaab
