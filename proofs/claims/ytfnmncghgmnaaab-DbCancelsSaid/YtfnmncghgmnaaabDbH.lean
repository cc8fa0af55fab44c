/-
  A database's methods: Special (17) at ".PHONY", Rules (12). Conditions: lists of at most a million strings.
-/
import Derived.Test.YtfnmncghgmnaaabDbG
namespace Go.Proofs.Ytfnmncghgmnaaab
open Go.RowKit

def phony : ByteArray := ⟨#[46, 80, 72, 79, 78, 89]⟩
def isPhony (name : ByteArray) (r : Ru) : Bool := inL phony r.targets && inL name r.prereqs
theorem any_step {name : ByteArray} {l : List Ru} {k : Nat} {r : Ru} (h : l[k]? = some r) : (l.drop k).any (isPhony name) = (isPhony name r || (l.drop (k + 1)).any (isPhony name)) := by
  rw [getElem_split h]; rfl

set_option maxRecDepth 100000 in
set_option maxHeartbeats 2000000 in
theorem special_phony_calls (base bd nb : Nat) (rules given : List Ru) (I : List Int) (S : ByteArray → Bool) (w : World) (h : DbAt base bd nb rules given I S w) (name : ByteArray) :
    Calls Try.prog 17 #[.pointer (some ⟨bd, 0, none⟩), .string ⟨#[46, 80, 72, 79, 78, 89]⟩, .string name] w fun e w' => e = .returned (.bool (given.any (isPhony name))) ∧ Below w.heap.size w w' := by
  obtain ⟨v0, v1, v4, be, bn, X, Y, h1, -, ⟨h4, h5⟩, -, -, -, -⟩ := h.ex
  obtain ⟨c1, -⟩ := cell_of_d (o := 1) h1 rfl
  obtain ⟨⟨a, n, c, rfl, hn0, hc, hm, hrow0, -⟩, hat0⟩ := h4
  unfold maxLen at hm
  have hrow := Lib.hid hrow0
  have hat := Lib.hid hat0
  have hn := Lib.hid hn0
  have hg := Lib.hid h5
  have hbd := heap_lt h1
  clear hrow0 hat0 hn0 h1 h h5
  go_enter Try.func17, Try.ntmps17
  go_wp2_with fail
  go_loopw [15] (fun iv wr => ∃ k : Nat, k ≤ n ∧ iv = .int .i64 k ∧ Below w.heap.size w wr ∧ given.any (isPhony name) = (given.drop k).any (isPhony name)) (fun iv _ => n - (intOf iv).toNat)
  case atStart => exact ⟨0, Nat.zero_le _, rfl, Below.refl _ _, rfl⟩
  case round =>
    obtain ⟨k, hk, rfl, hB, hany⟩ := hrel
    by_cases hlt : k < n
    · obtain ⟨x, hx⟩ : ∃ x, Y[k]? = some x := ⟨_, List.getElem?_eq_getElem (by rw [← hn.out]; exact hlt)⟩
      obtain ⟨b, off, rfl, hb, hcells⟩ := hrow.out (by omega)
      obtain ⟨f0, f1, f2, f3, f4, f5, f6, f7, f8, f9, f10⟩ := range11 (w := wr) (x := x) (b := b) (o := off + k * 11) (fun j v hj => (hB.cell (p := ⟨b, off + k * 11 + j, none⟩) hb).trans (hcells k x hx j v hj))
      have hxa0 := RuAt.below (hat.out x (List.mem_of_getElem? hx)) hB
      have hgk : given[k]? = some x.r := by rw [← hg.out]; simp [hx]
      have hstep := Lib.hid (hany.trans (any_step hgk))
      have z1 : (0 : Int) ≤ (k : Int) := by omega
      have z2 : (k : Int) < (n : Int) := by omega
      clear hcells hx hgk hany
      obtain ⟨r, t, p, o, rc⟩ := x
      dsimp only [Pl.at] at hxa0 f0 f1 f2 f3 f4 f5 f6 f7 f8 f9 f10 hstep
      obtain ⟨⟨ta, tn, tc, rfl⟩, ⟨pa, pn, pc, rfl⟩, ⟨oa, on, oc, rfl⟩, ⟨ra, rn, rc2, rfl⟩⟩ := hxa0.slices
      have hBa : Below wr.heap.size wr (wr.alloc (.cells (rcells r (.slice ta tn tc) (.slice pa pn pc) (.slice oa on oc) (.slice ra rn rc2)) 43)) := below_al (Below.refl _ _)
      have hxb := Lib.hid (hxa0.below hBa)
      have hB1 := Lib.hid (hBa.mono' hB)
      clear hxa0 hBa
      unfold rcells at hxb hB1
      go_wp2_with fail
      refine (contains_calls _ r.targets phony _ hxb.out.1).mono ?_
      rintro e w' ⟨rfl, rfl⟩
      cases hin : inL phony r.targets
      · have hin' := Lib.hid hin
        clear hin
        go_wp2
        exact ⟨⟨k + 1, by omega, by go_num, hB1.out, by rw [hstep.out]; simp [isPhony, hin'.out]⟩, by simp [intOf]; omega⟩
      · have hin' := Lib.hid hin
        clear hin
        go_wp2_with fail
        refine (contains_calls _ r.prereqs name _ hxb.out.2.1).mono ?_
        rintro e w' ⟨rfl, rfl⟩
        cases hin2 : inL name r.prereqs
        · have hin3 := Lib.hid hin2
          clear hin2
          go_wp2
          exact ⟨⟨k + 1, by omega, by go_num, hB1.out, by rw [hstep.out]; simp [isPhony, hin'.out, hin3.out]⟩, by simp [intOf]; omega⟩
        · have hin3 := Lib.hid hin2
          clear hin2
          go_wp2
          go_ret
          exact ⟨by rw [hstep.out]; simp [isPhony, hin'.out, hin3.out], hB1.out⟩
    · obtain rfl : k = n := by omega
      have hnil : given.drop k = [] := List.drop_of_length_le (by rw [← hg.out, List.length_map, ← hn.out]; exact Nat.le_refl _)
      rw [hnil] at hany
      have hany' := Lib.hid hany
      clear hany hnil
      go_wp2
      go_ret
      exact ⟨by rw [hany'.out]; rfl, hB⟩

/-- What Rules keeps. -/
structure ListInv (w0 : World) (v : Value) (Z : List Pl) (w : World) : Prop where
  below : Below w0.heap.size w0 w
  r : w.ownsRow w0.heap.size 43 11 v Z.length (flat Z)
  all : ∀ x ∈ Z, x.at w ∧ x.new w0.heap.size ∧ x.off (fun g => v.ownBlock = some g)
theorem ListInv.only {w0 w w' : World} {v : Value} {Z : List Pl} (h : ListInv w0 v Z w) (hb : Below w.heap.size w w') : ListInv w0 v Z w' :=
  ⟨hb.mono' h.below, ownsRow_only (Tm := fun _ => False) h.r (Only.of_below hb) (fun _ _ k => k), fun x hx => ⟨RuAt.below (h.all x hx).1 hb, (h.all x hx).2⟩⟩
theorem ListInv.push {w0 w wa w5 : World} {v : Value} {Z : List Pl} {x : Pl} {gg cap : Nat} (h : ListInv w0 v Z w) (hx : x.at w ∧ x.new w0.heap.size ∧ x.off (fun g => v.ownBlock = some g)) (hwa : wa.heap.size = w.heap.size + 1) (hwo : Only (fun _ => False) w wa)
    (hown5 : w5.ownsRow w0.heap.size 43 11 (.slice (some ⟨gg, 0, none⟩) (Z.length + 1) cap) (Z.length + 1) (flat Z ++ x.cells)) (hgrow5 : wa.grownBy w5 v.ownBlock) (hat5 : v.ownBlock = some gg ∨ gg = w.heap.size + 1) :
    ListInv w0 (.slice (some ⟨gg, 0, none⟩) (Z.length + 1) cap) (Z ++ [x]) w5 := by
  have hO : Only (fun g => v.ownBlock = some g) w w5 := (hwo.mono (fun _ k => k.elim)).trans (Only.of_grown hgrow5 (fun j e => e))
  have hsz : w0.heap.size ≤ w.heap.size := h.below.size
  refine ⟨hO.below h.below hsz (fun g e => (h.r.lt g e).1), ?_, fun y hy => ?_⟩
  · rw [flat_append]; simpa [flat] using hown5
  · have hy2 : y.at w ∧ y.new w0.heap.size ∧ y.off (fun g => v.ownBlock = some g) := by
      rcases List.mem_append.1 hy with hy | hy
      · exact h.all y hy
      · simp at hy; subst hy; exact hx
    refine ⟨hy2.1.only hy2.2.2 hO, hy2.2.1, hy2.1.off hy2.2.2 (fun g k => ?_)⟩
    have e : gg = g := by simpa [Value.ownBlock] using k
    rcases hat5 with e' | e'
    · exact Or.inl (by rw [← e]; exact e')
    · exact Or.inr (by omega)

set_option maxRecDepth 100000 in
set_option maxHeartbeats 2000000 in
theorem rules_calls (base bd nb : Nat) (rules given : List Ru) (I : List Int) (S : ByteArray → Bool) (w : World) (h : DbAt base bd nb rules given I S w) (hsm : ∀ r ∈ rules, RuSmall r) (hlen : rules.length ≤ 1000000) :
    Calls Try.prog 12 #[.pointer (some ⟨bd, 0, none⟩)] w fun e w' => ∃ v' Z, e = .returned v' ∧ ListInv w v' Z w' ∧ Z.map Pl.r = rules := by
  obtain ⟨i43, hi43, hz43, hs43, hb43⟩ := info_parts info43
  obtain ⟨v0, v1, v4, be, bn, X, Y, h1, ⟨h4, h5⟩, -, -, -, -, -⟩ := h.ex
  obtain ⟨c0, -⟩ := cell_of_d (o := 0) h1 rfl
  obtain ⟨⟨a, n, c, rfl, hn0, hc, hm, hrow0, -⟩, hat0⟩ := h4
  unfold maxLen at hm
  have hrow := Lib.hid hrow0
  have hat := Lib.hid hat0
  have hn := Lib.hid hn0
  have hg := Lib.hid h5
  have hsm' := Lib.hid hsm
  have hn9 : n ≤ 1000000 := by rw [hn0]; rw [← h5, List.length_map] at hlen; exact hlen
  clear hrow0 hat0 hn0 h1 h h5 hsm hlen
  go_enter Try.func12, Try.ntmps12
  go_wp2_with fail
  go_loopw [3, 11] (fun lv iv wr => ∃ k : Nat, k ≤ n ∧ iv = .int .i64 k ∧ ∃ Z, ListInv w lv Z wr ∧ Z.map Pl.r = rules.take k) (fun _ iv _ => n - (intOf iv).toNat)
  case atStart => exact ⟨0, Nat.zero_le _, rfl, [], ⟨Below.refl _ _, World.ownsRow_nil _ _ _ _, fun x hx => by simp at hx⟩, rfl⟩
  case round =>
    obtain ⟨k, hk, rfl, Z, hZ, hZr⟩ := hrel
    by_cases hlt : k < n
    · obtain ⟨x, hx⟩ : ∃ x, X[k]? = some x := ⟨_, List.getElem?_eq_getElem (by rw [← hn.out]; exact hlt)⟩
      obtain ⟨b, off, rfl, hb, hcells⟩ := hrow.out (by omega)
      obtain ⟨f0, f1, f2, f3, f4, f5, f6, f7, f8, f9, f10⟩ := range11 (w := wr) (x := x) (b := b) (o := off + k * 11) (fun j v hj => (hZ.below.cell (p := ⟨b, off + k * 11 + j, none⟩) hb).trans (hcells k x hx j v hj))
      have hxa0 := RuAt.below (hat.out x (List.mem_of_getElem? hx)) hZ.below
      have hgk : rules[k]? = some x.r := by rw [← hg.out]; simp [hx]
      have hmore := Lib.hid (take_more hgk)
      have hxs := hsm'.out x.r (List.mem_of_getElem? hgk)
      have hZl : Z.length = k := by
        have := congrArg List.length hZr
        rw [List.length_map, List.length_take, ← hg.out, List.length_map, ← hn.out] at this; omega
      have z1 : (0 : Int) ≤ (k : Int) := by omega
      have z2 : (k : Int) < (n : Int) := by omega
      clear hcells hx hgk
      obtain ⟨r, t, p, o, rc⟩ := x
      dsimp only [Pl.at] at hxa0 f0 f1 f2 f3 f4 f5 f6 f7 f8 f9 f10 hmore hxs
      obtain ⟨⟨ta, tn, tc, rfl⟩, ⟨pa, pn, pc, rfl⟩, ⟨oa, on, oc, rfl⟩, ⟨ra, rn, rc2, rfl⟩⟩ := hxa0.slices
      have hBa : Below wr.heap.size wr (wr.alloc (.cells (rcells r (.slice ta tn tc) (.slice pa pn pc) (.slice oa on oc) (.slice ra rn rc2)) 43)) := below_al (Below.refl _ _)
      have hsz : (wr.alloc (.cells (rcells r (.slice ta tn tc) (.slice pa pn pc) (.slice oa on oc) (.slice ra rn rc2)) 43)).heap.size = wr.heap.size + 1 := by simp
      have hZ1 := hZ.only hBa
      have hxb := hxa0.below hBa
      have hZr' := Lib.hid hZr
      obtain ⟨ad, cap, rfl⟩ : ∃ ad cap, u3 = .slice ad k cap := by
        rcases hZ.r.2 with ⟨rfl, h0⟩ | ⟨g, cap, cur, rfl, -⟩
        · exact ⟨none, 0, by rw [← hZl, h0]⟩
        · exact ⟨_, _, by rw [hZl]⟩
      have hown := fun g e => (hZ.r.lt g e).2
      have hown' := Lib.hid hown
      have hZ1' := Lib.hid hZ1
      have hxb' := Lib.hid hxb
      have hsz' := Lib.hid hsz
      have hB0' := hZ.below.size
      clear hZ1 hxb hxa0 hZ hZr hsz hown
      go_wp2_with fail
      refine (own_calls r _ _ _ _ _ hxb'.out hxs).mono ?_
      rintro e w3 ⟨t', p', o', rc', rfl, q1, ⟨m1, m2, m3, m4⟩, d3⟩
      have hZ3 := hZ1'.out.only d3
      rw [hsz'.out] at m1 m2 m3 m4
      have hx3 : Pl.at ⟨r, t', p', o', rc'⟩ w3 := q1
      have hx3n : Pl.new ⟨r, t', p', o', rc'⟩ (wr.heap.size + 1) := ⟨m1, m2, m3, m4⟩
      have hoff : Pl.off ⟨r, t', p', o', rc'⟩ (fun g => (Value.slice ad k cap).ownBlock = some g) := hx3.off_new hx3n (fun g e => Or.inl (by have := hown'.out g e; omega))
      obtain ⟨⟨ta', tn', tc', rfl⟩, ⟨pa', pn', pc', rfl⟩, ⟨oa', on', oc', rfl⟩, ⟨ra', rn', rc3, rfl⟩⟩ := RuAt.slices hx3
      have hxx := Lib.hid (show Pl.at ⟨r, .slice ta' tn' tc', .slice pa' pn' pc', .slice oa' on' oc', .slice ra' rn' rc3⟩ w3 ∧ Pl.new ⟨r, .slice ta' tn' tc', .slice pa' pn' pc', .slice oa' on' oc', .slice ra' rn' rc3⟩ w.heap.size ∧ Pl.off ⟨r, .slice ta' tn' tc', .slice pa' pn' pc', .slice oa' on' oc', .slice ra' rn' rc3⟩ (fun g => (Value.slice ad k cap).ownBlock = some g) from ⟨hx3, hx3n.mono (by omega), hoff⟩)
      have hZ3' := Lib.hid hZ3
      have hr0 := Lib.hid (show w3.ownsRow w.heap.size 43 11 (.slice ad k cap) k (flat Z) by have := hZ3.r; rw [hZl] at this; exact this)
      have hB3 := hZ3.below.size
      clear hZ3 hx3 hx3n hoff q1 m1 m2 m3 m4 d3 hZ1' hxb'
      unfold rcells
      go_wp2_with (at_builtin; refine wpList_append_lies _ rfl (.tmp 15) (.tmp 18) 22 rfl w.heap.size 43 i43 _ 11 152 Try.underlying22 hi43 hz43 hs43 hb43 rfl (by omega) (.slice ad k cap) k (flat Z) rfl (hr0.out.alloc _) ⟨w3.heap.size, 0, none⟩ 1 1 (Pl.cells ⟨r, .slice ta' tn' tc', .slice pa' pn' pc', .slice oa' on' oc', .slice ra' rn' rc3⟩) rfl rfl (World.news_of_block (cs := (Pl.cells ⟨r, .slice ta' tn' tc', .slice pa' pn' pc', .slice oa' on' oc', .slice ra' rn' rc3⟩).toArray) (t := 43) (fr := (0, 0)) (heap_alloc_new w3 _)) (Pl.at.one hxx.out.1) (by omega) (by unfold maxLen; omega) (by omega) (by simp; omega) (w3.heap.size + 1) (by simp) ?_; intro gg cap2 w6 hown6 hgrow6 hat6 hlt6)
      have hwo : Only (fun _ => False) w3 (w3.alloc (.cells (Pl.cells ⟨r, .slice ta' tn' tc', .slice pa' pn' pc', .slice oa' on' oc', .slice ra' rn' rc3⟩).toArray 43)) := ⟨rfl, rfl, rfl, by simp, fun g hg _ => heap_alloc_old _ _ hg⟩
      have hP := hZ3'.out.push hxx.out (by simp) hwo (by rw [hZl]; exact hown6) hgrow6 hat6
      rw [hZl] at hP
      exact ⟨⟨k + 1, by omega, by go_num, _, hP, by rw [hmore.out, List.map_append, hZr'.out]; rfl⟩, by simp [intOf]; omega⟩
    · obtain rfl : k = n := by omega
      have hall : rules.take k = rules := List.take_of_length_le (by rw [← hg.out, List.length_map, ← hn.out]; exact Nat.le_refl _)
      rw [hall] at hZr
      have hZ' := Lib.hid hZ
      clear hZ hall
      go_wp2
      go_ret
      exact ⟨_, Z, rfl, hZ'.out, hZr⟩
end Go.Proofs.Ytfnmncghgmnaaab
