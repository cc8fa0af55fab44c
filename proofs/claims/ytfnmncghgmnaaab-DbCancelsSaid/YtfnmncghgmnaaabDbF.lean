/-
  New (8): the rules of the base in order. Conditions: lists of at most a million strings; strings of at most 2^60 bytes.
-/
import Derived.Test.YtfnmncghgmnaaabDbE2
import Derived.Deep.RegionLaw
import Derived.Deep.CutBlock
import Derived.Deep.DeepCutAuto
import Derived.Deep.CutRange
namespace Go.Proofs.Ytfnmncghgmnaaab
open Go.RowKit

theorem info43 : (Try.prog.info? 43).map (fun i => (i.zero, i.size, i.bytes)) = some (some (.agg #[.slice none 0 0, .slice none 0 0, .slice none 0 0, .bool false, .bool false, .bool false, .string ⟨#[]⟩, .slice none 0 0, .bool false, .string ⟨#[]⟩, .bool false]), 11, 152) := by kernel_rfl
theorem newAt_own {w : World} {base n : Nat} {v : Value} {e size : Nat} {xs : List Value} (h : w.ownsRow base e size v n xs) : NewAt base v := by
  rintro a n c rfl
  exact (h.lt a.block rfl).1
theorem dcells_after {w wa w5 : World} {bd : Nat} {o : Obj} {row : Option Nat} (h : w.heap[bd]? = some o) (hg : wa.grownBy w5 row) (hwo : Only (fun _ => False) w wa) (hne : row ≠ some bd) : w5.heap[bd]? = some o :=
  (hg.block bd (Nat.lt_of_lt_of_le (heap_lt h) hwo.size) (fun e => hne e.symm)).trans ((hwo.block bd (heap_lt h) (fun k => k)).trans h)
theorem cell_of_d {w : World} {bd o : Nat} {cs : Array Value} {t : TypeId} {v : Value} (h : w.heap[bd]? = some (.cells cs t (0, 0))) (hv : cs[o]? = some v) : w.cell? ⟨bd, o, none⟩ = some v ∧ w.frozen? ⟨bd, o, none⟩ = false :=
  ⟨by unfold World.cell?; rw [h]; simpa using hv, by unfold World.frozen?; rw [h]; simp⟩
theorem flat_extract : ∀ (B : List Pl) (k : Nat) (x : Pl), B[k]? = some x → ((flat B).drop (k * 11)).take 11 = x.cells
  | [], k, x, h => by simp at h
  | y :: B, 0, x, h => by
    simp at h; subst h
    rw [flat, Nat.zero_mul, List.drop_zero, List.take_append_of_le_length (by simp [Pl.cells]), List.take_of_length_le (by simp [Pl.cells])]
  | y :: B, k + 1, x, h => by
    simp at h
    have e : (k + 1) * 11 = y.cells.length + k * 11 := by simp [Pl.cells]; omega
    rw [flat, e, List.drop_append, List.drop_of_length_le (by simp), List.nil_append, Nat.add_sub_cancel_left]
    exact flat_extract B k x h
theorem index61 (B : List Pl) (k : Nat) (x : Pl) (h : B[k]? = some x) (hB : B.length = 4) (w : World) : (Instr.index 61 (.agg (flat B).toArray) (.int .i64 k)).run Try.prog w = .ok (.agg x.cells.toArray) w := by
  have hk : k < 4 := by rw [← hB]; exact (List.getElem?_eq_some_iff.1 h).1
  obtain ⟨i43, hi43, hz43, hs43, hb43⟩ := info_parts info43
  have hs : (sizeOf 43).run Try.prog w = .ok 11 w := by simp [sizeOf, typeInfo, hi43, hs43]
  have h0 : (0 : Int) ≤ (k : Int) ∧ (k : Int) < ((4 : Nat) : Int) := by omega
  have hx2 := flat_extract B k x h
  simp [Instr.index, asIntOf, run_underlying Try.underlying61, part, hs, hk, hx2]
theorem wpList_index {P : Program} {ops : Array Oper} {rest : List Oper} {o : Oper} {a : Act} {w : World} {Q : Exit → Act → World → Prop} (hg : o.guard = none) (t : TypeId) (x i : Operand) (hop : o.op = Op.index t x i)
    (v u r : Value) (hx : a.eval x = v) (hi : a.eval i = u) (hr : (Instr.index t v u).run P w = .ok r w) (hK : wpList P ops Q rest (a.put o.dst r) w) : wpList P ops Q (o :: rest) a w := by
  refine wpList_plain hg fun K' hK' => ?_
  unfold Oper.wp
  simp only [execOp, hop, hx, hi, Sem.run_bind, hr, Result.andThen]
  exact hK' _ _ hK
def turnAll (L : List ByteArray) (rs : List Ru) : List Ru := rs.map fun r => (turnedR r L).getD r
/-- What the lists of a base are asked. -/
structure BaseSmall (rs : List Ru) : Prop where
  len : rs.length ≤ 100000
  pre : preW rs ≤ 1000000
  small : ∀ r ∈ rs, RuSmall r
  ts : ∀ r ∈ rs, ∀ s ∈ r.targets, s.size ≤ big
  ps : ∀ r ∈ rs, ∀ s ∈ r.prereqs, s.size ≤ big
  os : ∀ r ∈ rs, ∀ s ∈ r.orders, s.size ≤ big

set_option maxRecDepth 100000 in
set_option maxHeartbeats 4000000 in
theorem new_calls (v : Value) (a1 a2 a3 a4 a6 : Option Addr) (n1 n2 n3 n4 n6 c1 c2 c3 c4 c6 : Nat) (goal : ByteArray) (xs : List Pl) (plain : Bool) (w : World) (h : RulesAt w v xs) (hb : BaseSmall (xs.map Pl.r)) :
    Calls Try.prog 8 #[.agg #[v, .slice a1 n1 c1, .slice a2 n2 c2, .slice a3 n3 c3, .slice a4 n4 c4, .string goal, .slice a6 n6 c6], .bool plain] w fun e w' => ∃ bd, e = .returned (.pointer (some ⟨bd, 0, none⟩)) ∧ Below w.heap.size w w' ∧
      DbAt w.heap.size bd xs.length (newRules plain (xs.map Pl.r)) (xs.map Pl.r) (implR (newRules plain (xs.map Pl.r)) xs.length (newRules plain (xs.map Pl.r)).length) (namedR (newRules plain (xs.map Pl.r))) w' := by
  obtain ⟨i43, hi43, hz43, hs43, hb43⟩ := info_parts info43
  obtain ⟨i3, hi3, hz3, hs3, hb3⟩ := info_parts info3
  obtain ⟨a, n, c, hvv, hn0, hc, hm, hrow0, -⟩ := h.1
  have hR := Lib.hid h
  have hat := Lib.hid h.2
  subst hvv
  unfold maxLen at hm
  have hrow := Lib.hid hrow0
  have hn := Lib.hid hn0
  have hbs := Lib.hid hb
  have hn9 : n ≤ 100000 := by have := hb.len; rw [List.length_map] at this; omega
  clear hrow0 hn0 h hb
  have hmm := @run_makeMap Try.prog
  go_enter Try.func8, Try.ntmps8
  go_wp2_with fail
  obtain ⟨fB, fS, fd, fe, fn, f28⟩ : Below w.heap.size w ((((w.alloc (.cells #[Value.slice a n c, .slice a1 n1 c1, .slice a2 n2 c2, .slice a3 n3 c3, .slice a4 n4 c4, .string goal, .slice a6 n6 c6] 28)).alloc (.map #[] 0)).alloc (.map #[] 0)).alloc (.cells #[Value.slice none 0 0, .slice none 0 0, .int .i64 n, .map (some (w.heap.size + 1)), .slice none 0 0, .map (some (w.heap.size + 1 + 1))] 56)) ∧ ((((w.alloc (.cells #[Value.slice a n c, .slice a1 n1 c1, .slice a2 n2 c2, .slice a3 n3 c3, .slice a4 n4 c4, .string goal, .slice a6 n6 c6] 28)).alloc (.map #[] 0)).alloc (.map #[] 0)).alloc (.cells #[Value.slice none 0 0, .slice none 0 0, .int .i64 n, .map (some (w.heap.size + 1)), .slice none 0 0, .map (some (w.heap.size + 1 + 1))] 56)).heap.size = w.heap.size + 4 ∧ ((((w.alloc (.cells #[Value.slice a n c, .slice a1 n1 c1, .slice a2 n2 c2, .slice a3 n3 c3, .slice a4 n4 c4, .string goal, .slice a6 n6 c6] 28)).alloc (.map #[] 0)).alloc (.map #[] 0)).alloc (.cells #[Value.slice none 0 0, .slice none 0 0, .int .i64 n, .map (some (w.heap.size + 1)), .slice none 0 0, .map (some (w.heap.size + 1 + 1))] 56)).heap[w.heap.size + 3]? = some (.cells #[Value.slice none 0 0, .slice none 0 0, .int .i64 n, .map (some (w.heap.size + 1)), .slice none 0 0, .map (some (w.heap.size + 2))] 56 (0, 0)) ∧
      ((((w.alloc (.cells #[Value.slice a n c, .slice a1 n1 c1, .slice a2 n2 c2, .slice a3 n3 c3, .slice a4 n4 c4, .string goal, .slice a6 n6 c6] 28)).alloc (.map #[] 0)).alloc (.map #[] 0)).alloc (.cells #[Value.slice none 0 0, .slice none 0 0, .int .i64 n, .map (some (w.heap.size + 1)), .slice none 0 0, .map (some (w.heap.size + 1 + 1))] 56)).heap[w.heap.size + 1]? = some (.map #[] 0) ∧ ((((w.alloc (.cells #[Value.slice a n c, .slice a1 n1 c1, .slice a2 n2 c2, .slice a3 n3 c3, .slice a4 n4 c4, .string goal, .slice a6 n6 c6] 28)).alloc (.map #[] 0)).alloc (.map #[] 0)).alloc (.cells #[Value.slice none 0 0, .slice none 0 0, .int .i64 n, .map (some (w.heap.size + 1)), .slice none 0 0, .map (some (w.heap.size + 1 + 1))] 56)).heap[w.heap.size + 2]? = some (.map #[] 0) ∧ ((((w.alloc (.cells #[Value.slice a n c, .slice a1 n1 c1, .slice a2 n2 c2, .slice a3 n3 c3, .slice a4 n4 c4, .string goal, .slice a6 n6 c6] 28)).alloc (.map #[] 0)).alloc (.map #[] 0)).alloc (.cells #[Value.slice none 0 0, .slice none 0 0, .int .i64 n, .map (some (w.heap.size + 1)), .slice none 0 0, .map (some (w.heap.size + 1 + 1))] 56)).cell? ⟨w.heap.size, 0, none⟩ = some (.slice a n c) :=
    ⟨below_al (below_al (below_al (below_al (Below.refl _ _)))), by simp, heap_at3 _ _ _ _ _, heap_at1 _ _ _ _ _, heap_at2 _ _ _ _ _, by simp [World.cell?, heap_at0]⟩
  change Calls _ _ _ ((((w.alloc (.cells #[Value.slice a n c, .slice a1 n1 c1, .slice a2 n2 c2, .slice a3 n3 c3, .slice a4 n4 c4, .string goal, .slice a6 n6 c6] 28)).alloc (.map #[] 0)).alloc (.map #[] 0)).alloc (.cells #[Value.slice none 0 0, .slice none 0 0, .int .i64 n, .map (some (w.heap.size + 1)), .slice none 0 0, .map (some (w.heap.size + 1 + 1))] 56)) _
  generalize ((((w.alloc (.cells #[Value.slice a n c, .slice a1 n1 c1, .slice a2 n2 c2, .slice a3 n3 c3, .slice a4 n4 c4, .string goal, .slice a6 n6 c6] 28)).alloc (.map #[] 0)).alloc (.map #[] 0)).alloc (.cells #[Value.slice none 0 0, .slice none 0 0, .int .i64 n, .map (some (w.heap.size + 1)), .slice none 0 0, .map (some (w.heap.size + 1 + 1))] 56)) = w1 at fB fS fd fe fn f28 ⊢
  refine (suffixes_calls _ xs plain w1 (hR.out.below fB) hbs.out.pre).mono ?_
  rintro e w2 ⟨vl, rfl, hl, hB2⟩
  generalize hL : sufs plain (xs.map Pl.r) = L at hl
  have g28 : w2.cell? ⟨w.heap.size, 0, none⟩ = some (.slice a n c) := (hB2.cell (p := ⟨w.heap.size, 0, none⟩) (by show w.heap.size < _; omega)).trans f28
  have hI0 : NewInv w (w.heap.size + 1 + 1 + 1) (w.heap.size + 1) (w.heap.size + 1 + 1) n vl L (fun _ => False) (.slice none 0 0) (.slice none 0 0) [] [] w2 :=
    { below := hB2.mono' fB
      dcells := (hB2.block _ (by omega)).trans fd
      r0 := World.ownsRow_nil _ _ _ _
      r1 := World.ownsRow_nil _ _ _ _
      ne := fun g e => by cases e
      me := (hB2.block _ (by omega)).trans fe
      mn := (hB2.block _ (by omega)).trans fn
      far := ⟨by omega, by omega, by omega, by omega⟩
      all := fun x hx => by simp at hx
      l := ⟨strsAt_own hl, (strsAt_own hl).off_new (newAt_own hl) (fun g k => by
        rcases k with k | k | k | k
        · exact Or.inl (by omega)
        · cases k
        · cases k
        · exact k.elim)⟩
      tm := fun g k => k.elim }
  have hI0' := Lib.hid hI0
  have hLz := Lib.hid (show ∀ s ∈ L, s.size ≤ big from by rw [← hL]; exact sufs_sizes plain _ hbs.out.ps)
  clear hI0 fB fS fd fe fn f28 hB2 hl
  go_wp2_with fail
  go_loopw [29] (fun iv wr => ∃ k : Nat, k ≤ n ∧ iv = .int .i64 k ∧ ∃ v0 v1 X Y, NewInv w (w.heap.size + 1 + 1 + 1) (w.heap.size + 1) (w.heap.size + 1 + 1) n vl L (fun _ => False) v0 v1 X Y wr ∧ X.map Pl.r = turnAll L ((xs.map Pl.r).take k) ∧ Y.map Pl.r = (xs.map Pl.r).take k) (fun iv _ => n - (intOf iv).toNat)
  case atStart => exact ⟨0, Nat.zero_le _, rfl, _, _, [], [], hI0'.out, rfl, rfl⟩
  case round =>
    obtain ⟨k, hk, rfl, v0, v1, X, Y, hI, hX, hY⟩ := hrel
    by_cases hlt : k < n
    · obtain ⟨x, hx⟩ : ∃ x, xs[k]? = some x := ⟨_, List.getElem?_eq_getElem (by rw [← hn.out]; exact hlt)⟩
      obtain ⟨b, off, rfl, hb, hcells⟩ := hrow.out (by omega)
      obtain ⟨f0, f1, f2, f3, f4, f5, f6, f7, f8, f9, f10⟩ := range11 (w := wr) (x := x) (b := b) (o := off + k * 11) (fun j v hj => (hI.below.cell (p := ⟨b, off + k * 11 + j, none⟩) hb).trans (hcells k x hx j v hj))
      have hxm := List.mem_of_getElem? hx
      have hxa0 : x.at wr := RuAt.below (hat.out x hxm) hI.below
      have hxs := hbs.out.small x.r (List.mem_map_of_mem hxm)
      have hxt := Lib.hid (hbs.out.ts x.r (List.mem_map_of_mem hxm))
      have hX' : X.map Pl.r ++ [(turnedR x.r L).getD x.r] = turnAll L ((xs.map Pl.r).take (k + 1)) := by
        rw [take_more (n := k) (x := x.r) (by simp [hx]), turnAll, List.map_append, hX]; rfl
      have hY' : Y.map Pl.r ++ [x.r] = (xs.map Pl.r).take (k + 1) := by rw [take_more (n := k) (x := x.r) (by simp [hx]), hY]
      have hXh := Lib.hid hX'
      have hYh := Lib.hid hY'
      have hYl : Y.length = k := by have := congrArg List.length hY; rw [List.length_map, List.length_take, List.length_map, ← hn.out] at this; omega
      have hXl : X.length = k := by have := congrArg List.length hX; rw [turnAll, List.length_map, List.length_map, List.length_take, List.length_map, ← hn.out] at this; omega
      have z1 : (0 : Int) ≤ (k : Int) := by omega
      have z2 : (k : Int) < (n : Int) := by omega
      clear hcells hx hxm hX hY hX' hY'
      obtain ⟨r, t, p, o, rc⟩ := x
      dsimp only [Pl.at] at hxa0 f0 f1 f2 f3 f4 f5 f6 f7 f8 f9 f10 hxs hxt hXh hYh
      obtain ⟨⟨ta, tn, tc, rfl⟩, ⟨pa, pn, pc, rfl⟩, ⟨oa, on, oc, rfl⟩, ⟨ra, rn, rc2, rfl⟩⟩ := hxa0.slices
      have hxa := Lib.hid hxa0
      have hIh := Lib.hid hI
      clear hxa0 hI
      go_wp2_with fail
      have hBa : Below wr.heap.size wr (wr.alloc (.cells (rcells r (.slice ta tn tc) (.slice pa pn pc) (.slice oa on oc) (.slice ra rn rc2)) 43)) := below_al (Below.refl _ _)
      have hth := there_alloc wr (rcells r (.slice ta tn tc) (.slice pa pn pc) (.slice oa on oc) (.slice ra rn rc2)) 43 11 rfl
      refine (own_calls r _ _ _ _ _ (hxa.out.below hBa) hxs).mono ?_
      rintro e w3 ⟨t', p', o', rc', rfl, q1, ⟨m1, m2, m3, m4⟩, d3⟩
      have hth3 := there_below hth d3 (by simp)
      have hlt3 : wr.heap.size < w3.heap.size := by have := d3.size; simp at this; omega
      have hB3 := Lib.hid (d3.mono' hBa)
      have hsz3 : (wr.alloc (.cells (rcells r (.slice ta tn tc) (.slice pa pn pc) (.slice oa on oc) (.slice ra rn rc2)) 43)).heap.size = wr.heap.size + 1 := by simp
      have hnew3 := Lib.hid (show (⟨r, t', p', o', rc'⟩ : Pl).new (wr.heap.size + 1) from by rw [← hsz3]; exact ⟨m1, m2, m3, m4⟩)
      have hone := all_oneCell_toArray (Pl.at.one (x := ⟨r, t', p', o', rc'⟩) q1)
      have hq1 := Lib.hid (show (⟨r, t', p', o', rc'⟩ : Pl).at w3 from q1)
      clear hth d3 m1 m2 m3 m4 q1 hsz3 hBa
      have hth4 : w3.there wr.heap.size 0 (Pl.cells ⟨r, t', p', o', rc'⟩).toArray.size := hth3
      have hi4 : (Try.prog.info? 43).map (·.size) = some (Pl.cells ⟨r, t', p', o', rc'⟩).toArray.size := Pl.cells_size ⟨r, t', p', o', rc'⟩
      clear hth3
      dsimp only
      go_step
      refine wpList_store_mid rfl 43 (.tmp 8) (.tmp 34) rfl wr.heap.size 0 (Pl.cells ⟨r, t', p', o', rc'⟩).toArray rfl rfl hth4 hi4 hone ?_
      have hr4 : (w3.setCells wr.heap.size 0 (Pl.cells ⟨r, t', p', o', rc'⟩)).rangeAt wr.heap.size 0 (Pl.cells ⟨r, t', p', o', rc'⟩) := World.rangeAt_setCells_same _ _ _ _ hth4
      have hO4 : Only (fun g => g = wr.heap.size) wr (w3.setCells wr.heap.size 0 (Pl.cells ⟨r, t', p', o', rc'⟩)) := Only.setCells (Tm := fun g => g = wr.heap.size) (b := wr.heap.size) rfl _ _ _ (Only.of_below hB3.out)
      have hI4 := (hIh.out.temps (fun g => g = wr.heap.size) (fun g k => Or.inr (by omega))).only hO4
      have hx4 := hq1.out.setCells (o := 0) (vs := Pl.cells ⟨r, t', p', o', rc'⟩) hnew3.out (Nat.lt_succ_self _)
      have hs4 : (w3.setCells wr.heap.size 0 (Pl.cells ⟨r, t', p', o', rc'⟩)).heap.size = w3.heap.size := setCells_size _ _ _
      have hth4' := Lib.hid (show (w3.setCells wr.heap.size 0 (Pl.cells ⟨r, t', p', o', rc'⟩)).there wr.heap.size 0 11 from World.there_setCells (show w3.there wr.heap.size 0 11 from hth4) _ _ _)
      change wpList _ _ _ _ _ (w3.setCells wr.heap.size 0 (Pl.cells ⟨r, t', p', o', rc'⟩))
      generalize w3.setCells wr.heap.size 0 (Pl.cells ⟨r, t', p', o', rc'⟩) = w4 at hth4' hr4 hO4 hI4 hx4 hs4 ⊢
      have hoff4 : Pl.off ⟨r, t', p', o', rc'⟩ (Wr (w.heap.size + 1 + 1 + 1) v0 v1 (fun g => g = wr.heap.size)) := hx4.off_new hnew3.out (fun g k => by
        rcases k with k | k | k | k
        · have := hIh.out.lts.1; exact Or.inl (by omega)
        · have := (hIh.out.own_ne.1 g k).2.2.2; exact Or.inl (by omega)
        · have := (hIh.out.own_ne.2 g k).2.2.2; exact Or.inl (by omega)
        · exact Or.inl (by omega))
      have hnw : Pl.new ⟨r, t', p', o', rc'⟩ w.heap.size := hnew3.out.mono (by have := hIh.out.lts.2.2.2; omega)
      obtain ⟨⟨ta', tn', tc', rfl⟩, ⟨pa', pn', pc', rfl⟩, ⟨oa', on', oc', rfl⟩, ⟨ra', rn', rc2', rfl⟩⟩ := RuAt.slices hx4
      obtain ⟨ad1, cap1, rfl⟩ : ∃ ad cap, v1 = .slice ad k cap := by
        rcases hI4.r1.2 with ⟨rfl, h0⟩ | ⟨g, cap, cur, rfl, -⟩
        · exact ⟨none, 0, by rw [← hYl, h0]⟩
        · exact ⟨_, _, by rw [hYl]⟩
      have hd1 : w4.cell? ⟨w.heap.size + 1 + 1 + 1, 1, none⟩ = some (.slice ad1 k cap1) := by unfold World.cell?; rw [hI4.dcells]; rfl
      have hfd : ∀ o, w4.frozen? ⟨w.heap.size + 1 + 1 + 1, o, none⟩ = false := fun o => by unfold World.frozen?; rw [hI4.dcells]; simp
      obtain ⟨g0, g1, g2, g3, g4, g5, g6, g7, g8, g9, g10⟩ := range11 hr4
      rw [Nat.zero_add] at g1 g2 g3 g4 g5 g6 g7 g8 g9 g10
      have hr4' := hr4
      have hI4' := Lib.hid hI4
      have hx4' := Lib.hid hx4
      have hoff4' := Lib.hid hoff4
      have hnw' := Lib.hid hnw
      have hr1 := Lib.hid (show w4.ownsRow w.heap.size 43 11 (.slice ad1 k cap1) k (flat Y) by have := hI4.r1; rw [hYl] at this; exact this)
      have hlt4 : wr.heap.size < w4.heap.size := by omega
      have hbd4 : w.heap.size + 1 + 1 + 1 < w4.heap.size := hI4.lts.1
      have hneD : (Value.slice ad1 k cap1).ownBlock ≠ some (w.heap.size + 1 + 1 + 1) := fun e => (hI4'.out.own_ne.2 _ e).1 rfl
      clear hr4 hO4 hI4 hx4 hoff4 hnw hone hth4 hi4 hs4 hIh hq1 hB3
      go_wp2_with fail
      go_cut [] from 35 to 44 (fun wx => ∃ v1' : Value, NewInv w (w.heap.size + 1 + 1 + 1) (w.heap.size + 1) (w.heap.size + 1 + 1) n vl L (fun g => g = wr.heap.size) v0 v1' X (Y ++ [⟨r, .slice ta' tn' tc', .slice pa' pn' pc', .slice oa' on' oc', .slice ra' rn' rc2'⟩]) wx ∧ wr.heap.size < wx.heap.size ∧ wx.rangeAt wr.heap.size 0 (Pl.cells ⟨r, .slice ta' tn' tc', .slice pa' pn' pc', .slice oa' on' oc', .slice ra' rn' rc2'⟩) ∧ wx.there wr.heap.size 0 11)
      case first =>
        go_region_law ((refine step_append_lies _ (by rfl) _ _ _ (by rfl) w.heap.size 43 i43 _ 11 152 Try.underlying22 hi43 hz43 hs43 hb43 rfl (by omega) (.slice ad1 k cap1) k (flat Y) (by rfl) ((hr1.out.alloc _).drew) ⟨w4.heap.size, 0, none⟩ 1 1 (Pl.cells ⟨r, .slice ta' tn' tc', .slice pa' pn' pc', .slice oa' on' oc', .slice ra' rn' rc2'⟩) (by rfl) (by rfl) (World.news_of_block (cs := (Pl.cells ⟨r, .slice ta' tn' tc', .slice pa' pn' pc', .slice oa' on' oc', .slice ra' rn' rc2'⟩).toArray) (t := 43) (fr := (0, 0)) (heap_alloc_new w4 _)) (Pl.at.one hx4'.out) (by omega) (by unfold maxLen; omega) (by omega) (by simp; omega) (w4.heap.size + 1) (by simp) ?_; intro gg cap2 w5 hown5 hgrow5 hat5 hlt5; have hd5 := dcells_after hI4'.out.dcells hgrow5 ⟨rfl, rfl, rfl, by simp, fun g hg _ => heap_alloc_old _ _ hg⟩ hneD; obtain ⟨hc5, hf5⟩ := cell_of_d (o := 1) hd5 rfl; clear hd5))
        all_goals
          (go_wp2_with fail
           go_meet
           case rel =>
             have hwo : Only (fun _ => False) w4 (w4.alloc (.cells (Pl.cells ⟨r, .slice ta' tn' tc', .slice pa' pn' pc', .slice oa' on' oc', .slice ra' rn' rc2'⟩).toArray 43)).drew := ⟨rfl, rfl, rfl, by simp, fun g hg _ => heap_alloc_old _ _ hg⟩
             have hO := append_only (bd := w.heap.size + 1 + 1 + 1) (o := 1) (u := .slice (some ⟨gg, 0, none⟩) (k + 1) cap2) hwo hgrow5
             have hN := hI4'.out.given ⟨hx4'.out, hnw'.out, hoff4'.out⟩ (fun g e => by omega) (by simp) hwo (by rw [hYl]; exact hown5) hgrow5 hat5
             rw [hYl] at hN
             exact ⟨_, hN, Nat.lt_of_lt_of_le hlt4 hO.size, range_only hr4' hO hlt4 (fun e => e.elim ((hI4'.out.tm _ rfl).2.2.1) (hI4'.out.tm _ rfl).1), there_only hth4'.out hO hlt4 (fun e => e.elim ((hI4'.out.tm _ rfl).2.2.1) (hI4'.out.tm _ rfl).1)⟩)
      case rest =>
        obtain ⟨v1', hI5, hlt5, hr5, hth5⟩ := hcut
        have hth5' := Lib.hid hth5
        clear hth5
        have hx5 := Lib.hid (hI5.all ⟨r, .slice ta' tn' tc', .slice pa' pn' pc', .slice oa' on' oc', .slice ra' rn' rc2'⟩ (Or.inr (by simp)))
        have hI5' := Lib.hid hI5
        have hl5 := Lib.hid hI5.l.1
        clear hI4' hx4' hoff4' hnw' hr1 hlt4 hbd4 hneD g0 g1 g2 g3 g4 g5 g6 g7 g8 g9 g10 hr4'
        obtain ⟨g0, g1, g2, g3, g4, g5, g6, g7, g8, g9, g10⟩ := range11 hr5
        rw [Nat.zero_add] at g1 g2 g3 g4 g5 g6 g7 g8 g9 g10
        have hr5' := Lib.hid hr5
        clear hI5 hr5
        go_wp2_with fail
        refine (turned_calls r (.slice ta' tn' tc') (.slice pa' pn' pc') (.slice oa' on' oc') (.slice ra' rn' rc2') vl L wc hx5.out.1 hxs hl5.out hLz.out hxt.out).mono ?_
        rintro e w6 ⟨x2, rfl, hx2r, hx2, ⟨ht2, hp2, ho2, hrc2⟩, hB6⟩
        have hI6 := hI5'.out.only (Only.of_below hB6)
        have hlt6 : wr.heap.size < w6.heap.size := Nat.lt_of_lt_of_le hlt5 hB6.size
        have hr6 := range_below hr5'.out hB6 hlt5
        have hth6 := Lib.hid (there_below hth5'.out hB6 hlt5)
        have hWlt := Wr_lt hI5'.out (fun g e => by omega)
        obtain ⟨⟨xa, xn, xo⟩⟩ := (⟨hx5.out⟩ : Nonempty _)
        have hx2n : x2.new w.heap.size := by
          have hb : w.heap.size ≤ wc.heap.size := hI5'.out.lts.2.2.2
          refine ⟨?_, ?_, ?_, ?_⟩
          · rcases ht2 with e | e
            · rw [e]; exact xn.1
            · exact e.mono hb
          · rcases hp2 with e | e
            · rw [e]; exact xn.2.1
            · exact e.mono hb
          · rw [ho2]; exact xn.2.2.1
          · rw [hrc2]; exact xn.2.2.2
        have hx2o : x2.off (Wr (w.heap.size + 1 + 1 + 1) v0 v1' (fun g => g = wr.heap.size)) := by
          refine ⟨?_, ?_, ?_, ?_⟩
          · rcases ht2 with e | e
            · rw [e]; exact xo.1
            · exact hx2.1.off_new e (fun g k => Or.inl (hWlt g k))
          · rcases hp2 with e | e
            · rw [e]; exact xo.2.1
            · exact hx2.2.1.off_new e (fun g k => Or.inl (hWlt g k))
          · rw [ho2]; exact xo.2.2.1
          · rw [hrc2]; exact xo.2.2.2
        have hx1 := Lib.hid (show Pl.at ⟨r, .slice ta' tn' tc', .slice pa' pn' pc', .slice oa' on' oc', .slice ra' rn' rc2'⟩ w6 from RuAt.below xa hB6)
        have hx1n := Lib.hid xn
        have hx1o := Lib.hid xo
        obtain ⟨r2, t2, p2, o2, rc3⟩ := x2
        obtain ⟨⟨ta2, tn2, tc2, rfl⟩, ⟨pa2, pn2, pc2, rfl⟩, ⟨oa2, on2, oc2, rfl⟩, ⟨ra2, rn2, rc4, rfl⟩⟩ := RuAt.slices hx2
        dsimp only at hx2r
        have hgd := Lib.hid hx2r
        have hx2' := Lib.hid hx2
        have hx2n' := Lib.hid hx2n
        have hx2o' := Lib.hid hx2o
        have hI6' := Lib.hid hI6
        have hr6' := Lib.hid hr6
        have hnone := Lib.hid (show (turnedR r L).isSome = false → (turnedR r L).getD r = r by cases turnedR r L <;> simp)
        clear hI6 hx2 hx2n hx2o ht2 hp2 ho2 hrc2 hB6 xa xn xo hWlt hx5 hI5' hl5 hr5' hr6 hx2r g0 g1 g2 g3 g4 g5 g6 g7 g8 g9 g10
        generalize hok : (turnedR r L).isSome = ok at hnone ⊢
        clear hok
        dsimp only [Pl.cells]
        go_upto_if 51 with (fail)
        have hWlt6 := Wr_lt hI6'.out (fun g e => by omega)
        go_cut [] from 52 to 52 (fun wx => ∃ x3 : Pl, x3.r = (turnedR r L).getD r ∧ NewInv w (w.heap.size + 1 + 1 + 1) (w.heap.size + 1) (w.heap.size + 1 + 1) n vl L (fun g => g = wr.heap.size) v0 v1' X (Y ++ [⟨r, .slice ta' tn' tc', .slice pa' pn' pc', .slice oa' on' oc', .slice ra' rn' rc2'⟩]) wx ∧ (x3.at wx ∧ x3.new w.heap.size ∧ x3.off (Wr (w.heap.size + 1 + 1 + 1) v0 v1' (fun g => g = wr.heap.size))) ∧ wx.rangeAt wr.heap.size 0 x3.cells ∧ wr.heap.size < wx.heap.size)
        case first =>
          have hB7 : Below w6.heap.size w6 (w6.alloc (.cells (Pl.cells ⟨r2, .slice ta2 tn2 tc2, .slice pa2 pn2 pc2, .slice oa2 on2 oc2, .slice ra2 rn2 rc4⟩).toArray 43)) := below_al (Below.refl _ _)
          have hlt7 : wr.heap.size < (w6.alloc (.cells (Pl.cells ⟨r2, .slice ta2 tn2 tc2, .slice pa2 pn2 pc2, .slice oa2 on2 oc2, .slice ra2 rn2 rc4⟩).toArray 43)).heap.size := by simp; omega
          cases ok
          · go_wp2_with fail
            go_meet
            case rel => exact ⟨⟨r, .slice ta' tn' tc', .slice pa' pn' pc', .slice oa' on' oc', .slice ra' rn' rc2'⟩, (hnone.out (by trivial)).symm, hI6'.out.only (Only.of_below hB7), ⟨RuAt.below hx1.out hB7, hx1n.out, hx1o.out⟩, range_below hr6'.out hB7 hlt6, hlt7⟩
          · have hth7 := there_below hth6.out hB7 hlt6
            have hi7 : (Try.prog.info? 43).map (·.size) = some (Pl.cells ⟨r2, .slice ta2 tn2 tc2, .slice pa2 pn2 pc2, .slice oa2 on2 oc2, .slice ra2 rn2 rc4⟩).toArray.size := Pl.cells_size ⟨r2, .slice ta2 tn2 tc2, .slice pa2 pn2 pc2, .slice oa2 on2 oc2, .slice ra2 rn2 rc4⟩
            have hone7 := all_oneCell_toArray (Pl.at.one hx2'.out)
            have hth7' : (w6.alloc (.cells (Pl.cells ⟨r2, .slice ta2 tn2 tc2, .slice pa2 pn2 pc2, .slice oa2 on2 oc2, .slice ra2 rn2 rc4⟩).toArray 43)).there wr.heap.size 0 (Pl.cells ⟨r2, .slice ta2 tn2 tc2, .slice pa2 pn2 pc2, .slice oa2 on2 oc2, .slice ra2 rn2 rc4⟩).toArray.size := hth7
            go_wp2_with (refine wpList_store_mid rfl 43 (.tmp 8) (.tmp 52) rfl wr.heap.size 0 (Pl.cells ⟨r2, .slice ta2 tn2 tc2, .slice pa2 pn2 pc2, .slice oa2 on2 oc2, .slice ra2 rn2 rc4⟩).toArray rfl rfl hth7' hi7 hone7 ?_)
            go_meet
            case rel =>
              have hO7 := Only.setCells (Tm := fun g => g = wr.heap.size) (b := wr.heap.size) rfl (Pl.cells ⟨r2, .slice ta2 tn2 tc2, .slice pa2 pn2 pc2, .slice oa2 on2 oc2, .slice ra2 rn2 rc4⟩) 0 _ (Only.of_below hB7)
              have hx7 : Pl.at ⟨r2, .slice ta2 tn2 tc2, .slice pa2 pn2 pc2, .slice oa2 on2 oc2, .slice ra2 rn2 rc4⟩ _ := hx2'.out.only (hx2o'.out.mono fun g k => Or.inr (Or.inr (Or.inr k))) hO7
              exact ⟨⟨r2, .slice ta2 tn2 tc2, .slice pa2 pn2 pc2, .slice oa2 on2 oc2, .slice ra2 rn2 rc4⟩, hgd.out, hI6'.out.only hO7, ⟨hx7, hx2n'.out, hx2o'.out⟩, World.rangeAt_setCells_same _ _ _ _ hth7', by rw [setCells_size]; exact hlt7⟩
        case rest =>
          obtain ⟨⟨r3, t3, p3, o3, c3⟩, hx3r, hJ0, ⟨hy3, hy3n, hy3o⟩, hr3, hltd⟩ := hcut
          obtain ⟨⟨ta3, tn3, tc3, rfl⟩, ⟨pa3, pn3, pc3, rfl⟩, ⟨oa3, on3, oc3, rfl⟩, ⟨ra3, rn3, rc3, rfl⟩⟩ := RuAt.slices hy3
          dsimp only at hx3r
          obtain ⟨ad0, cap0, rfl⟩ : ∃ ad cap, v0 = .slice ad k cap := by
            rcases hJ0.r0.2 with ⟨rfl, h0⟩ | ⟨g, cap, cur, rfl, -⟩
            · exact ⟨none, 0, by rw [← hXl, h0]⟩
            · exact ⟨_, _, by rw [hXl]⟩
          obtain ⟨hd0, hfd0⟩ := cell_of_d (o := 0) hJ0.dcells rfl
          obtain ⟨g0, g1, g2, g3, g4, g5, g6, g7, g8, g9, g10⟩ := range11 hr3
          rw [Nat.zero_add] at g1 g2 g3 g4 g5 g6 g7 g8 g9 g10
          have hJ := Lib.hid hJ0
          have hy3' := Lib.hid hy3
          have hy3n' := Lib.hid hy3n
          have hy3o' := Lib.hid hy3o
          have hg3 := Lib.hid hx3r
          have hr0 := Lib.hid (show wc.ownsRow w.heap.size 43 11 (.slice ad0 k cap0) k (flat X) by have := hJ0.r0; rw [hXl] at this; exact this)
          have hbdc : w.heap.size + 1 + 1 + 1 < wc.heap.size := hJ0.lts.1
          have hneD : (Value.slice ad0 k cap0).ownBlock ≠ some (w.heap.size + 1 + 1 + 1) := fun e => (hJ.out.own_ne.1 _ e).1 rfl
          clear hJ0 hy3 hy3n hy3o hx3r hr3 hI6' hx2' hx2n' hx2o' hr6' hx1 hx1n hx1o hgd hnone hth6 hth5' hWlt6
          go_wp2_with fail
          go_region_law ((refine step_append_lies _ (by rfl) _ _ _ (by rfl) w.heap.size 43 i43 _ 11 152 Try.underlying22 hi43 hz43 hs43 hb43 rfl (by omega) (.slice ad0 k cap0) k (flat X) (by rfl) ((hr0.out.alloc _).drew) ⟨wc.heap.size, 0, none⟩ 1 1 (Pl.cells ⟨r3, .slice ta3 tn3 tc3, .slice pa3 pn3 pc3, .slice oa3 on3 oc3, .slice ra3 rn3 rc3⟩) (by rfl) (by rfl) (World.news_of_block (cs := (Pl.cells ⟨r3, .slice ta3 tn3 tc3, .slice pa3 pn3 pc3, .slice oa3 on3 oc3, .slice ra3 rn3 rc3⟩).toArray) (t := 43) (fr := (0, 0)) (heap_alloc_new wc _)) (Pl.at.one hy3'.out) (by omega) (by unfold maxLen; omega) (by omega) (by simp; omega) (wc.heap.size + 1) (by simp) ?_; intro gg cap2 w5 hown5 hgrow5 hat5 hlt5; have hd5 := dcells_after hJ.out.dcells hgrow5 ⟨rfl, rfl, rfl, by simp, fun g hg _ => heap_alloc_old _ _ hg⟩ hneD; obtain ⟨hc5, hf5⟩ := cell_of_d (o := 0) hd5 rfl; clear hd5))
          all_goals
            (go_wp2_with fail
             have hwo : Only (fun _ => False) wc (wc.alloc (.cells (Pl.cells ⟨r3, .slice ta3 tn3 tc3, .slice pa3 pn3 pc3, .slice oa3 on3 oc3, .slice ra3 rn3 rc3⟩).toArray 43)).drew := ⟨rfl, rfl, rfl, by simp, fun g hg _ => heap_alloc_old _ _ hg⟩
             have hN := hJ.out.rules ⟨hy3'.out, hy3n'.out, hy3o'.out⟩ (fun g e => by omega) (by simp) hwo (by rw [hXl]; exact hown5) hgrow5 hat5
             rw [hXl] at hN
             have hNF := Lib.hid (hN.temps (fun _ => False) (fun g k => k.elim))
             clear hN hwo
             exact ⟨⟨k + 1, by omega, by go_num, _, _, _, _, hNF.out, by rw [← hXh.out, List.map_append, ← hg3.out]; rfl, by rw [← hYh.out, List.map_append]; rfl⟩, by simp [intOf]; omega⟩)
    · obtain rfl : k = n := by omega
      have hall : (xs.map Pl.r).take k = xs.map Pl.r := List.take_of_length_le (by rw [List.length_map, ← hn.out]; exact Nat.le_refl _)
      rw [hall] at hX hY
      have hXh := Lib.hid hX
      have hYh := Lib.hid hY
      have hIh := Lib.hid hI
      have hXl : X.length = k := by have := congrArg List.length hX; rw [turnAll, List.length_map, List.length_map, List.length_map, ← hn.out] at this; omega
      clear hX hY hI hall
      go_wp2_with fail
      refine (builtins_calls wr).mono ?_
      rintro e w2 ⟨x1, x2, x3, x4, rfl, ⟨e1, e2, e3, e4⟩, ⟨b1, b2, b3, b4⟩, ⟨m1, m2, m3, m4⟩, hB2⟩
      have hIb := hIh.out.only (Only.of_below hB2)
      have hWlt := Wr_lt hIh.out (fun g e => e.elim)
      obtain ⟨B, hBdef⟩ : ∃ B, B = [x1, x2, x3, x4] := ⟨_, rfl⟩
      rw [← hBdef]
      have hBl : B.length = 4 := by rw [hBdef]; rfl
      have hBr := Lib.hid (show B.map Pl.r = builtinRs by rw [hBdef]; simp [builtinRs, e1, e2, e3, e4])
      have hBa := Lib.hid (show ∀ x ∈ B, x.at w2 ∧ x.new w.heap.size ∧ x.off (Wr (w.heap.size + 1 + 1 + 1) v0 v1 (fun _ => False)) by
        intro x hx
        have hb : w.heap.size ≤ wr.heap.size := hIh.out.lts.2.2.2
        have key : ∀ y : Pl, y.at w2 → y.new wr.heap.size → y.at w2 ∧ y.new w.heap.size ∧ y.off (Wr (w.heap.size + 1 + 1 + 1) v0 v1 (fun _ => False)) := fun y h1 h2 => ⟨h1, h2.mono hb, h1.off_new h2 (fun g k => Or.inl (hWlt g k))⟩
        rw [hBdef] at hx
        simp only [List.mem_cons, List.not_mem_nil, or_false] at hx
        rcases hx with rfl | rfl | rfl | rfl
        · exact key _ b1 m1
        · exact key _ b2 m2
        · exact key _ b3 m3
        · exact key _ b4 m4)
      have hIb' := Lib.hid hIb
      clear hIb hWlt e1 e2 e3 e4 b1 b2 b3 b4 m1 m2 m3 m4 hB2 hBdef hIh
      go_wp2_with fail
      go_loopw [65] (fun iv wr => ∃ q : Nat, q ≤ 4 ∧ iv = .int .i64 q ∧ ∃ v0 X', NewInv w (w.heap.size + 1 + 1 + 1) (w.heap.size + 1) (w.heap.size + 1 + 1) k vl L (fun _ => False) v0 v1 X' Y wr ∧ X'.map Pl.r = turnAll L (xs.map Pl.r) ++ (if plain then [] else builtinRs.take q) ∧ ∀ x ∈ B, x.at wr ∧ x.new w.heap.size ∧ x.off (Wr (w.heap.size + 1 + 1 + 1) v0 v1 (fun _ => False))) (fun iv _ => 4 - (intOf iv).toNat)
      case atStart => exact ⟨0, by omega, rfl, _, _, hIb'.out, by rw [hXh.out]; cases plain <;> simp, hBa.out⟩
      case round =>
        obtain ⟨q, hq, rfl, v0, X', hI, hXr, hBw⟩ := hrel
        by_cases hq4 : q < 4
        · obtain ⟨x, hx⟩ : ∃ x, B[q]? = some x := ⟨_, List.getElem?_eq_getElem (by omega)⟩
          have hidx := index61 B q x hx hBl wr
          have hxw := hBw x (List.mem_of_getElem? hx)
          have hbx : builtinRs.take (q + 1) = builtinRs.take q ++ [x.r] := take_more (by rw [← hBr.out]; simp [hx])
          have hbx' := Lib.hid hbx
          have hz1 : (0 : Int) ≤ (q : Int) := by omega
          have hz2 : (q : Int) < 4 := by omega
          obtain ⟨r, t, p, o, rc0⟩ := x
          obtain ⟨⟨ta, tn, tc, rfl⟩, ⟨pa, pn, pc, rfl⟩, ⟨oa, on, oc, rfl⟩, ⟨ra, rn, rc, rfl⟩⟩ := RuAt.slices hxw.1
          have hxw' := Lib.hid hxw
          have hI' := Lib.hid hI
          have hXr' := Lib.hid hXr
          have hBw' := Lib.hid hBw
          have hXl' : X'.length ≤ 100004 := by
            have h1 := congrArg List.length hXr
            have h2 : (builtinRs.take q).length ≤ 4 := by rw [List.length_take]; exact Nat.le_trans (Nat.min_le_left _ _) hq
            rw [List.length_map, List.length_append, turnAll, List.length_map, List.length_map, ← hn.out] at h1
            cases plain
            · simp only [Bool.false_eq_true, if_false] at h1; omega
            · simp at h1; omega
          dsimp only [Pl.cells] at hidx
          clear hx hxw hbx hI hXr hBw
          cases plain
          · go_wp2_with (refine wpList_index rfl 61 (.tmp 64) (.tmp 65) rfl (.agg (flat B).toArray) (.int .i64 q) _ rfl rfl hidx ?_)
            have hBa : Below wr.heap.size wr (wr.alloc (.cells (Pl.cells ⟨r, .slice ta tn tc, .slice pa pn pc, .slice oa on oc, .slice ra rn rc⟩).toArray 43)) := below_al (Below.refl _ _)
            have hJ0 := hI'.out.only (Only.of_below hBa)
            have hy4 := Lib.hid (show Pl.at ⟨r, .slice ta tn tc, .slice pa pn pc, .slice oa on oc, .slice ra rn rc⟩ (wr.alloc (.cells (Pl.cells ⟨r, .slice ta tn tc, .slice pa pn pc, .slice oa on oc, .slice ra rn rc⟩).toArray 43)) ∧ Pl.new ⟨r, .slice ta tn tc, .slice pa pn pc, .slice oa on oc, .slice ra rn rc⟩ w.heap.size ∧ Pl.off ⟨r, .slice ta tn tc, .slice pa pn pc, .slice oa on oc, .slice ra rn rc⟩ (Wr (w.heap.size + 1 + 1 + 1) v0 v1 (fun _ => False)) from ⟨RuAt.below hxw'.out.1 hBa, hxw'.out.2⟩)
            have hB4 := Lib.hid (show ∀ y ∈ B, y.at (wr.alloc (.cells (Pl.cells ⟨r, .slice ta tn tc, .slice pa pn pc, .slice oa on oc, .slice ra rn rc⟩).toArray 43)) ∧ y.new w.heap.size ∧ y.off (Wr (w.heap.size + 1 + 1 + 1) v0 v1 (fun _ => False)) from fun y hy => ⟨RuAt.below (hBw'.out y hy).1 hBa, (hBw'.out y hy).2⟩)
            have hr3 : (wr.alloc (.cells (Pl.cells ⟨r, .slice ta tn tc, .slice pa pn pc, .slice oa on oc, .slice ra rn rc⟩).toArray 43)).rangeAt wr.heap.size 0 (Pl.cells ⟨r, .slice ta tn tc, .slice pa pn pc, .slice oa on oc, .slice ra rn rc⟩) := range_alloc _ _ _
            have hlb : wr.heap.size < (wr.alloc (.cells (Pl.cells ⟨r, .slice ta tn tc, .slice pa pn pc, .slice oa on oc, .slice ra rn rc⟩).toArray 43)).heap.size := by simp
            change Code.wp _ _ _ _ (wr.alloc (.cells (Pl.cells ⟨r, .slice ta tn tc, .slice pa pn pc, .slice oa on oc, .slice ra rn rc⟩).toArray 43))
            generalize wr.alloc (.cells (Pl.cells ⟨r, .slice ta tn tc, .slice pa pn pc, .slice oa on oc, .slice ra rn rc⟩).toArray 43) = wb at hJ0 hy4 hB4 hr3 hlb ⊢
            obtain ⟨m, hm⟩ : ∃ m, X'.length = m := ⟨_, rfl⟩
            obtain ⟨ad0, cap0, rfl⟩ : ∃ ad cap, v0 = .slice ad m cap := by
              rcases hJ0.r0.2 with ⟨rfl, h0⟩ | ⟨g, cap, cur, rfl, -⟩
              · exact ⟨none, 0, by rw [← hm, h0]⟩
              · exact ⟨_, _, by rw [hm]⟩
            rw [hm] at hXl'
            obtain ⟨hd0, hfd0⟩ := cell_of_d (o := 0) hJ0.dcells rfl
            obtain ⟨g0, g1, g2, g3, g4, g5, g6, g7, g8, g9, g10⟩ := range11 hr3
            rw [Nat.zero_add] at g1 g2 g3 g4 g5 g6 g7 g8 g9 g10
            have hJ4 := Lib.hid hJ0
            have hr0 := Lib.hid (show wb.ownsRow w.heap.size 43 11 (.slice ad0 m cap0) m (flat X') by have := hJ0.r0; rw [hm] at this; exact this)
            have hbdc : w.heap.size + 1 + 1 + 1 < wb.heap.size := hJ0.lts.1
            have hneD : (Value.slice ad0 m cap0).ownBlock ≠ some (w.heap.size + 1 + 1 + 1) := fun e => (hJ4.out.own_ne.1 _ e).1 rfl
            have hm' := Lib.hid hm
            clear hJ0 hr3 hm hI' hBw' hxw' hBa hidx
            go_region_law ((refine step_append_lies _ (by rfl) _ _ _ (by rfl) w.heap.size 43 i43 _ 11 152 Try.underlying22 hi43 hz43 hs43 hb43 rfl (by omega) (.slice ad0 m cap0) m (flat X') (by rfl) ((hr0.out.alloc _).drew) ⟨wb.heap.size, 0, none⟩ 1 1 (Pl.cells ⟨r, .slice ta tn tc, .slice pa pn pc, .slice oa on oc, .slice ra rn rc⟩) (by rfl) (by rfl) (World.news_of_block (cs := (Pl.cells ⟨r, .slice ta tn tc, .slice pa pn pc, .slice oa on oc, .slice ra rn rc⟩).toArray) (t := 43) (fr := (0, 0)) (heap_alloc_new wb _)) (Pl.at.one hy4.out.1) (by omega) (by unfold maxLen; omega) (by omega) (by simp; omega) (wb.heap.size + 1) (by simp) ?_; intro gg cap2 w5 hown5 hgrow5 hat5 hlt5; have hd5 := dcells_after hJ4.out.dcells hgrow5 ⟨rfl, rfl, rfl, by simp, fun g hg _ => heap_alloc_old _ _ hg⟩ hneD; obtain ⟨hc5, hf5⟩ := cell_of_d (o := 0) hd5 rfl; clear hd5))
            all_goals
              (go_wp2_with fail
               have hwo : Only (fun _ => False) wb (wb.alloc (.cells (Pl.cells ⟨r, .slice ta tn tc, .slice pa pn pc, .slice oa on oc, .slice ra rn rc⟩).toArray 43)).drew := ⟨rfl, rfl, rfl, by simp, fun g hg _ => heap_alloc_old _ _ hg⟩
               have hN := Lib.hid (hJ4.out.rules hy4.out (fun g e => e.elim) (by simp) hwo (by rw [hm'.out]; exact hown5) hgrow5 hat5)
               have hK := Lib.hid (show ∀ y ∈ B, _ from fun y hy => hJ4.out.rules_keep (hB4.out y hy) hy4.out (fun g e => e.elim) (by simp) hwo (by rw [hm'.out]; exact hown5) hgrow5 hat5)
               rw [hm'.out] at hN hK
               clear hwo
               exact ⟨⟨q + 1, by omega, by go_num, _, _, hN.out, by rw [List.map_append, hXr'.out, hbx'.out]; simp, fun y hy => ⟨(hK.out y hy).1, (hB4.out y hy).2.1, (hK.out y hy).2⟩⟩, by simp [intOf]; omega⟩)
          · go_wp2_with (refine wpList_index rfl 61 (.tmp 64) (.tmp 65) rfl (.agg (flat B).toArray) (.int .i64 q) _ rfl rfl hidx ?_)
            have hBa : Below wr.heap.size wr (wr.alloc (.cells (Pl.cells ⟨r, .slice ta tn tc, .slice pa pn pc, .slice oa on oc, .slice ra rn rc⟩).toArray 43)) := below_al (Below.refl _ _)
            exact ⟨⟨q + 1, by omega, by go_num, _, _, hI'.out.only (Only.of_below hBa), by simpa using hXr'.out, fun y hy => ⟨RuAt.below (hBw'.out y hy).1 hBa, (hBw'.out y hy).2⟩⟩, by simp [intOf]; omega⟩
        · obtain rfl : q = 4 := by omega
          have hXr2 : X'.map Pl.r = newRules plain (xs.map Pl.r) := by
            rw [hXr, newRules, hL, turnAll]
            cases plain <;> simp [builtinRs]
          generalize hRS : newRules plain (xs.map Pl.r) = RS at hXr2
          obtain ⟨m, hm⟩ : ∃ m, X'.length = m := ⟨_, rfl⟩
          have hmR : RS.length = m := by rw [← hXr2, List.length_map, hm]
          have hmk : k ≤ m ∧ m ≤ k + 4 := by
            have h1 := congrArg List.length hXr
            have h3 : (builtinRs.take 4).length = 4 := rfl
            rw [List.length_map, List.length_append, turnAll, List.length_map, List.length_map, ← hn.out, hm] at h1
            cases plain
            · simp only [Bool.false_eq_true, if_false] at h1; omega
            · simp at h1; omega
          obtain ⟨ad0, cap0, rfl⟩ : ∃ ad cap, v0 = .slice ad m cap := by
            rcases hI.r0.2 with ⟨rfl, h0⟩ | ⟨g, cap, cur, rfl, -⟩
            · exact ⟨none, 0, by rw [← hm, h0]⟩
            · exact ⟨_, _, by rw [hm]⟩
          have hRSh := Lib.hid hRS
          have hXR := Lib.hid hXr2
          have hmh := Lib.hid hm
          have hmRh := Lib.hid hmR
          obtain ⟨hd0, hfd0⟩ := cell_of_d (o := 0) hI.dcells rfl
          have hIh := Lib.hid hI
          have hIw := Lib.hid hIb'.out.below
          clear hBw hXr hXr2 hm hmR hRS hI hBa hBr hXh
          go_wp2_with fail
          have hlts := hIh.out.lts
          have hD0 : DbInv wr (w.heap.size + 1 + 1 + 1) (w.heap.size + 1) (w.heap.size + 1 + 1) k 0 0 (.slice ad0 m cap0) v1 (.slice none 0 0) (implR RS k 0) (namedR (RS.take 0)) wr :=
            { only := Only.refl _ _
              dcells := hIh.out.dcells
              r4 := World.ownsRow_nil _ _ _ _
              grp := ⟨0, .map [], Nat.le_refl _, ownsGroups_empty hIh.out.me hlts.2.1⟩
              shun := shuns_empty hIh.out.me
              nam := ⟨0, .map [], Nat.le_refl _, ⟨#[], 0, hIh.out.mn, ⟨by simp, Go.MapKept.stamped_empty 0, by simp⟩, Nat.le_refl _, rfl⟩, namedAs_none⟩
              far := ⟨hlts.1, hlts.2.1, hlts.2.2.1, by omega, by omega, by omega⟩ }
          have hD0' := Lib.hid hD0
          clear hD0
          generalize hwS : wr = wS at hIh hD0' hlts ⊢
          clear hwS
          go_loopw [86] (fun iv wr => ∃ q : Nat, q ≤ m ∧ iv = .int .i64 q ∧ ∃ v4, DbInv wS (w.heap.size + 1 + 1 + 1) (w.heap.size + 1) (w.heap.size + 1 + 1) k (q * 1000000) (q * 3000000) (.slice ad0 m cap0) v1 v4 (implR RS k q) (namedR (RS.take q)) wr) (fun iv _ => m - (intOf iv).toNat)
          case atStart => exact ⟨0, Nat.zero_le _, rfl, _, by simpa using hD0'.out⟩
          case round =>
            obtain ⟨q, hq, rfl, v4, hD⟩ := hrel
            by_cases hqm : q < m
            · obtain ⟨x, hx⟩ : ∃ x, X'[q]? = some x := ⟨_, List.getElem?_eq_getElem (by have := hmh.out; omega)⟩
              have hrq : RS[q]? = some x.r := by rw [← hXR.out]; simp [hx]
              have hxm := List.mem_of_getElem? hx
              have hru := (hIh.out.rules3 hD.only).1
              obtain ⟨a', n', c', e, -, hc4, hm4, hrow4, -⟩ := hru.1
              injection e with e1 e2 e3
              subst e1 e2 e3
              obtain ⟨b, off, rfl, hb, hcells⟩ := hrow4 (by omega)
              obtain ⟨f0, f1, f2, f3, f4, f5, f6, f7, f8, f9, f10⟩ := range11 (hcells q x hx)
              have hxa0 := hru.2 x hxm
              have hin : (newRules plain (xs.map Pl.r)) = RS := hRSh.out
              have hxo := Lib.hid (hIh.out.off3 (Or.inl hxm))
              have hxS := Lib.hid (hIh.out.all x (Or.inl hxm)).1
              have z1 : (0 : Int) ≤ (q : Int) := by omega
              have z2 : (q : Int) < (m : Int) := by omega
              have hmore := Lib.hid (namedR_more hrq)
              have himp : implR RS k (q + 1) = implR RS k q ++ (if x.r.pattern && countsR RS k q x.r then [(q : Int)] else []) := by rw [implR, hrq]
              have himp' := Lib.hid himp
              have hsm := Lib.hid (show x.r.pattern = false → RuSmall x.r ∧ (∀ s ∈ x.r.targets, s.size ≤ big) ∧ (∀ s ∈ x.r.prereqs, s.size ≤ big) ∧ (∀ s ∈ x.r.orders, s.size ≤ big) from fun hp => by
                have hmem : x.r ∈ newRules plain (xs.map Pl.r) := by rw [hin]; exact List.mem_of_getElem? hrq
                have h := newRules_plain hmem hp
                exact ⟨hbs.out.small _ h, hbs.out.ts _ h, hbs.out.ps _ h, hbs.out.os _ h⟩)
              have hx' := Lib.hid hx
              clear hcells hrow4 hrq hxm himp hin hx
              obtain ⟨r, t, p, o, rc0⟩ := x
              dsimp only at f0 f1 f2 f3 f4 f5 f6 f7 f8 f9 f10 hmore himp' hsm hxo hxS
              obtain ⟨⟨ta, tn, tc, rfl⟩, ⟨pa, pn, pc, rfl⟩, ⟨oa, on, oc, rfl⟩, ⟨ra, rn, rc, rfl⟩⟩ := RuAt.slices hxa0
              have hBa : Below wr.heap.size wr (wr.alloc (.cells (Pl.cells ⟨r, .slice ta tn tc, .slice pa pn pc, .slice oa on oc, .slice ra rn rc⟩).toArray 43)) := below_al (Below.refl _ _)
              have hD4 := hD.below hBa
              have hru4 := hru.below hBa
              have hxa4 : Pl.at ⟨r, .slice ta tn tc, .slice pa pn pc, .slice oa on oc, .slice ra rn rc⟩ (wr.alloc (.cells (Pl.cells ⟨r, .slice ta tn tc, .slice pa pn pc, .slice oa on oc, .slice ra rn rc⟩).toArray 43)) := RuAt.below hxa0 hBa
              have hD4' := Lib.hid hD4
              have hru4' := Lib.hid hru4
              have hxa4' := Lib.hid hxa4
              have hSle := Lib.hid hD4.only.size
              clear hxa0 hru hD
              obtain ⟨RT, RP, RO, b1, pat, b3, s1, RR, b4, s2, b5⟩ := r
              cases pat
              · go_wp2_with fail
                obtain ⟨n1', D1, hn1, hE1⟩ := hD4'.out.grp
                obtain ⟨n2', D2, hn2, hN2, hS2⟩ := hD4'.out.nam
                obtain ⟨w1s, w2s, w3s, w4s, w5s, w6s⟩ := hD4'.out.far
                have hkeep : ∀ {v : Value} {l : List ByteArray}, StrsAt wS v l → offV (Own3 (w.heap.size + 1 + 1 + 1) (w.heap.size + 1) (w.heap.size + 1 + 1)) v → ∀ w', Keeps (w.heap.size + 1) (w.heap.size + 1 + 1) wS.heap.size (fun g => v4.ownBlock = some g) (wr.alloc (.cells (Pl.cells ⟨⟨RT, RP, RO, b1, false, b3, s1, RR, b4, s2, b5⟩, .slice ta tn tc, .slice pa pn pc, .slice oa on oc, .slice ra rn rc⟩).toArray 43)) w' → StrsAt w' v l := fun hs ho w' hK => hs.only ho (hD4'.out.keeps_only hK)
                refine (names_calls (w.heap.size + 1 + 1 + 1) (w.heap.size + 1) (w.heap.size + 1 + 1) wS.heap.size n1' n2' q ⟨RT, RP, RO, b1, false, b3, s1, RR, b4, s2, b5⟩ _ _ _ _ D1 D2 (namedR (RS.take q)) (fun g => v4.ownBlock = some g) (wr.alloc (.cells (Pl.cells ⟨⟨RT, RP, RO, b1, false, b3, s1, RR, b4, s2, b5⟩, .slice ta tn tc, .slice pa pn pc, .slice oa on oc, .slice ra rn rc⟩).toArray 43)) hSle.out ⟨w1s, w4s, w5s⟩ w6s w3s
                  (cell_of_d (o := 3) hD4'.out.dcells rfl).1 (cell_of_d (o := 5) hD4'.out.dcells rfl).1 (fun g e => (hD4'.out.own4 g e).2) hE1 hD4'.out.shun hN2 hS2 (hkeep hxS.out.1 hxo.out.1) (hkeep hxS.out.2.1 hxo.out.2.1) (hkeep hxS.out.2.2.1 hxo.out.2.2.1) hxa4'.out.2.2.2 (hsm.out (by trivial)).1 (hsm.out (by trivial)).2 (by omega) (by omega) (by omega)).mono ?_
                rintro e w5 ⟨rfl, hK5, ⟨n3', D3, hn3, hE3⟩, hS3, ⟨n4', D4, hn4, hN4, hS4⟩⟩
                have hD5 := Lib.hid (hD4'.out.names (nE2 := (q + 1) * 1000000) (nN2 := (q + 1) * 3000000) (S' := namedR (RS.take (q + 1))) hK5 ⟨n3', D3, by omega, hE3⟩ hS3 ⟨n4', D4, by omega, hN4, hS4.congr (fun n => by rw [hmore.out]; rfl)⟩)
                clear hkeep hK5 hE3 hS3 hN4 hS4 hE1 hN2 hS2
                go_wp2
                exact ⟨⟨_, _, _, _, _, _, _, _, _, _, _, _, _, _, _, _, _, _, _, _, _, _, _, _, _, _, _, ⟨q + 1, by omega, by go_num, v4, by rw [himp'.out]; simpa using hD5.out⟩, rfl⟩, by simp [intOf]; omega⟩
              · go_wp2_with fail
                refine (counts_calls (w.heap.size + 1 + 1 + 1) k q _ X' ⟨⟨RT, RP, RO, b1, true, b3, s1, RR, b4, s2, b5⟩, .slice ta tn tc, .slice pa pn pc, .slice oa on oc, .slice ra rn rc⟩ (wr.alloc (.cells (Pl.cells ⟨⟨RT, RP, RO, b1, true, b3, s1, RR, b4, s2, b5⟩, .slice ta tn tc, .slice pa pn pc, .slice oa on oc, .slice ra rn rc⟩).toArray 43)) (cell_of_d (o := 0) hD4'.out.dcells rfl).1 (cell_of_d (o := 2) hD4'.out.dcells rfl).1 (heap_lt hD4'.out.dcells) hru4'.out hx'.out (by have := hmh.out; omega)).mono ?_
                rintro e w5 ⟨rfl, hB5⟩
                have hD5 := hD4'.out.below hB5
                dsimp only
                rw [hXR.out]
                cases hcb : countsR RS k q ⟨RT, RP, RO, b1, true, b3, s1, RR, b4, s2, b5⟩
                · have hD6 := Lib.hid (hD5.mono (nE' := (q + 1) * 1000000) (nN' := (q + 1) * 3000000) (S' := namedR (RS.take (q + 1))) (by omega) (by omega) (fun n => by rw [hmore.out]; rfl))
                  have hcb' := Lib.hid hcb
                  clear hD5 hcb hB5
                  go_wp2
                  exact ⟨⟨_, _, _, _, _, _, _, _, _, _, _, _, _, _, _, _, _, _, _, _, _, _, _, _, _, _, _, ⟨q + 1, by omega, by go_num, v4, by rw [himp'.out, hcb'.out]; simpa using hD6.out⟩, rfl⟩, by simp [intOf]; omega⟩
                · have hcb' := Lib.hid hcb
                  have hD5' := Lib.hid hD5
                  obtain ⟨l4, hl4⟩ : ∃ l, (implR RS k q).length = l := ⟨_, rfl⟩
                  have hl9 : l4 ≤ q := by rw [← hl4]; exact implR_len _ _ _
                  obtain ⟨ad4, cap4, rfl⟩ : ∃ ad cap, v4 = .slice ad l4 cap := by
                    rcases hD5.r4.2 with ⟨rfl, h0⟩ | ⟨g, cap, cur, rfl, -⟩
                    · exact ⟨none, 0, by rw [← hl4, h0]⟩
                    · exact ⟨_, _, by rw [hl4]⟩
                  obtain ⟨hd4, hfd4⟩ := cell_of_d (o := 4) hD5.dcells rfl
                  have hr4 := Lib.hid (show w5.ownsRow wS.heap.size 3 1 (.slice ad4 l4 cap4) l4 ((implR RS k q).map (Value.int .i64)) by have := hD5.r4; rw [hl4] at this; exact this)
                  have hneD : (Value.slice ad4 l4 cap4).ownBlock ≠ some (w.heap.size + 1 + 1 + 1) := fun e => by have := (hD5'.out.own4 _ e).1; have := hD5'.out.far.1; omega
                  have hSle5 : wS.heap.size ≤ w5.heap.size := hD5.only.size
                  have hl4' := Lib.hid hl4
                  clear hD5 hcb hB5 hl4
                  go_wp2_with (at_builtin; refine wpList_append_lies _ rfl (.tmp 100) (.tmp 102) 45 rfl wS.heap.size 3 i3 _ 1 8 Try.underlying45 hi3 hz3 hs3 hb3 rfl (by omega) (.slice ad4 l4 cap4) l4 ((implR RS k q).map (Value.int .i64)) rfl (hr4.out.alloc _) ⟨w5.heap.size, 0, none⟩ 1 1 [.int .i64 q] rfl rfl (World.news_of_block (cs := #[.int .i64 q]) (t := 3) (fr := (0, 0)) (heap_alloc_new w5 _)) (by simp [Value.oneCell']) (by omega) (by unfold maxLen; omega) (by omega) (by simp; omega) (w5.heap.size + 1) (by simp) ?_; intro gg cap2 w6 hown6 hgrow6 hat6 hlt6; have hd6 := dcells_after hD5'.out.dcells hgrow6 ⟨rfl, rfl, rfl, by simp, fun g hg _ => heap_alloc_old _ _ hg⟩ hneD; obtain ⟨hc6, hf6⟩ := cell_of_d (o := 4) hd6 rfl; clear hd6)
                  have hwo : Only (fun _ => False) w5 (w5.alloc (.cells #[.int .i64 q] 3)) := ⟨rfl, rfl, rfl, by simp, fun g hg _ => heap_alloc_old _ _ hg⟩
                  have hD6 := (hD5'.out.implicit (by simp) hwo (by rw [hl4'.out]; exact hown6) hgrow6 hat6).mono (nE' := (q + 1) * 1000000) (nN' := (q + 1) * 3000000) (S' := namedR (RS.take (q + 1))) (by omega) (by omega) (fun n => by rw [hmore.out]; rfl)
                  rw [hl4'.out] at hD6
                  exact ⟨⟨_, _, _, _, _, _, _, _, _, _, _, _, _, _, _, _, _, _, _, _, _, _, _, _, _, _, _, ⟨q + 1, by omega, by go_num, _, by rw [himp'.out, hcb'.out]; simpa using hD6⟩, rfl⟩, by simp [intOf]; omega⟩
            · obtain rfl : q = m := by omega
              have hall : RS.take q = RS := List.take_of_length_le (by rw [hmRh.out]; exact Nat.le_refl _)
              rw [hall] at hD
              have hD' := Lib.hid hD
              clear hD hall
              go_wp2
              go_ret
              obtain ⟨r0, r1⟩ := hIh.out.rules3 hD'.out.only
              obtain ⟨n', D', hn', hN, hS⟩ := hD'.out.nam
              refine ⟨_, rfl, hD'.out.only.below hIh.out.below hlts.2.2.2 (fun g k => by rcases k with k | k | k <;> omega), ⟨.slice ad0 q cap0, v1, v4, w.heap.size + 1, w.heap.size + 1 + 1, X', Y, ?_, ⟨r0, ?_⟩, ⟨r1, ?_⟩, ⟨newAt_own hIh.out.r0, newAt_own hIh.out.r1, (newAt_own hD'.out.r4).mono hlts.2.2.2, by omega, by omega⟩, fun x hx => (hIh.out.all x hx).2.1, ?_, n', D', hN, ?_⟩⟩
              · rw [← hn.out]; exact hD'.out.dcells
              · rw [hRSh.out]; exact hXR.out
              · exact hYh.out
              · rw [hRSh.out, ← hn.out, hmRh.out]; exact intsAt_own hD'.out.r4
              · rw [hRSh.out]; exact hS
end Go.Proofs.Ytfnmncghgmnaaab
