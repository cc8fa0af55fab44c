/-
  Find. Conditions: texts of at most 2^31 bytes; MaxLen's cell holds a number; no place is a member's name.
-/
import Derived.Test.YtnnepcodghfcmaaGreatDoorSPlaces
import Derived.Test.YtnnepcodghfcmaaGreatDoorSTime
namespace Go.Proofs.YtnnepcodghfcmaaGreatDoor
open Go.RowKit Go.Shelf

attribute [local go_sem] Oper.semAt_some

theorem keepsO_below {W W' : World} (h : Below W.heap.size W W') : KeepsOthers W W' := ⟨h.size, fun k _ hk _ => (h.block k (Array.getElem?_eq_some_iff.1 hk).1).trans hk⟩
/-- Is a place there? -/
def thereB (st : St) (x : ByteArray) : Bool := decide ((statP st (clean x.data.toList)).1 ≠ 0)
/-- The first place that is there, else the name itself. -/
def findL (st : St) (l : List ByteArray) (s : ByteArray) : ByteArray × Bool :=
  match l.find? (thereB st) with
  | some x => (x, true)
  | none => (s, false)
theorem findL_none {st : St} {l : List ByteArray} {s : ByteArray} (h : ∀ x ∈ l, thereB st x = false) : findL st l s = (s, false) := by
  unfold findL
  rw [List.find?_eq_none.2 (fun x hx => by rw [h x hx]; simp)]
theorem findL_some {st : St} {l pre : List ByteArray} {x s : ByteArray} (hp : pre ++ [x] <+: l) (h : ∀ y ∈ pre, thereB st y = false) (hx : thereB st x = true) : findL st l s = (x, true) := by
  obtain ⟨r, rfl⟩ := hp
  unfold findL
  rw [List.append_assoc, List.find?_append, List.find?_eq_none.2 (fun y hy => by rw [h y hy]; simp)]
  simp [hx]
theorem places_calls (b0 b1 pv b3 b4 b5 b6 : Value) (dirs s : ByteArray) (w : World) : Calls Tryz.prog 18 #[.agg #[b0, b1, pv, b3, b4, b5, b6], .string dirs, .string s] w fun e w' =>
    e = .returned (.func (.func 26) #[] #[.pointer (some ⟨w.heap.size + 1 + 1, 0, none⟩), .pointer (some ⟨w.heap.size, 0, none⟩), .pointer (some ⟨w.heap.size + 1, 0, none⟩)]) ∧ w' = ((w.alloc (.cells #[b0, b1, pv, b3, b4, b5, b6] 38)).alloc (.cells #[.string dirs] 9)).alloc (.cells #[.string s] 9) := by
  go_enter Tryz.func18, Tryz.ntmps18
  go_wp2
  go_ret
  exact ⟨rfl, rfl⟩
theorem boxed_ne {B b : Nat} {W : World} {t : TypeId} {v : Value} {row : Option Nat} (h : Go.Boxed W b t v) (hr : ∀ r, row = some r → B ≤ r ∧ ∃ o : Obj, W.heap[r]? = some o ∧ o.isCells = false) : some b ≠ row := fun e => by
  obtain ⟨_, o, ho, hc⟩ := hr b e.symm
  rw [show W.heap[b]? = _ from h] at ho
  cases ho
  cases hc
def w7 (w : World) (o0 o1 o2 o3 o4 o5 o6 : Obj) : World := ((((((w.alloc o0).alloc o1).alloc o2).alloc o3).alloc o4).alloc o5).alloc o6
theorem w7_facts (w : World) (o0 o1 o2 o3 o4 o5 o6 : Obj) : (w7 w o0 o1 o2 o3 o4 o5 o6).heap.size = w.heap.size + 7 ∧ Below w.heap.size w (w7 w o0 o1 o2 o3 o4 o5 o6) ∧ (w7 w o0 o1 o2 o3 o4 o5 o6).heap[w.heap.size + 1]? = some o1 ∧ (w7 w o0 o1 o2 o3 o4 o5 o6).heap[w.heap.size + 1 + 1]? = some o2 ∧ (w7 w o0 o1 o2 o3 o4 o5 o6).heap[w.heap.size + 1 + 1 + 1]? = some o3 ∧
    (w7 w o0 o1 o2 o3 o4 o5 o6).heap[w.heap.size + 1 + 1 + 1 + 1]? = some o4 ∧ (w7 w o0 o1 o2 o3 o4 o5 o6).heap[w.heap.size + 1 + 1 + 1 + 1 + 1]? = some o5 ∧ (w7 w o0 o1 o2 o3 o4 o5 o6).heap[w.heap.size + 1 + 1 + 1 + 1 + 1 + 1]? = some o6 := by
  refine ⟨by simp [w7], below_al (below_al (below_al (below_al (below_al (below_al (below_al (Below.refl _ _))))))), ?_, ?_, ?_, ?_, ?_, ?_⟩
  · exact (Below.heap_alloc _ _ _ (by simp)).trans ((Below.heap_alloc _ _ _ (by simp)).trans ((Below.heap_alloc _ _ _ (by simp)).trans ((Below.heap_alloc _ _ _ (by simp)).trans ((Below.heap_alloc _ _ _ (by simp)).trans ((show (w.alloc o0).heap.size = w.heap.size + 1 from by simp) ▸ World.alloc_heap_new (w.alloc o0) o1)))))
  · exact (Below.heap_alloc _ _ _ (by simp)).trans ((Below.heap_alloc _ _ _ (by simp)).trans ((Below.heap_alloc _ _ _ (by simp)).trans ((Below.heap_alloc _ _ _ (by simp)).trans ((show ((w.alloc o0).alloc o1).heap.size = w.heap.size + 1 + 1 from by simp) ▸ World.alloc_heap_new ((w.alloc o0).alloc o1) o2))))
  · exact (Below.heap_alloc _ _ _ (by simp)).trans ((Below.heap_alloc _ _ _ (by simp)).trans ((Below.heap_alloc _ _ _ (by simp)).trans ((show (((w.alloc o0).alloc o1).alloc o2).heap.size = w.heap.size + 1 + 1 + 1 from by simp) ▸ World.alloc_heap_new (((w.alloc o0).alloc o1).alloc o2) o3)))
  · exact (Below.heap_alloc _ _ _ (by simp)).trans ((Below.heap_alloc _ _ _ (by simp)).trans ((show ((((w.alloc o0).alloc o1).alloc o2).alloc o3).heap.size = w.heap.size + 1 + 1 + 1 + 1 from by simp) ▸ World.alloc_heap_new ((((w.alloc o0).alloc o1).alloc o2).alloc o3) o4))
  · exact (Below.heap_alloc _ _ _ (by simp)).trans ((show (((((w.alloc o0).alloc o1).alloc o2).alloc o3).alloc o4).heap.size = w.heap.size + 1 + 1 + 1 + 1 + 1 from by simp) ▸ World.alloc_heap_new (((((w.alloc o0).alloc o1).alloc o2).alloc o3).alloc o4) o5)
  · exact (show ((((((w.alloc o0).alloc o1).alloc o2).alloc o3).alloc o4).alloc o5).heap.size = w.heap.size + 1 + 1 + 1 + 1 + 1 + 1 from by simp) ▸ World.alloc_heap_new ((((((w.alloc o0).alloc o1).alloc o2).alloc o3).alloc o4).alloc o5) o6
section
variable {f mb : Nat} {N : Bs → Nat} {S : Nat → Prop} {st : St} {clock room : Int} {w : World}
set_option maxRecDepth 100000 in
set_option maxHeartbeats 8000000 in
theorem find_calls (h : FsIn w f mb N S st clock room) (b0 b1 pv b3 b4 b5 b6 : Value) (s dirs : ByteArray) (pl : List (ByteArray × ByteArray)) (mx : Int) (hs : s.size ≤ 2147483647) (hd : dirs.size ≤ 2147483647) (hc1 : dirs.size + Lib.countB dirs ⟨#[58]⟩ * 1 ≤ 140737488355328) (hc2 : (coloned dirs).size ≤ 2147483647)
    (hpl : ∀ x ∈ pl, x.1.size ≤ 2147483647 ∧ x.2.size ≤ 2147483647) (hpn : pl.length ≤ 1099511627776) (hpv : PairsAt w pv pl) (hmx : w.cell? ⟨1, 0, none⟩ = some (.int .i64 mx)) (hP : ∀ x ∈ placesP pl dirs s, x.size ≤ 2147483647 ∧ splitOf x = none) :
    Calls Tryz.prog 8 #[.agg #[b0, b1, pv, b3, b4, b5, b6], .string dirs, .pointer (some ⟨f, 0, none⟩), .string s] w fun e w' => e = .returned (.tuple #[.string (findL st (placesP pl dirs s) s).1, .bool (findL st (placesP pl dirs s) s).2]) ∧ Below w.heap.size w w' := by
  refine (callsIn_wide (n := 9)).1 ?_
  refine callsIn_of_wp_marks Tryz.func8 rfl trivial ?_ rfl
  simp only [Tryz.ntmps8, List.size_toArray, List.length_cons, List.length_nil, Nat.reduceAdd, Nat.reduceSub, Array.replicate_succ, Array.replicate_zero, List.push_toArray, List.append_toArray, List.nil_append, List.cons_append]
  gi_wp2_with (refine ⟨trivial, ?_⟩; gi_at_call 18; refine (callsIn_wide.2 (places_calls b0 b1 pv b3 b4 b5 b6 dirs s _)).mono ?_; rintro e w' ⟨rfl, rfl⟩)
  change Code.wpIn Fence.wide 9 _ _ _ _ (w7 w (.cells #[b0, b1, pv, b3, b4, b5, b6] 38) (.cells #[.pointer (some ⟨f, 0, none⟩)] 23) (.cells #[.string ⟨#[]⟩] 9) (.cells #[.bool false] 4) (.cells #[b0, b1, pv, b3, b4, b5, b6] 38) (.cells #[.string dirs] 9) (.cells #[.string s] 9))
  obtain ⟨hz, hB0, bF, bR, bO, bB, bD, bN⟩ := w7_facts w (.cells #[b0, b1, pv, b3, b4, b5, b6] 38) (.cells #[.pointer (some ⟨f, 0, none⟩)] 23) (.cells #[.string ⟨#[]⟩] 9) (.cells #[.bool false] 4) (.cells #[b0, b1, pv, b3, b4, b5, b6] 38) (.cells #[.string dirs] 9) (.cells #[.string s] 9)
  generalize w7 w (.cells #[b0, b1, pv, b3, b4, b5, b6] 38) (.cells #[.pointer (some ⟨f, 0, none⟩)] 23) (.cells #[.string ⟨#[]⟩] 9) (.cells #[.bool false] 4) (.cells #[b0, b1, pv, b3, b4, b5, b6] 38) (.cells #[.string dirs] 9) (.cells #[.string s] 9) = W0 at *
  have hk0 : KeepsCells w W0 := keeps_below hB0
  have hC : PlaceC (w.heap.size + 1 + 1 + 1 + 1 + 1 + 1) (w.heap.size + 1 + 1 + 1 + 1) (w.heap.size + 1 + 1 + 1 + 1 + 1) s dirs pv pl mx W0 :=
    ⟨by unfold World.cell?; rw [bN]; rfl, by unfold World.cell?; rw [bB]; rfl, by unfold World.cell?; rw [bD]; rfl, hpv.keeps hk0, hk0 _ _ hmx⟩
  have bF' : Go.Boxed W0 (w.heap.size + 1) 23 (.pointer (some ⟨f, 0, none⟩)) := bF
  have bR' : Go.Boxed W0 (w.heap.size + 1 + 1) 9 (.string ⟨#[]⟩) := bR
  have bO' : Go.Boxed W0 (w.heap.size + 1 + 1 + 1) 4 (.bool false) := bO
  have kh := Lib.hid h
  refine wpIn_rangeFunc_ownG rfl (by omega) (gf := 26) (lb := #[.pointer (some ⟨w.heap.size + 1 + 1 + 1 + 1 + 1 + 1, 0, none⟩), .pointer (some ⟨w.heap.size + 1 + 1 + 1 + 1, 0, none⟩), .pointer (some ⟨w.heap.size + 1 + 1 + 1 + 1 + 1, 0, none⟩)]) rfl trivial (enters_of Tryz.func26 (by kernel_rfl) rfl)
    (places_stops (w.heap.size + 1 + 1 + 1 + 1 + 1 + 1) (w.heap.size + 1 + 1 + 1 + 1) (w.heap.size + 1 + 1 + 1 + 1 + 1) s dirs pv pl mx hs hd hc1 hc2 hpl hpn _ (by omega) W0 hC hP) KeepsCells.trans keeps_put (Below.refl _ _) (fun _ => rfl)
    (fun pre W => (Go.Boxed W (w.heap.size + 1) 23 (.pointer (some ⟨f, 0, none⟩)) ∧ Go.Boxed W (w.heap.size + 1 + 1) 9 (.string ⟨#[]⟩) ∧ Go.Boxed W (w.heap.size + 1 + 1 + 1) 4 (.bool false)) ∧ Below w.heap.size w W ∧ ∀ x ∈ pre.map Subtype.val, thereB st x = false)
    (fun c pre W => (c = .ret ∧ ∃ (q : List Pl) (x : Pl), pre = q ++ [x] ∧ (∀ y ∈ q.map Subtype.val, thereB st y = false) ∧ thereB st x.1 = true ∧ Go.Boxed W (w.heap.size + 1 + 1) 9 (.string x.1) ∧ Go.Boxed W (w.heap.size + 1 + 1 + 1) 4 (.bool true)) ∧ Below w.heap.size w W)
    ?hI ?hIx ⟨⟨bF', bR', bO'⟩, hB0, fun x hx => by cases hx⟩
    (fun x => { tmps := #[.agg #[b0, b1, pv, b3, b4, b5, b6], .string dirs, .pointer (some ⟨f, 0, none⟩), .string s, .pointer (some ⟨w.heap.size, 0, none⟩), undef, .pointer (some ⟨w.heap.size + 1, 0, none⟩), undef, .pointer (some ⟨w.heap.size + 1 + 1, 0, none⟩), .pointer (some ⟨w.heap.size + 1 + 1 + 1, 0, none⟩), .string x.1, undef, undef,
      .agg #[b0, b1, pv, b3, b4, b5, b6], .string dirs, .string s, .func (.func 26) #[] #[.pointer (some ⟨w.heap.size + 1 + 1 + 1 + 1 + 1 + 1, 0, none⟩), .pointer (some ⟨w.heap.size + 1 + 1 + 1 + 1, 0, none⟩), .pointer (some ⟨w.heap.size + 1 + 1 + 1 + 1 + 1, 0, none⟩)], .string x.1, undef, undef, undef, undef, undef, undef, undef, undef, undef], defers := [] }) ?assign ?body ?done ?stop
  case hI =>
    rintro pre W W' row ⟨⟨hF, hR, hO⟩, hB, hp⟩ hg hr
    exact ⟨⟨hF.kept hg (boxed_ne hF hr), hR.kept hg (boxed_ne hR hr), hO.kept hg (boxed_ne hO hr)⟩, hB.grown hg hB.size (fun k e => by have := (hr k e).1; omega), hp⟩
  case hIx =>
    rintro c pre W W' row ⟨⟨hc, q, x, h1, h2, h3, hR, hO⟩, hB⟩ hg hr
    exact ⟨⟨hc, q, x, h1, h2, h3, hR.kept hg (boxed_ne hR hr), hO.kept hg (boxed_ne hO hr)⟩, hB.grown hg hB.size (fun k e => by have := (hr k e).1; omega)⟩
  case assign =>
    intro l x W K hK
    gi_wp2
    exact hK
  case body =>
    rintro l pre ⟨x, hx1, hx2⟩ W ⟨⟨hF, hR, hO⟩, hB, hpre⟩ hlt
    have hT := Lib.hid (time_calls (kh.out.below hB) hx1 rfl hx2)
    have hTb := Lib.hid (show thereB st x = decide ((statP st (clean x.data.toList)).1 ≠ 0) from rfl)
    rw [← hTb.out] at hT
    have c1 := hF.cell
    have c2 := hR.cell
    have c3 := hO.cell
    have f2 := hR.frozen
    have f3 := hO.frozen
    cases hth : thereB st x with
    | false =>
      rw [hth] at hT
      gi_wp2_with (refine ⟨trivial, ?_⟩; gi_at_call 19; refine (CallsIn.inRound l (callsIn_wide.2 hT.out)).mono ?_; rintro e w' ⟨tm, rfl, hb⟩; have kb := Lib.hid hb; clear hb)
      refine ⟨(keepsO_below kb.out).from _, keeps_below kb.out, ⟨hF.kept (below_grow kb.out) (by simp), hR.kept (below_grow kb.out) (by simp), hO.kept (below_grow kb.out) (by simp)⟩, hB.trans (kb.out.mono hB.size), fun y hy => ?_⟩
      rw [List.map_append] at hy
      rcases List.mem_append.1 hy with hy | hy
      · exact hpre y hy
      · simp at hy; subst hy; exact hth
    | true =>
      rw [hth] at hT
      gi_wp2_with (refine ⟨trivial, ?_⟩; gi_at_call 19; refine (CallsIn.inRound l (callsIn_wide.2 hT.out)).mono ?_; rintro e w' ⟨tm, rfl, hb⟩; have kb := Lib.hid hb; clear hb; have hR' := hR.kept (below_grow kb.out) (by simp); have hO' := hO.kept (below_grow kb.out) (by simp); have c2' := hR'.cell; have c3' := hO'.cell; have f2' := hR'.frozen; have f3' := hO'.frozen)
      refine ⟨((keepsO_below kb.out).trans ((KeepsOthers.setCell _ _ _).trans (KeepsOthers.setCell _ _ _))).from _, ⟨rfl, pre, ⟨x, hx1, hx2⟩, rfl, hpre, hth, ?_, ?_⟩, ((hB.trans (kb.out.mono hB.size)).setCell (p := ⟨w.heap.size + 1 + 1, 0, none⟩) (show w.heap.size ≤ w.heap.size + 1 + 1 by omega) _).setCell (p := ⟨w.heap.size + 1 + 1 + 1, 0, none⟩) (show w.heap.size ≤ w.heap.size + 1 + 1 + 1 by omega) _⟩
      · exact (hR'.set (.string x)).kept (grownBy_setCell' _ _ _) (by simp)
      · exact (hO'.kept (grownBy_setCell' _ _ _) (by simp)).set (.bool true)
  case done =>
    rintro D ys W hD hys ⟨⟨hF, hR, hO⟩, hB, hpre⟩ hK
    have c2 := hR.cell
    have c3 := hO.cell
    have f2 := hR.frozen
    have f3 := hO.frozen
    have hv := Lib.hid (show findL st (placesP pl dirs s) s = (s, false) from findL_none (by rw [← hys]; exact hpre))
    gi_wp2
    have hK' := ((KeepsOthers.setCell W ⟨w.heap.size + 1 + 1, 0, none⟩ (.string s)).trans (KeepsOthers.setCell _ ⟨w.heap.size + 1 + 1 + 1, 0, none⟩ (.bool false))).same D _ hK rfl
    have hR2 : Go.Boxed ((W.setCell ⟨w.heap.size + 1 + 1, 0, none⟩ (.string s)).setCell ⟨w.heap.size + 1 + 1 + 1, 0, none⟩ (.bool false)) (w.heap.size + 1 + 1) 9 (.string s) := (hR.set (.string s)).kept (grownBy_setCell' _ _ _) (by simp)
    have hO2 : Go.Boxed ((W.setCell ⟨w.heap.size + 1 + 1, 0, none⟩ (.string s)).setCell ⟨w.heap.size + 1 + 1 + 1, 0, none⟩ (.bool false)) (w.heap.size + 1 + 1 + 1) 4 (.bool false) := (hO.kept (grownBy_setCell' _ _ _) (by simp)).set (.bool false)
    refine ⟨by simp, .inl ⟨_, _, rfl, run_takeDeferred hK', ?_⟩⟩
    have hc5 := cell_kept hR2.cell (grownBy_putObj' _ D (.deferred none)) (fun r e => by cases e; exact ⟨_, hK', rfl⟩)
    have hc6 := cell_kept hO2.cell (grownBy_putObj' _ D (.deferred none)) (fun r e => by cases e; exact ⟨_, hK', rfl⟩)
    refine ⟨.tuple #[.string s, .bool false], ?_, by rw [hv.out], ((hB.setCell (p := ⟨w.heap.size + 1 + 1, 0, none⟩) (show w.heap.size ≤ w.heap.size + 1 + 1 by omega) _).setCell (p := ⟨w.heap.size + 1 + 1 + 1, 0, none⟩) (show w.heap.size ≤ w.heap.size + 1 + 1 + 1 by omega) _).trans (belowK_b (w := w) (Nat.le_refl _) _ D _ _ (by omega) hK' rfl rfl)⟩
    simp [results, Tryz.f8, go_sem, hc5, hc6]
  case stop =>
    rintro D c pre W hD hpre ⟨⟨rfl, q, x, rfl, hq, hx, hR, hO⟩, hB⟩ hK
    have hv := Lib.hid (show findL st (placesP pl dirs s) s = (x.1, true) from findL_some (pre := q.map Subtype.val) (by simpa using hpre) hq hx)
    gi_wp2
    refine ⟨by simp, .inl ⟨_, _, rfl, run_takeDeferred hK, ?_⟩⟩
    have hc5 := cell_kept hR.cell (grownBy_putObj' _ D (.deferred none)) (fun r e => by cases e; exact ⟨_, hK, rfl⟩)
    have hc6 := cell_kept hO.cell (grownBy_putObj' _ D (.deferred none)) (fun r e => by cases e; exact ⟨_, hK, rfl⟩)
    refine ⟨.tuple #[.string x.1, .bool true], ?_, by rw [hv.out], hB.trans (belowK_b (w := w) (Nat.le_refl _) W D _ _ (by omega) hK rfl rfl)⟩
    simp [results, Tryz.f8, go_sem, hc5, hc6]
end
end Go.Proofs.YtnnepcodghfcmaaGreatDoor
