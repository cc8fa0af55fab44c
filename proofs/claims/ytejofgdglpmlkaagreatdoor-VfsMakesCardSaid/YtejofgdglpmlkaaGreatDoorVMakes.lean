/-
  VfsMakes: it answers true for every tree. Conditions: paths and data of at most 2^47 bytes, at most 2^42 nodes.
-/
import Derived.Test.YtejofgdglpmlkaaGreatDoorVStays
import Derived.Test.YtejofgdglpmlkaaGreatDoorVRefM
import Derived.Test.YtejofgdglpmlkaaGreatDoorVNewB
import Derived.Test.YtejofgdglpmlkaaGreatDoorVSpoil
import Derived.Test.YtejofgdglpmlkaaGreatDoorVBig
import Derived.Test.YtejofgdglpmlkaaGreatDoorVTreeG
namespace Go.Proofs.YtejofgdglpmlkaaGreatDoor
open Go.RowKit

theorem SpoilAt.of_heap {w w' : World} {B hi n i : Nat} {nv : Value} (h : SpoilAt w B hi nv n i) (he : ∀ j, B ≤ j → j < hi → w'.heap[j]? = w.heap[j]?) : SpoilAt w' B hi nv n i := by
  obtain ⟨a, c, h1, h2⟩ := h
  refine ⟨a, c, h1, fun hn => ?_⟩
  obtain ⟨g, off, cur, g1, g2, g3, g4, g5, g6⟩ := h2 hn
  refine ⟨g, off, cur, g1, g2, g3, (he g g2 g3).trans g4, g5, fun j hj hjn => ?_⟩
  obtain ⟨dv, k1, k2⟩ := g6 j hj hjn
  exact ⟨dv, k1, k2.of_heap (fun j hj1 hj2 _ => he j hj1 hj2)⟩
theorem kept_below {w w1 w2 : World} {B hi : Nat} (hB : Below w.heap.size w w1) (h : Kept (fun j => B ≤ j ∧ j < hi) w1 w2) (hw : w.heap.size ≤ B) : Below w.heap.size w w2 :=
  hB.trans ⟨h.os, h.tape, h.output, h.size, fun j hj => h.block j (by have := hB.size; omega) (fun e => by omega)⟩
theorem totB_mem {l : St} {x : Bs × PN} (h : x ∈ l) : 1 + x.1.length + x.2.data.length ≤ totB l := by
  induction l with
  | nil => cases h
  | cons y r ih =>
    rw [totB]
    rcases List.mem_cons.1 h with rfl | h
    · omega
    · have := ih h; omega
theorem wt_small {l : St} (h : totB l ≤ 300000) (hl : l.length ≤ 1100) : wt l ≤ 1099511627775 := by
  have : ∀ l : St, bytesOf l ≤ totB l := by
    intro l
    induction l with
    | nil => simp [bytesOf, totB]
    | cons x r ih => unfold bytesOf at *; simp only [List.map_cons, List.sum_cons, totB]; omega
  have := this l
  unfold wt
  omega
/-- A lent tree in memory. -/
structure Full (B g c : Nat) (l : St) (L : List NV) (W : World) : Prop where make ::
  nd : L.map NV.nd = l
  own : NodesOwn W B (.slice (some ⟨g, 0, none⟩) l.length c) L
  spare : ∀ x ∈ L, Spare W B (.slice (some ⟨g, 0, none⟩) l.length c) x
  room : l.length < c
  tail : W.cell? ⟨g, l.length * 4 + 2, none⟩ = some (.int .i64 (-71))
theorem Full.on {B g c : Nat} {l : St} {L : List NV} {W W' : World} (h : Full B g c l L W) (hb : Below W.heap.size W W') : Full B g c l L W' :=
  ⟨h.nd, h.own.grown (row := none) ⟨hb.os, hb.tape, hb.output, hb.size, fun j hj _ => hb.block j hj⟩ (fun _ e => by cases e), fun x hx => (h.spare x hx).on (fun _ _ h2 h3 => ⟨hb.block _ h2, h3⟩) hb.size, h.room, (hb.cell (p := ⟨g, l.length * 4 + 2, none⟩) (node_g h.own).1).trans h.tail⟩
theorem Full.len {B g c : Nat} {l : St} {L : List NV} {W : World} (h : Full B g c l L W) : L.length = l.length := by have := congrArg List.length h.nd; rwa [List.length_map] at this
theorem Full.tree {B g c : Nat} {l : St} {L : List NV} {W : World} (h : Full B g c l L W) : TreeAt W (.slice (some ⟨g, 0, none⟩) l.length c) l (fun j => B ≤ j ∧ j < W.heap.size) := by
  have := h.own.tree
  rwa [h.nd] at this
theorem Full.spoil {B g c : Nat} {l : St} {L : List NV} {W : World} (h : Full B g c l L W) (hd : ∀ x ∈ l, x.2.data.length ≤ 1099511627776) : SpoilAt W B W.heap.size (.slice (some ⟨g, 0, none⟩) l.length c) l.length 0 := by
  have := h.own.spoil (fun x hx => hd x.nd (by rw [← h.nd]; exact List.mem_map_of_mem hx))
  rwa [h.len] at this
/-- A tree's box, somewhere. -/
def TBox (b : Nat) (v : Value) (clock room : Int) (W : World) : Prop := W.heap[b]? = some (.cells #[v, .int .i64 clock, .int .i64 room] 24 (0, 0))
theorem TBox.cell {b : Nat} {v : Value} {clock room : Int} {W : World} (h : TBox b v clock room W) : W.cell? ⟨b, 0, none⟩ = some v ∧ W.cell? ⟨b, 1, none⟩ = some (.int .i64 clock) ∧ W.cell? ⟨b, 2, none⟩ = some (.int .i64 room) := by
  obtain ⟨a, b, c, -⟩ := cells3 h
  exact ⟨a, b, c⟩
theorem TBox.on {b : Nat} {v : Value} {clock room : Int} {W W' : World} (h : TBox b v clock room W) (hb : Below W.heap.size W W') : TBox b v clock room W' := (hb.block b (heap_lt h)).trans h
theorem TBox.kept {b : Nat} {v : Value} {clock room : Int} {W W' : World} {S : Nat → Prop} (h : TBox b v clock room W) (hk : Kept S W W') (hS : ¬ S b) : TBox b v clock room W' := (hk.block b (heap_lt h) hS).trans h
theorem BoxT.kept {w W W' : World} {nv : Value} {clock room : Int} {B hi : Nat} (h : BoxT w W nv clock room) (hk : Kept (fun j => B ≤ j ∧ j < hi) W W') (hB : w.heap.size < B) : BoxT w W' nv clock room :=
  ⟨(hk.block _ (heap_lt h.1) (fun e => by omega)).trans h.1, kept_below h.2 hk (by omega)⟩
section
variable {l : St} {clock room : Int} {nv : Value} {T : Nat → Prop} {w : World}
set_option maxRecDepth 100000 in
set_option maxHeartbeats 8000000 in
theorem makes_calls (ht : TreeAt w nv l T) (hT : ∀ k, T k → k < w.heap.size) (hp : ∀ x ∈ l, x.1.length ≤ 140737488355328 ∧ x.2.data.length ≤ 140737488355328) (hl : l.length ≤ 4398046511104) :
    Calls Tryz.prog 3 #[.agg #[nv, .int .i64 clock, .int .i64 room]] w fun e w' => e = .returned (.bool true) ∧ Below w.heap.size w w' := by
  have kB1 := Lib.hid (show BoxT w (w.alloc (.cells #[nv, .int .i64 clock, .int .i64 room] 24 (0, 0))) nv clock room from ⟨heap_alloc_new _ _, below_al (Below.refl _ _)⟩)
  have hA := Lib.hid alive_calls
  have kat := Lib.hid (fun (W : World) (h : BoxT w W nv clock room) => ht.of_heap (w' := W) (T' := T) (fun j hj => h.2.block j (hT j hj)) (fun _ h => h))
  have kTl := Lib.hid (fun (W : World) (h : BoxT w W nv clock room) (j : Nat) (hj : T j) => Nat.lt_of_lt_of_le (hT j hj) h.2.size)
  have hBig := Lib.hid (fun (W : World) (h : BoxT w W nv clock room) => big_calls (clock := clock) (room := room) (kat.out W h) (kTl.out W h) hp hl)
  obtain ⟨ta, tc, hnv⟩ := ht.form
  subst hnv
  clear ht hT hp
  go_enter Tryz.func3, Tryz.ntmps3
  go_upto_region 3 with (first
    | (go_at_call 6; refine (hA.out _).mono ?_; rintro e w2 ⟨rfl, hb2⟩; have kB2 := Lib.hid (kB1.out.below hb2); obtain ⟨c0, c1, c2⟩ := kB2.out.cell; have cl := heap_lt kB2.out.1; clear hb2)
    | (go_at_call 7; refine (hBig.out _ kB2.out).mono ?_; rintro e w3 ⟨b, rfl, hbt, hb3⟩; have kbt := Lib.hid hbt; have kB3 := Lib.hid (kB2.out.below hb3); clear c0 c1 c2 cl; obtain ⟨c0, c1, c2⟩ := kB3.out.cell; have cl := heap_lt kB3.out.1; clear hbt hb3))
  cases b with
  | true =>
    go_wp2
    go_ret
    exact ⟨rfl, kB3.out.2⟩
  | false =>
    obtain ⟨hts, hls⟩ := kbt.out rfl
    have kwt := Lib.hid (wt_small hts hls)
    have kp := Lib.hid (fun (x : Bs × PN) (hx : x ∈ l) => (show x.1.length ≤ 2147483647 by have := totB_mem hx; omega))
    have kd := Lib.hid (fun (x : Bs × PN) (hx : x ∈ l) => (show x.2.data.length ≤ 1099511627776 by have := totB_mem hx; omega))
    have hLent := Lib.hid (fun (W : World) (h : BoxT w W (.slice ta l.length tc) clock room) => lent_calls (clock := clock) (room := room) (kat.out W h) (kTl.out W h) kd.out (by omega))
    have hRef := Lib.hid (fun (W : World) (h : BoxT w W (.slice ta l.length tc) clock room) => refNew_calls (clock := clock) (room := room) (kat.out W h) (kTl.out W h) kp.out kd.out)
    clear hts kbt hA hBig kB1
    have hwz := kB3.out.2.size
    go_upto_region 6 with (go_at_call 8; refine (hLent.out _ kB3.out).mono ?_; rintro e w4 ⟨g, c, L, rfl, hLm, hLN, hLS, hLc, hLt, hb4⟩; have kLm := Lib.hid hLm; have kLN := Lib.hid hLN; have kLS := Lib.hid hLS; have kLc := Lib.hid hLc; have kLt := Lib.hid hLt; have kb4 := Lib.hid hb4; clear c0 c1 c2 cl hLm hLN hLS hLc hLt hb4)
    have kFu4 := Lib.hid (Full.make kLm.out kLN.out kLS.out kLc.out kLt.out)
    have kB4 := Lib.hid (kB3.out.below kb4.out)
    have kF5 := Lib.hid (show TBox w4.heap.size (.slice (some ⟨g, 0, none⟩) l.length c) clock room (w4.alloc (.cells #[.slice (some ⟨g, 0, none⟩) l.length c, .int .i64 clock, .int .i64 room] 24)) from heap_alloc_new _ _)
    have kb5 := Lib.hid (below_al (o := .cells #[.slice (some ⟨g, 0, none⟩) l.length c, .int .i64 clock, .int .i64 room] 24) (Below.refl w4.heap.size w4))
    have hz5 : (w4.alloc (.cells #[.slice (some ⟨g, 0, none⟩) l.length c, .int .i64 clock, .int .i64 room] 24)).heap.size = w4.heap.size + 1 := by simp
    clear kLm kLN kLS kLc kLt
    generalize w4.alloc (.cells #[.slice (some ⟨g, 0, none⟩) l.length c, .int .i64 clock, .int .i64 room] 24) = w5 at *
    have kB5 := Lib.hid (kB4.out.below kb5.out)
    have kFu5 := Lib.hid (kFu4.out.on kb5.out)
    have hz34 := kb4.out.size
    have hbw3 := heap_lt kB3.out.1
    obtain ⟨f0, f1, f2⟩ := kF5.out.cell
    have fl := heap_lt kF5.out
    by_cases h0 : rightP l clock room = 0
    · have hNew := Lib.hid (new_ok (clock := clock) (room := room) kFu5.out.tree (fun k hk => hk.2) kp.out kd.out h0)
      rw [h0] at hRef
      clear h0
      go_upto_region 9 with (first
        | (go_at_call 9; refine hNew.out.mono ?_; rintro e w6 ⟨f, mb, N, S, rfl, hF6, hS6, hb6⟩; have kF6 := Lib.hid hF6; have kS6 := Lib.hid hS6; have kb6 := Lib.hid hb6; have kB6 := Lib.hid (kB5.out.below hb6); have kt6 := Lib.hid (kF5.out.on hb6); have kFu6 := Lib.hid (kFu5.out.on hb6); clear hF6 hS6 hb6 f0 f1 f2 fl; obtain ⟨c0, c1, c2⟩ := kB6.out.cell; have cl := heap_lt kB6.out.1; obtain ⟨f0, f1, f2⟩ := kt6.out.cell; have fl := heap_lt kt6.out)
        | (go_at_call 10; refine (stays_calls kFu6.out.nd kFu6.out.own kFu6.out.spare kFu6.out.room kFu6.out.tail (kat.out _ kB6.out) (kTl.out _ kB6.out) (by omega) kd.out).mono ?_; rintro e w7 ⟨rfl, hb7⟩; have kb7 := Lib.hid hb7; have kB7 := Lib.hid (kB6.out.below hb7); clear hb7 c0 c1 c2 cl f0 f1 f2 fl; obtain ⟨c0, c1, c2⟩ := kB7.out.cell; have cl := heap_lt kB7.out.1)
        | (go_at_call 11; refine (hRef.out _ kB7.out).mono ?_; rintro e w8 ⟨v8, rfl, hb8, -⟩; have kb8 := Lib.hid hb8; have kB8 := Lib.hid (kB7.out.below hb8); clear hb8 c0 c1 c2 cl))
      have kb58 := Lib.hid (kb6.out.trans ((kb7.out.trans (kb8.out.mono kb7.out.size)).mono kb6.out.size))
      have kb68 := Lib.hid (kb7.out.trans (kb8.out.mono kb7.out.size))
      have kt8 := Lib.hid (kF5.out.on kb58.out)
      obtain ⟨f0, f1, f2⟩ := kt8.out.cell
      have fl := heap_lt kt8.out
      have hz58 := kb58.out.size
      have hsp := Lib.hid (spoil_calls (clock := clock) (room := room) ((kFu4.out.spoil kd.out).of_heap (w' := w8) (fun j _ hj => (kb58.out.block j (by omega)).trans (kb5.out.block j hj))) (by omega) (by omega))
      go_upto_region 14 with (first
        | (go_at_call 12; refine (num_calls _ _).mono ?_; rintro e w0 ⟨rfl, rfl⟩)
        | (go_at_call 13; refine hsp.out.mono ?_; rintro e w9 ⟨rfl, hk9⟩; have kk9 := Lib.hid hk9; clear hk9 f0 f1 f2 fl))
      have kB9 := Lib.hid (kB8.out.kept kk9.out (by omega))
      have kF9 := Lib.hid ((kF6.out.below kb68.out).other kk9.out (fun j hj e => by have := kS6.out j hj; omega))
      have hTr := Lib.hid (tree_calls kF9.out kwt.out)
      go_upto_region 15 with (go_at_call 14; refine hTr.out.mono ?_; rintro e w10 ⟨nv1, L1, rfl, hL1, hN1, hb10⟩; obtain ⟨na, nc, hnf⟩ := hN1.form; subst hnf; have kL1 := Lib.hid hL1; have kN1 := Lib.hid hN1; have kb10 := Lib.hid hb10; clear hL1 hN1 hb10)
      have kLl1 := Lib.hid (show L1.length = l.length by have := congrArg List.length kL1.out; rwa [List.length_map] at this)
      have ktr1 := Lib.hid (show TreeAt w10 (.slice na L1.length nc) l (fun j => w9.heap.size ≤ j ∧ j < w10.heap.size) by have := kN1.out.tree; rwa [kL1.out] at this)
      have ksp1 := Lib.hid (kN1.out.spoil (fun x hx => kd.out x.nd (by rw [← kL1.out]; exact List.mem_map_of_mem hx)))
      have kt11 := Lib.hid (show TBox w10.heap.size (.slice na L1.length nc) clock room (w10.alloc (.cells #[.slice na L1.length nc, .int .i64 clock, .int .i64 room] 24)) from heap_alloc_new _ _)
      have kb11 := Lib.hid (below_al (o := .cells #[.slice na L1.length nc, .int .i64 clock, .int .i64 room] 24) (Below.refl w10.heap.size w10))
      have hz11 : (w10.alloc (.cells #[.slice na L1.length nc, .int .i64 clock, .int .i64 room] 24)).heap.size = w10.heap.size + 1 := by simp
      generalize w10.alloc (.cells #[.slice na L1.length nc, .int .i64 clock, .int .i64 room] 24) = w11 at *
      have kB11 := Lib.hid ((kB9.out.below kb10.out).below kb11.out)
      have hS1 := Lib.hid (same_calls (c1 := clock) (c2 := clock) (r1 := room) (r2 := room) (w := w11) (T1 := fun j => w9.heap.size ≤ j ∧ j < w10.heap.size) (ktr1.out.of_heap (fun j hj => kb11.out.block j hj.2) (fun _ h => h)) (kat.out _ kB11.out) (fun j hj => by have := hj.2; omega) (kTl.out _ kB11.out) (by omega))
      have kst := Lib.hid (show sameT l l clock room clock room = true by unfold sameT; rw [sameL_refl]; simp)
      rw [kst.out] at hS1
      obtain ⟨c0, c1, c2⟩ := kB11.out.cell
      have cl := heap_lt kB11.out.1
      obtain ⟨f0, f1, f2⟩ := kt11.out.cell
      have fl := heap_lt kt11.out
      go_upto_region 16 with (go_at_call 15; refine hS1.out.mono ?_; rintro e w12 ⟨rfl, hb12⟩; have kb12 := Lib.hid hb12; clear hb12 c0 c1 c2 cl f0 f1 f2 fl)
      have kt12 := Lib.hid (kt11.out.on kb12.out)
      have kB12 := Lib.hid (kB11.out.below kb12.out)
      obtain ⟨f0, f1, f2⟩ := kt12.out.cell
      have fl := heap_lt kt12.out
      have hz12 := kb12.out.size
      have hz9 := kB9.out.2.size
      have hz910 := kb10.out.size
      have hsp1 := Lib.hid (spoil_calls (clock := clock) (room := room) (ksp1.out.of_heap (w' := w12) (fun j _ hj => (kb12.out.block j (by omega)).trans (kb11.out.block j hj))) (by omega) (by have := kLl1.out; omega))
      go_upto_region 17 with (go_at_call 13; refine hsp1.out.mono ?_; rintro e w13 ⟨rfl, hk13⟩; have kk13 := Lib.hid hk13; clear hk13 f0 f1 f2 fl)
      have hz89 := kk9.out.size
      have hz8 := kB8.out.2.size
      have kB13 := Lib.hid (kB12.out.kept kk13.out (by have := heap_lt kB9.out.1; omega))
      have kF13 := Lib.hid ((kF9.out.below (kb10.out.trans ((kb11.out.trans (kb12.out.mono kb11.out.size)).mono kb10.out.size))).other kk13.out (fun j hj e => by have := kF9.out.lt j hj; omega))
      obtain ⟨c0, c1, c2⟩ := kB13.out.cell
      have cl := heap_lt kB13.out.1
      refine wp_region_held_drew (S := fun w' => Below w13.heap.size w13 w') (by kernel_rfl) ((Below.refl w13.heap.size w13).trans ⟨rfl, rfl, rfl, Nat.le_refl _, fun _ _ => rfl⟩) (fun hH0 => ?_)
      refine btake 0 (some 63) ?_ rfl hH0 (fun w' hw => ?_) ?_
      rotate_left 1
      · go_simp; first | done | with_reducible rfl
      try simp only [Act.put, List.setIfInBounds_toArray, List.set_cons_zero, List.set_cons_succ]
      refine btake 1 (some 64) ?_ rfl hH0 (fun w' hw => ?_) ?_
      rotate_left 1
      · go_simp; first | done | with_reducible rfl
      try simp only [Act.put, List.setIfInBounds_toArray, List.set_cons_zero, List.set_cons_succ]
      refine btake 2 (some 65) ?_ rfl hH0 (fun w' hw => ?_) ?_
      rotate_left 1
      · go_simp; first | done | with_reducible rfl
      try simp only [Act.put, List.setIfInBounds_toArray, List.set_cons_zero, List.set_cons_succ]
      refine btake 4 (some 67) ?_ rfl hH0 (fun w' hw => ?_) ?_
      rotate_left 1
      · obtain ⟨c0, c1, c2⟩ := (kB13.out.below hw).cell; go_simp; first | done | with_reducible rfl
      try simp only [Act.put, List.setIfInBounds_toArray, List.set_cons_zero, List.set_cons_succ]
      refine wpAnyH_all (rs := [3]) (by kernel_rfl) (by simp) (AllReadyH.cons rfl (fun K hK => ?_) AllReadyH.nil)
      rw [if_pos (by rfl)]
      go_simp
      refine (tree_calls (kF13.out.below hH0) kwt.out).mono ?_
      rintro e w14 ⟨nv2, L2, rfl, hL2, hN2, hb14⟩
      obtain ⟨na2, nc2, hnf2⟩ := hN2.form
      subst hnf2
      have ktr2 := Lib.hid (show TreeAt w14 (.slice na2 L2.length nc2) l (fun j => w13.drew.heap.size ≤ j ∧ j < w14.heap.size) by have := hN2.tree; rwa [hL2] at this)
      have kH2 := Lib.hid (hH0.trans (hb14.mono hH0.size))
      clear hL2 hN2 hb14
      go_wp2_with fail
      refine hK.out _ _ kH2.out (fun hH1 => ?_)
      clear hK K
      try simp only [Act.put, List.setIfInBounds_toArray, List.set_cons_zero, List.set_cons_succ]
      have kB14 := Lib.hid (kB13.out.below kH2.out)
      have hS2 := Lib.hid (same_calls (c1 := clock) (c2 := clock) (r1 := room) (r2 := room) (w := w14) ktr2.out (kat.out _ kB14.out) (fun j hj => hj.2) (kTl.out _ kB14.out) (by omega))
      rw [kst.out] at hS2
      refine wpAnyH_all (rs := [5]) (by kernel_rfl) (by simp) (AllReadyH.cons rfl (fun K hK => ?_) AllReadyH.nil)
      rw [if_pos (by rfl)]
      go_simp
      refine hS2.out.mono ?_
      rintro e w15 ⟨rfl, hb15⟩
      have kH3 := Lib.hid (kH2.out.trans (hb15.mono kH2.out.size))
      clear hb15
      go_wp2_with fail
      refine hK.out _ _ kH3.out (fun hH2 => ?_)
      clear hK K
      try simp only [Act.put, List.setIfInBounds_toArray, List.set_cons_zero, List.set_cons_succ]
      refine btake 6 (some 69) ?_ rfl hH2 (fun w' hw => ?_) ?_
      rotate_left 1
      · go_simp; first | done | with_reducible rfl
      try simp only [Act.put, List.setIfInBounds_toArray, List.set_cons_zero, List.set_cons_succ]
      refine btake 7 (some 2) ?_ rfl hH2 (fun w' hw => ?_) ?_
      rotate_left 1
      · go_simp; first | done | with_reducible rfl
      try simp only [Act.put, List.setIfInBounds_toArray, List.set_cons_zero, List.set_cons_succ]
      refine wpAnyH_done (by kernel_rfl) ?_ _
      have kbe := Lib.hid (kB13.out.below kH3.out).2
      clear hH2
      go_wp2
      go_ret
      exact ⟨rfl, kbe.out⟩
    · have hNew := Lib.hid (new_bad (clock := clock) (room := room) kFu5.out.tree (fun k hk => hk.2) kp.out kd.out h0)
      have hr0 : (rightP l clock room == 0) = false := by rw [beq_eq_false_iff_ne]; exact h0
      have hRb := Lib.hid (fun (W : World) (h : BoxT w W (.slice ta l.length tc) clock room) => (hRef.out W h).mono (fun e w' hh => (⟨hh.choose, hh.choose_spec.1, hh.choose_spec.2.1⟩ : ∃ v, e = .returned (.tuple #[v, .int .i64 (rightP l clock room)]) ∧ Below W.heap.size W w')))
      have hr1 : (rightP l clock room != 0) = true := by rw [bne, hr0]; rfl
      clear hRef
      generalize rightP l clock room = r at *
      go_upto_region 9 with (first
        | (go_at_call 9; refine hNew.out.mono ?_; rintro e w6 ⟨rfl, hb6⟩; have kb6 := Lib.hid hb6; have kB6 := Lib.hid (kB5.out.below hb6); have kt6 := Lib.hid (kF5.out.on hb6); have kFu6 := Lib.hid (kFu5.out.on hb6); clear hb6 f0 f1 f2 fl; obtain ⟨c0, c1, c2⟩ := kB6.out.cell; have cl := heap_lt kB6.out.1; obtain ⟨f0, f1, f2⟩ := kt6.out.cell; have fl := heap_lt kt6.out)
        | (go_at_call 10; refine (stays_calls kFu6.out.nd kFu6.out.own kFu6.out.spare kFu6.out.room kFu6.out.tail (kat.out _ kB6.out) (kTl.out _ kB6.out) (by omega) kd.out).mono ?_; rintro e w7 ⟨rfl, hb7⟩; have kb7 := Lib.hid hb7; have kB7 := Lib.hid (kB6.out.below hb7); clear hb7 c0 c1 c2 cl f0 f1 f2 fl; obtain ⟨c0, c1, c2⟩ := kB7.out.cell; have cl := heap_lt kB7.out.1)
        | (go_at_call 11; refine (hRb.out _ kB7.out).mono ?_; rintro e w8 ⟨v8, rfl, hb8⟩; have kb8 := Lib.hid hb8; have kB8 := Lib.hid (kB7.out.below hb8); clear hb8 c0 c1 c2 cl))
      go_wp2_with (go_at_call 12; refine (num_calls _ _).mono ?_; rintro e w0 ⟨rfl, rfl⟩)
      go_ret
      exact ⟨rfl, kB8.out.2⟩
end
end Go.Proofs.YtejofgdglpmlkaaGreatDoor
