/-
  right of any tree; New of a tree of which something is wrong. Conditions: paths of at most 2^31 bytes, data of at most 2^40 bytes.
  VfsPlays: it answers true for every tree and row of calls. Conditions: texts of at most 2^47 bytes, at most 2^42 nodes and calls; the library's variable is laid.
-/
import Derived.Test.YtejofgdglpmlkaaGreatDoorM30
import Derived.Test.YtejofgdglpmlkaaGreatDoorM42
import Derived.Test.YtejofgdglpmlkaaGreatDoorM43
import Derived.Test.YtejofgdglpmlkaaGreatDoorM44
import Derived.Test.YtejofgdglpmlkaaGreatDoorM41
namespace Go.Proofs.YtejofgdglpmlkaaGreatDoor
open Go.RowKit

section
variable {l : St} {clock room : Int} {nv : Value} {T : Nat → Prop} {w : World}
theorem right_calls (ht : TreeAt w nv l T) (hT : ∀ k, T k → k < w.heap.size) (hp : ∀ x ∈ l, x.1.length ≤ 2147483647) (hd : ∀ x ∈ l, x.2.data.length ≤ 1099511627776) :
    Calls Tryz.prog 28 #[.agg #[nv, .int .i64 clock, .int .i64 room]] w fun e w' => e = .returned (.int .i64 (rightP l clock room)) ∧ Below w.heap.size w w' := by
  cases hok : okFrom clock [] l with
  | true => exact right_ok hok ht hT hp hd
  | false =>
    rcases kind_range l [] hok with h | h | h
    · exact right_bad1 h ht hT hp hd
    · exact right_bad2 h ht hT hp hd
    · exact right_bad3 h ht hT hp hd
set_option maxRecDepth 100000 in
set_option maxHeartbeats 2000000 in
theorem new_bad (ht : TreeAt w nv l T) (hT : ∀ k, T k → k < w.heap.size) (hp : ∀ x ∈ l, x.1.length ≤ 2147483647) (hd : ∀ x ∈ l, x.2.data.length ≤ 1099511627776) (h0 : rightP l clock room ≠ 0) :
    Calls Tryz.prog 9 #[.agg #[nv, .int .i64 clock, .int .i64 room]] w fun e w' => e = .returned (.tuple #[.pointer none, .int .i64 (rightP l clock room)]) ∧ Below w.heap.size w w' := by
  have hbox : Below w.heap.size w (w.alloc (.cells #[nv, .int .i64 clock, .int .i64 room] 24 (0, 0))) := below_al (Below.refl _ _)
  have hR := Lib.hid (right_calls (clock := clock) (room := room) (ht.of_heap (w' := w.alloc (.cells #[nv, .int .i64 clock, .int .i64 room] 24 (0, 0))) (fun k hk => hbox.block k (hT k hk)) (fun _ h => h)) (fun k hk => by have := hT k hk; have := hbox.size; omega) hp hd)
  obtain ⟨ta, tc, hnv⟩ := ht.form
  subst hnv
  have kb := Lib.hid hbox
  clear ht hT hp hd hbox
  have hne : (rightP l clock room == 0) = false := by rw [beq_eq_false_iff_ne]; exact h0
  generalize rightP l clock room = r at *
  go_enter Tryz.func9, Tryz.ntmps9
  go_wp2_with (go_at_call 28; refine hR.out.mono ?_; rintro e w1 ⟨rfl, hb1⟩; have kb1 := Lib.hid hb1; clear hb1)
  go_ret2
  exact ⟨rfl, kb.out.trans (kb1.out.mono kb.out.size)⟩
end
end Go.Proofs.YtejofgdglpmlkaaGreatDoor
namespace Go.Proofs.YtejofgdglpmlkaaGreatDoor
open Go.RowKit

theorem sameT_refl (st : St) (c r : Int) : sameT st st c r c r = true := by unfold sameT; rw [sameL_refl]; simp
/-- Both file systems and the twin, between two calls; w4: the world ahead of them. -/
structure PState (w4 : World) (f fb tf : Nat) (T2 : Nat → Prop) (l : St) (clock : Int) (st : St) (ck room : Int) (wr : World) (S R : Nat → Prop) : Prop where make ::
  both : Both wr f fb S R st ck room
  wf : Wf st ck room
  twin : FsAt wr tf T2 l clock room
  apart : ∀ k, T2 k → ¬ S k ∧ ¬ R k
  own : ∀ k, S k ∨ R k → w4.heap.size ≤ k
  below : Below w4.heap.size w4 wr
section
variable {w4 wr w' : World} {f fb tf : Nat} {T2 S R : Nat → Prop} {l st : St} {clock ck room : Int} {r : Res}
theorem PState.call (h : PState w4 f fb tf T2 l clock st ck room wr S R) (hp : BothPost wr f fb S R room r w') (hw : Wf r.2.1 r.2.2 room) : ∃ S' R', PState w4 f fb tf T2 l clock r.2.1 r.2.2 room w' S' R' := by
  obtain ⟨S', R', h1, h2, h3, h4⟩ := hp
  have z := h.below.size
  have z4 := h4.size
  have ht := h.twin.ltS
  refine ⟨S', R', h1, hw, h.twin.same fun k hk => h4.block k (ht k hk) (fun h5 => h5.elim (h.apart k hk).1 (h.apart k hk).2), fun k hk => ⟨fun h5 => ?_, fun h5 => ?_⟩, fun k hk => ?_, ⟨h4.os.trans h.below.os, h4.tape.trans h.below.tape, h4.output.trans h.below.output, by omega, fun k hk => (h4.block k (by omega) (fun h5 => by have := h.own k h5; omega)).trans (h.below.block k hk)⟩⟩
  · rcases h2 k h5 with h6 | h6
    · exact (h.apart k hk).1 h6
    · have := ht k hk; omega
  · rcases h3 k h5 with h6 | h6
    · exact (h.apart k hk).2 h6
    · have := ht k hk; omega
  · rcases hk with h5 | h5
    · rcases h2 k h5 with h6 | h6
      · exact h.own k (Or.inl h6)
      · omega
    · rcases h3 k h5 with h6 | h6
      · exact h.own k (Or.inr h6)
      · omega
theorem PState.on (h : PState w4 f fb tf T2 l clock st ck room wr S R) (hb : Below wr.heap.size wr w') : PState w4 f fb tf T2 l clock st ck room w' S R :=
  ⟨h.both.below hb, h.wf, h.twin.same fun k hk => hb.block k (h.twin.ltS k hk), h.apart, h.own, h.below.trans (hb.mono h.below.size)⟩
end
section
variable {l : St} {os : List OpD} {clock room : Int} {nv ov : Value} {T To : Nat → Prop} {w : World}
set_option maxRecDepth 100000 in
set_option maxHeartbeats 16000000 in
theorem plays_calls (ht : TreeAt w nv l T) (hT : ∀ k, T k → k < w.heap.size) (hp : ∀ x ∈ l, x.1.length ≤ 140737488355328 ∧ x.2.data.length ≤ 140737488355328) (hl : l.length ≤ 4398046511104)
    (ho : OpsAt w ov os To) (hTo : ∀ k, To k → k < w.heap.size) (hop : ∀ x ∈ os, x.p.length ≤ 140737488355328 ∧ x.q.length ≤ 140737488355328 ∧ x.b.length ≤ 140737488355328) (hol : os.length ≤ 4398046511104) (hlw : Laid w) :
    Calls Tryz.prog 5 #[.agg #[nv, .int .i64 clock, .int .i64 room], ov] w fun e w' => e = .returned (.bool true) ∧ Below w.heap.size w w' := by
  have kB1 := Lib.hid (show BoxT w (w.alloc (.cells #[nv, .int .i64 clock, .int .i64 room] 24 (0, 0))) nv clock room from ⟨heap_alloc_new _ _, below_al (Below.refl _ _)⟩)
  have hA := Lib.hid alive_calls
  have kat := Lib.hid (fun (W : World) (h : BoxT w W nv clock room) => ht.of_heap (w' := W) (T' := T) (fun j hj => h.2.block j (hT j hj)) (fun _ h => h))
  have kTl := Lib.hid (fun (W : World) (h : BoxT w W nv clock room) (j : Nat) (hj : T j) => Nat.lt_of_lt_of_le (hT j hj) h.2.size)
  have kot := Lib.hid (fun (W : World) (h : Below w.heap.size w W) => ho.of_heap (w' := W) (T' := To) (fun j hj => h.block j (hTo j hj)) (fun _ h => h))
  have kTo := Lib.hid hTo
  have kTt := Lib.hid hT
  have hBig := Lib.hid (fun (W : World) (h : BoxT w W nv clock room) => big_calls (clock := clock) (room := room) (kat.out W h) (kTl.out W h) hp hl)
  have hMuch := Lib.hid (fun (W : World) (h : BoxT w W nv clock room) => much_calls (kot.out W h.2) (fun k hk => Nat.lt_of_lt_of_le (hTo k hk) h.2.size) hop hol)
  obtain ⟨ta, tc, hnv⟩ := ht.form
  subst hnv
  obtain ⟨oa, oc, hov⟩ := ho.form
  subst hov
  have klw := Lib.hid hlw
  have hl0 := hlw.lt
  clear ht hT hp ho hTo hlw
  cases hm : muchB os with
  | true =>
    rw [hm] at hMuch
    clear hm
    go_enter Tryz.func5, Tryz.ntmps5
    go_wp2_with (first
      | (go_at_call 6; refine (hA.out _).mono ?_; rintro e w2 ⟨rfl, hb2⟩; have kB2 := Lib.hid (kB1.out.below hb2); obtain ⟨c0, c1, c2⟩ := kB2.out.cell; have cl := heap_lt kB2.out.1; clear hb2)
      | (go_at_call 16; refine (hMuch.out _ kB2.out).mono ?_; rintro e w3 ⟨rfl, hb3⟩; have kB3 := Lib.hid (kB2.out.below hb3); clear c0 c1 c2 cl hb3; obtain ⟨c0, c1, c2⟩ := kB3.out.cell; have cl := heap_lt kB3.out.1))
    go_ret
    exact ⟨rfl, kB3.out.2⟩
  | false =>
  obtain ⟨hto, hoc⟩ := muchB_not hm
  rw [hm] at hMuch
  clear hm hol
  go_enter Tryz.func5, Tryz.ntmps5
  go_upto_region 3 with (first
    | (go_at_call 6; refine (hA.out _).mono ?_; rintro e w2 ⟨rfl, hb2⟩; have kB2 := Lib.hid (kB1.out.below hb2); obtain ⟨c0, c1, c2⟩ := kB2.out.cell; have cl := heap_lt kB2.out.1; clear hb2)
    | (go_at_call 16; refine (hMuch.out _ kB2.out).mono ?_; rintro e w3 ⟨rfl, hb3⟩; have kB3 := Lib.hid (kB2.out.below hb3); clear c0 c1 c2 cl hb3; obtain ⟨c0, c1, c2⟩ := kB3.out.cell; have cl := heap_lt kB3.out.1)
    | (go_at_call 7; refine (hBig.out _ kB3.out).mono ?_; rintro e w4 ⟨b, rfl, hbt, hb4⟩; have kbt := Lib.hid hbt; have kB4 := Lib.hid (kB3.out.below hb4); clear c0 c1 c2 cl hbt hb4; obtain ⟨c0, c1, c2⟩ := kB4.out.cell; have cl := heap_lt kB4.out.1))
  cases b with
  | true =>
    go_wp2
    go_ret
    exact ⟨rfl, kB4.out.2⟩
  | false =>
  obtain ⟨hts, hls⟩ := kbt.out rfl
  have kp := Lib.hid (fun (x : Bs × PN) (hx : x ∈ l) => (show x.1.length ≤ 2147483647 by have := totB_mem hx; omega))
  have kd := Lib.hid (fun (x : Bs × PN) (hx : x ∈ l) => (show x.2.data.length ≤ 1099511627776 by have := totB_mem hx; omega))
  clear hts kbt hA hBig hMuch kB1
  have hz4 := kB4.out.2.size
  have hbw4 := heap_lt kB4.out.1
  have hRef := Lib.hid (fun (W : World) (h : BoxT w W (.slice ta l.length tc) clock room) => refNew_calls (clock := clock) (room := room) (kat.out W h) (kTl.out W h) kp.out kd.out)
  by_cases h0 : rightP l clock room = 0
  · have hNew := Lib.hid (new_ok (clock := clock) (room := room) (kat.out _ kB4.out) (kTl.out _ kB4.out) kp.out kd.out h0)
    have kWf := Lib.hid (wf_of_right h0)
    have hclk0 := right_clock h0
    have k0 := Lib.hid h0
    rw [h0] at hRef
    clear h0
    go_upto_region 14 with (first
      | (go_at_call 9; refine hNew.out.mono ?_; rintro e w5 ⟨f, mb, N, S0, rfl, hF5, hS5, hb5⟩; have kF5 := Lib.hid hF5; have kS5 := Lib.hid hS5; have kb5 := Lib.hid hb5; have kB5 := Lib.hid (kB4.out.below hb5); clear hF5 hS5 hb5 c0 c1 c2 cl; obtain ⟨c0, c1, c2⟩ := kB5.out.cell; have cl := heap_lt kB5.out.1)
      | (go_at_call 11; refine (hRef.out _ kB5.out).mono ?_; rintro e w6 ⟨v6, rfl, hb6, hRI⟩; obtain ⟨fb, rfl, hR6⟩ := (hRI trivial).ref; have kR6 := Lib.hid hR6; have kb6 := Lib.hid hb6; have kB6 := Lib.hid (kB5.out.below hb6); have kTw := Lib.hid (twin_calls (kF5.out.below hb6) kWf.out k0.out); clear hb6 hRI hR6 c0 c1 c2 cl)
      | (go_at_call 12; refine (num_calls _ _).mono ?_; rintro e w0 ⟨rfl, rfl⟩)
      | (go_at_call 22; refine kTw.out.mono ?_; rintro e w7 ⟨tf, T2, rfl, hT7, hT2, hb7⟩; have kT7 := Lib.hid hT7; have kT2 := Lib.hid hT2; have kb7 := Lib.hid hb7; clear hT7 hT2 hb7))
    have z5 := kb5.out.size
    have z6 := kb6.out.size
    have z7 := kb7.out.size
    have kP0 := Lib.hid (show PState w4 f fb tf T2 l clock l clock room w7 S0 (fun k => w5.heap.size ≤ k ∧ k < w6.heap.size) from by
      have hF7 := (kF5.out.below kb6.out).below kb7.out
      refine ⟨⟨⟨mb, N, hF7⟩, kR6.out.same (fun k hk => kb7.out.block k hk.2), fun k hk hr => by have := kF5.out.lt k hk; omega⟩, kWf.out, kT7.out, fun k hk => ⟨fun hs => by have := kF5.out.lt k hs; have := kT2.out k hk; omega, fun hr => by have := kT2.out k hk; omega⟩, fun k hk => hk.elim (fun hs => kS5.out k hs) (fun hr => by omega), (kb5.out.trans (kb6.out.mono z5)).trans (kb7.out.mono (by omega))⟩)
    clear hNew hRef kR6 kT7 kTw
    go_wp2_with fail
    go_loopw [12, 13, 14] (fun iv _ _ wr => ∃ (i : Nat) (st : St) (ck : Int) (S R : Nat → Prop), i ≤ os.length ∧ iv = .int .i64 i ∧ ck ≤ clock + i ∧ PState w4 f fb tf T2 l clock st ck room wr S R) (fun iv _ _ _ => os.length - (intOf iv).toNat)
    case atStart => exact ⟨0, l, clock, S0, _, Nat.zero_le _, rfl, by omega, kP0.out⟩
    case round =>
      obtain ⟨i, st, ck, S, R, hi, rfl, hck, hP⟩ := hrel
      have kP := Lib.hid hP
      have kwr := Lib.hid (kB4.out.2.trans (hP.below.mono hz4))
      have hzr := hP.below.size
      clear hP
      by_cases hlt : i < os.length
      · obtain ⟨x, hx⟩ : ∃ x, os[i]? = some x := ⟨_, List.getElem?_eq_getElem hlt⟩
        have kx := Lib.hid hx
        obtain ⟨b, off, dv, hta, hTb, hbl, hc0, hc1, hc2, hc3, hdv⟩ := (kot.out wr kwr.out).at hx
        obtain ⟨da, dc, hdf⟩ := hdv.form
        subst hta hdf
        have hxs := totO_mem (List.mem_of_getElem? hx)
        have kdv := Lib.hid hdv
        have y1 : (i : Int) < (os.length : Int) := by omega
        have y2 : (0 : Int) ≤ (i : Int) := by omega
        have hCh := Lib.hid (change_law (x := x) kP.out.both kP.out.wf hdv (fun k hk => ⟨fun hs => by have := kP.out.own k (Or.inl hs); have := kTo.out k hk; omega, fun hs => by have := kP.out.own k (Or.inr hs); have := kTo.out k hk; omega, by have := kTo.out k hk; omega⟩) (by omega) (by omega) (by omega) (klw.out.below hl0 kwr.out))
        have kst := Lib.hid (chRes_step st ck room x)
        have kwf := Lib.hid (kst.out.wf kP.out.wf (by omega))
        have hckc := kst.out.clk
        have hbT := kTo.out b hTb
        clear hdv hx hTb
        go_upto_region 18 with (go_at_call 23; refine hCh.out.mono ?_; rintro e w8 ⟨rfl, hBP⟩; have kBP := Lib.hid hBP; clear hBP)
        obtain ⟨S', R', hP1⟩ := kP.out.call kBP.out kwf.out
        have kP1 := Lib.hid hP1
        have kw8 := Lib.hid (kB4.out.2.trans (hP1.below.mono hz4))
        have hmv : ∀ o v, wr.cell? ⟨b, o, none⟩ = some v → w8.cell? ⟨b, o, none⟩ = some v := fun o v h => (kw8.out.cell (p := ⟨b, o, none⟩) hbT).trans ((kwr.out.cell (p := ⟨b, o, none⟩) hbT).symm.trans h)
        have hd0 := hmv _ _ hc0
        have hd1 := hmv _ _ hc1
        have hd2 := hmv _ _ hc2
        have hd3 := hmv _ _ hc3
        have hbl8 : b < w8.heap.size := Nat.lt_of_lt_of_le hbT kw8.out.size
        clear hP1 hc0 hc1 hc2 hc3 hbl hmv
        have hLk := Lib.hid (looks_law (x := x) (da := da) (dc := dc) kP1.out.both kP1.out.wf (by omega) (by omega) (klw.out.below hl0 kw8.out))
        generalize hrr : chRes st ck room x = rr at *
        obtain ⟨rc, st', ck'⟩ := rr
        dsimp only at *
        go_wp2_with (go_at_call 24; refine hLk.out.mono ?_; rintro e w9 ⟨rfl, hb9⟩; have kP2 := Lib.hid (kP1.out.on hb9); clear hb9)
        exact ⟨⟨i + 1, st', ck', S', R', by omega, by go_num, by omega, kP2.out⟩, by simp [intOf]; omega⟩
      · have y1 : ¬ (i : Int) < (os.length : Int) := by omega
        obtain ⟨⟨mb9, N9, hF9⟩, ⟨fv9, L9, hR9⟩, -⟩ := kP.out.both
        have kF9 := Lib.hid hF9
        have kR9 := Lib.hid hR9
        clear hF9 hR9
        have hTr := Lib.hid (tree_calls kF9.out (show wt st ≤ 1099511627775 by have h1 := kP.out.wf.wt; have h2 := kP.out.wf.rm; omega))
        go_upto_region 22 with (first
          | (go_at_call 14; refine hTr.out.mono ?_; rintro e w8 ⟨nv8, L8, rfl, hL8, hN8, hb8⟩; obtain ⟨na8, nc8, hnf8⟩ := hN8.form; subst hnf8; have kt8 := Lib.hid hN8.tree; rw [hL8] at kt8; have kb8 := Lib.hid hb8; have hRt := Lib.hid (refTree_calls (kR9.out.below hb8) kP.out.wf); clear hL8 hN8 hb8)
          | (go_at_call 25; refine hRt.out.mono ?_; rintro e w9 ⟨nv9, L9, rfl, hL9, hN9, hb9⟩; obtain ⟨na9, nc9, hnf9⟩ := hN9.form; subst hnf9; have kt9 := Lib.hid hN9.tree; rw [hL9] at kt9; have kb9 := Lib.hid hb9; have hSm := Lib.hid (same_calls (c1 := ck) (c2 := ck) (r1 := room) (r2 := room) (kt8.out.of_heap (w' := w9) (fun k hk => hb9.block k hk.2) (fun _ h => h)) kt9.out (fun k hk => Nat.lt_of_lt_of_le hk.2 hb9.size) (fun k hk => hk.2) (by have := kP.out.wf.len; omega)); rw [sameT_refl] at hSm; clear hL9 hN9 hb9)
          | (go_at_call 15; refine hSm.out.mono ?_; rintro e w10 ⟨rfl, hb10⟩; have kb10 := Lib.hid hb10; clear hb10))
        have kb89 := Lib.hid ((kb8.out.trans (kb9.out.mono kb8.out.size)).trans (kb10.out.mono (Nat.le_trans kb8.out.size kb9.out.size)))
        have kP10 := Lib.hid ((kP.out.on kb89.out).on (below_drew w10))
        have kB10 := Lib.hid (show BoxT w w10.drew (.slice ta l.length tc) clock room from ⟨(kP10.out.below.block _ hbw4).trans kB4.out.1, kB4.out.2.trans (kP10.out.below.mono hz4)⟩)
        obtain ⟨c0, c1, c2⟩ := kB10.out.cell
        have cl := heap_lt kB10.out.1
        obtain ⟨mb5, N5, hF5⟩ := kP10.out.twin
        have hTt := Lib.hid (tree_calls hF5 (show wt l ≤ 1099511627775 by have h1 := kWf.out.wt; have h2 := kWf.out.rm; omega))
        have hH : w10.drew.cell? ⟨w.heap.size, 0, none⟩ = some (.slice ta l.length tc) ∧ w10.drew.cell? ⟨w.heap.size, 1, none⟩ = some (.int .i64 clock) ∧ w10.drew.cell? ⟨w.heap.size, 2, none⟩ = some (.int .i64 room) ∧ w.heap.size < w10.drew.heap.size := ⟨c0, c1, c2, cl⟩
        clear hF5
        refine lbegin 7 (fun w' => w'.cell? ⟨w.heap.size, 0, none⟩ = some (.slice ta l.length tc) ∧ w'.cell? ⟨w.heap.size, 1, none⟩ = some (.int .i64 clock) ∧ w'.cell? ⟨w.heap.size, 2, none⟩ = some (.int .i64 room) ∧ w.heap.size < w'.heap.size) (by kernel_rfl) ?_
        refine ltake 7 0 (some 87) ?_ rfl hH (by rfl) (fun w' hw => ?_) ?_
        rotate_left 1
        · obtain ⟨p0, p1, p2, pl⟩ := hw; go_simp; first | done | with_reducible rfl
        try simp only [pz0, pz1, pz2, pz3]
        refine ltake 7 1 (some 88) ?_ rfl hH (by rfl) (fun w' hw => ?_) ?_
        rotate_left 1
        · obtain ⟨p0, p1, p2, pl⟩ := hw; go_simp; first | done | with_reducible rfl
        try simp only [pz0, pz1, pz2, pz3]
        refine ltake 7 2 (some 89) ?_ rfl hH (by rfl) (fun w' hw => ?_) ?_
        rotate_left 1
        · obtain ⟨p0, p1, p2, pl⟩ := hw; go_simp; first | done | with_reducible rfl
        try simp only [pz0, pz1, pz2, pz3]
        refine ltake 7 4 (some 91) ?_ rfl hH (by rfl) (fun w' hw => ?_) ?_
        rotate_left 1
        · obtain ⟨p0, p1, p2, pl⟩ := hw; go_simp; first | done | with_reducible rfl
        try simp only [pz0, pz1, pz2, pz3]
        refine lready (rs := [3]) (by kernel_rfl) (by simp) (lcons rfl (fun K hK => ?_) (lnil))
        rw [if_pos (by rfl)]
        go_simp
        refine hTt.out.mono ?_
        rintro e w11 ⟨nv11, L11, rfl, hL11, hN11, hb11⟩
        obtain ⟨na11, nc11, hnf11⟩ := hN11.form
        subst hnf11
        have kt11 := Lib.hid hN11.tree
        rw [hL11] at kt11
        have kB11 := Lib.hid (kB10.out.below hb11)
        obtain ⟨d0, d1, d2⟩ := kB11.out.cell
        have dl := heap_lt kB11.out.1
        have hSm2 := Lib.hid (same_calls (c1 := clock) (c2 := clock) (r1 := room) (r2 := room) kt11.out (kat.out _ kB11.out) (fun k hk => hk.2) (kTl.out _ kB11.out) (by have := kWf.out.len; omega))
        rw [sameT_refl] at hSm2
        refine hK.out _ _ (fun _ => ⟨d0, d1, d2, dl⟩) (fun _ => ?_)
        clear hK K hL11 hN11 hb11
        try simp only [pz0, pz1, pz2, pz3]
        refine lready (rs := [5]) (by kernel_rfl) (by simp) (lcons rfl (fun K hK => ?_) (lnil))
        rw [if_pos (by rfl)]
        go_simp
        refine hSm2.out.mono ?_
        rintro e w12 ⟨rfl, hb12⟩
        have kB12 := Lib.hid (kB11.out.below hb12)
        obtain ⟨g0, g1, g2⟩ := kB12.out.cell
        have gl := heap_lt kB12.out.1
        refine hK.out _ _ (fun _ => ⟨g0, g1, g2, gl⟩) (fun _ => ?_)
        clear hK K hb12
        try simp only [pz0, pz1, pz2, pz3]
        refine ltake 7 6 (some 93) ?_ rfl ⟨g0, g1, g2, gl⟩ (by rfl) (fun w' hw => ?_) ?_
        rotate_left 1
        · obtain ⟨p0, p1, p2, pl⟩ := hw; go_simp; first | done | with_reducible rfl
        try simp only [pz0, pz1, pz2, pz3]
        refine lready (rs := [7]) (by kernel_rfl) (by simp) (lcons rfl (fun K hK => ?_) (lnil))
        rw [if_pos (by rfl)]
        go_simp
        refine hK.out _ _ (fun h => absurd rfl h) (fun _ => ?_)
        clear hK K
        refine ldone (by kernel_rfl) ?_ _
        go_wp2_with fail
        go_ret
        exact ⟨rfl, kB12.out.2⟩
  · have hNew := Lib.hid (new_bad (clock := clock) (room := room) (kat.out _ kB4.out) (kTl.out _ kB4.out) kp.out kd.out h0)
    have hr0 : (rightP l clock room == 0) = false := by rw [beq_eq_false_iff_ne]; exact h0
    have hr1 : (rightP l clock room != 0) = true := by rw [bne, hr0]; rfl
    have hrs : (rightP l clock room != rightP l clock room) = false := by simp
    generalize rightP l clock room = r at *
    go_wp2_with (first
      | (go_at_call 9; refine hNew.out.mono ?_; rintro e w5 ⟨rfl, hb5⟩; have kB5 := Lib.hid (kB4.out.below hb5); clear hb5 c0 c1 c2 cl; obtain ⟨c0, c1, c2⟩ := kB5.out.cell; have cl := heap_lt kB5.out.1)
      | (go_at_call 11; refine (hRef.out _ kB5.out).mono ?_; rintro e w6 ⟨v6, rfl, hb6, -⟩; have kB6 := Lib.hid (kB5.out.below hb6); clear hb6 c0 c1 c2 cl)
      | (go_at_call 12; refine (num_calls _ _).mono ?_; rintro e w0 ⟨rfl, rfl⟩))
    go_ret
    exact ⟨rfl, kB6.out.2⟩
end
end Go.Proofs.YtejofgdglpmlkaaGreatDoor
