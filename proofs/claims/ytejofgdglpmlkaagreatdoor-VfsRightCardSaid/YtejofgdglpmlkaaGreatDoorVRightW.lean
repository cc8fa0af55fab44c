/-
  VfsRight: it answers true for every tree and row of calls. Conditions: texts of at most 2^47 bytes, at most 2^42 nodes and calls; the library's variable is laid.
-/
import Derived.Test.YtejofgdglpmlkaaGreatDoorVCalls
import Derived.Test.YtejofgdglpmlkaaGreatDoorVMuch
import Derived.Test.YtejofgdglpmlkaaGreatDoorVBoxes
import Derived.Test.YtejofgdglpmlkaaGreatDoorVSame
import Derived.Test.YtejofgdglpmlkaaGreatDoorVTreeG
import Derived.Test.YtejofgdglpmlkaaGreatDoorVNewB
import Derived.Test.YtejofgdglpmlkaaGreatDoorVSmall
import Derived.Deep.CutRange
import Derived.Deep.DeepCutAuto
import Derived.Deep.CutBlock
namespace Go.Proofs.YtejofgdglpmlkaaGreatDoor
open Go.RowKit

theorem tmod6 (a : Int) : a.tmod 6 = 0 ∨ a.tmod 6 = 1 ∨ a.tmod 6 = 2 ∨ a.tmod 6 = 3 ∨ a.tmod 6 = 4 ∨ a.tmod 6 = 5 ∨ a.tmod 6 < 0 := by
  have := Int.tmod_lt_of_pos a (show (0 : Int) < 6 by decide)
  omega
/-- What a call of an op answers, and leaves. -/
def opRes (st : St) (clock room : Int) (x : OpD) : Res :=
  if x.kind.tmod 6 = 0 then writeRes st clock room (clean x.p) x.b false
  else if x.kind.tmod 6 = 1 then writeRes st clock room (clean x.p) x.b true
  else if x.kind.tmod 6 = 2 then mkdirRes st clock room (clean x.p)
  else if x.kind.tmod 6 = 3 then removeRes st clock (clean x.p)
  else if x.kind.tmod 6 = 4 then renameRes st clock (clean x.p) (clean x.q)
  else touchRes st clock room (clean x.p)
theorem opRes_step (st : St) (clock room : Int) (x : OpD) : Step st clock room (opRes st clock room x) := by
  unfold opRes
  split
  · exact writeRes_step _ _ _
  · split
    · exact writeRes_step _ _ _
    · split
      · exact mkdirRes_step _
      · split
        · exact removeRes_step _
        · split
          · exact renameRes_step _ _
          · exact touchRes_step _
/-- The file system and the tree that was told of it, between two calls. -/
structure RState (w : World) (f wasb : Nat) (B : Nat) (st : St) (clock room : Int) (nv : Value) (wr : World) (S TT : Nat → Prop) : Prop where make ::
  fs : FsAt wr f S st clock room
  own : ∀ k, S k → B ≤ k ∧ k ≠ wasb
  wf : Wf st clock room
  was : TBox wasb nv clock room wr
  tree : TreeAt wr nv st TT
  apart : ∀ k, TT k → k < wr.heap.size ∧ ¬ S k ∧ B ≤ k
  below : Below w.heap.size w wr
theorem FsAt.lt {w : World} {f : Nat} {S : Nat → Prop} {st : St} {clock room : Int} (h : FsAt w f S st clock room) : ∀ k, S k → k < w.heap.size := by
  obtain ⟨mb, N, h⟩ := h
  exact h.lt
/-- Behind a call. -/
theorem RState.call {w wr w1 w2 : World} {f wasb B : Nat} {st : St} {clock room : Int} {nv : Value} {S TT : Nat → Prop} {r : Res} {e : Ending} (h : RState w f wasb B st clock room nv wr S TT) (hw : w.heap.size ≤ B) (h1 : Below wr.heap.size wr w1) (hp : OpPost w1 f S room r e w2) :
    ∃ S', FsAt w2 f S' r.2.1 r.2.2 room ∧ (∀ k, S' k → B ≤ k ∧ k ≠ wasb) ∧ TBox wasb nv clock room w2 ∧ TreeAt w2 nv st TT ∧ (∀ k, TT k → k < w2.heap.size ∧ ¬ S' k) ∧ Below w.heap.size w w2 ∧ (∀ k, S' k → S k ∨ wr.heap.size ≤ k) ∧ (∀ k, k < wr.heap.size → ¬ S k → w2.heap[k]? = wr.heap[k]?) ∧ wr.heap.size ≤ w2.heap.size := by
  obtain ⟨-, S', hF, hS, hK⟩ := hp
  have z1 := h1.size
  have z2 := hK.size
  have hwl := heap_lt h.was
  have hbz := h.below.size
  have hno : ¬ S wasb := fun e => (h.own _ e).2 rfl
  have far : ∀ k, k < wr.heap.size → ¬ S k → w2.heap[k]? = wr.heap[k]? := fun k hk hn => (hK.block k (by omega) hn).trans (h1.block k hk)
  refine ⟨S', hF, fun k hk => ?_, (far _ hwl hno).trans h.was, h.tree.of_heap (fun k hk => far k (h.apart k hk).1 (h.apart k hk).2.1) (fun _ h => h), fun k hk => ⟨by have := (h.apart k hk).1; omega, fun e => ?_⟩, ⟨(hK.os.trans h1.os).trans h.below.os, (hK.tape.trans h1.tape).trans h.below.tape, (hK.output.trans h1.output).trans h.below.output, by omega, fun k hk => (far k (by omega) (fun e => by have := (h.own k e).1; omega)).trans (h.below.block k hk)⟩, fun k hk => (hS k hk).imp id (fun h => by omega), far, by omega⟩
  · rcases hS k hk with h' | h'
    · exact h.own k h'
    · exact ⟨by have := (h.own f (by obtain ⟨mb, N, hf⟩ := h.fs; exact hf.sf)).1; have := h.fs.lt f (by obtain ⟨mb, N, hf⟩ := h.fs; exact hf.sf); omega, by omega⟩
  · have h3 := h.apart k hk
    rcases hS k e with h' | h'
    · exact h3.2.1 h'
    · omega
/-- Behind a round: the new tree stands in the box. -/
theorem RState.round {w wr wx w10 : World} {f wasb B : Nat} {st' : St} {ck ck' room : Int} {nv na2 : Value} {S' TT2 : Nat → Prop} (hF : FsAt wx f S' st' ck' room) (hown : ∀ k, S' k → B ≤ k ∧ k ≠ wasb) (hwf : Wf st' ck' room) (hwas : TBox wasb nv ck room wx) (hx : wr.heap.size ≤ wx.heap.size) (hwl : wasb < wr.heap.size) (hwB : B ≤ wr.heap.size) (hww : w.heap.size ≤ wasb)
    (hbx : Below w.heap.size w wx) (h10 : Below wx.heap.size wx w10) (ht : TreeAt w10 na2 st' TT2) (hT2 : ∀ k, TT2 k → wx.heap.size ≤ k ∧ k < w10.heap.size) :
    RState w f wasb B st' ck' room na2 (((w10.setCell ⟨wasb, 0, none⟩ na2).setCell ⟨wasb, 1, none⟩ (.int .i64 ck')).setCell ⟨wasb, 2, none⟩ (.int .i64 room)) S' TT2 := by
  have z := h10.size
  have hsz : (((w10.setCell ⟨wasb, 0, none⟩ na2).setCell ⟨wasb, 1, none⟩ (.int .i64 ck')).setCell ⟨wasb, 2, none⟩ (.int .i64 room)).heap.size = w10.heap.size := by simp
  have far : ∀ k, k ≠ wasb → (((w10.setCell ⟨wasb, 0, none⟩ na2).setCell ⟨wasb, 1, none⟩ (.int .i64 ck')).setCell ⟨wasb, 2, none⟩ (.int .i64 room)).heap[k]? = w10.heap[k]? := fun k hk => by
    rw [Below.heap_setCell _ _ _ _ (by simpa using hk), Below.heap_setCell _ _ _ _ (by simpa using hk), Below.heap_setCell _ _ _ _ (by simpa using hk)]
  have hlt := hF.lt
  refine ⟨?_, hown, hwf, ?_, ht.of_heap (fun k hk => far k (by have := hT2 k hk; omega)) (fun _ h => h), fun k hk => ⟨by have := hT2 k hk; omega, fun e => ?_, by have := hT2 k hk; omega⟩, ?_⟩
  · obtain ⟨mb, N, hFi⟩ := hF
    exact ⟨mb, N, hFi.of_heap (fun k hk => (far k (hown k hk).2).trans (h10.block k (hlt k hk)))⟩
  · have h1 : w10.heap[wasb]? = some (.cells #[nv, .int .i64 ck, .int .i64 room] 24 (0, 0)) := (h10.block wasb (by omega)).trans hwas
    have := set_heap (set_heap (set_heap h1 0 na2) 1 (.int .i64 ck')) 2 (.int .i64 room)
    simpa [TBox] using this
  · have := hT2 k hk
    have := hlt k e
    omega
  · have hb10 : Below w.heap.size w w10 := hbx.trans (h10.mono (by have := hbx.size; omega))
    exact ((hb10.setCell (p := ⟨wasb, 0, none⟩) hww na2).setCell (p := ⟨wasb, 1, none⟩) hww _).setCell (p := ⟨wasb, 2, none⟩) hww _
section
variable {l : St} {os : List OpD} {clock room : Int} {nv ov : Value} {T To : Nat → Prop} {w : World}
set_option maxRecDepth 100000 in
set_option maxHeartbeats 16000000 in
theorem rightlaw_calls (ht : TreeAt w nv l T) (hT : ∀ k, T k → k < w.heap.size) (hp : ∀ x ∈ l, x.1.length ≤ 140737488355328 ∧ x.2.data.length ≤ 140737488355328) (hl : l.length ≤ 4398046511104)
    (ho : OpsAt w ov os To) (hTo : ∀ k, To k → k < w.heap.size) (hop : ∀ x ∈ os, x.p.length ≤ 140737488355328 ∧ x.q.length ≤ 140737488355328 ∧ x.b.length ≤ 140737488355328) (hol : os.length ≤ 4398046511104) (hlw : Laid w) :
    Calls Tryz.prog 4 #[.agg #[nv, .int .i64 clock, .int .i64 room], ov] w fun e w' => e = .returned (.bool true) ∧ Below w.heap.size w w' := by
  have kB1 := Lib.hid (show BoxT w (w.alloc (.cells #[nv, .int .i64 clock, .int .i64 room] 24 (0, 0))) nv clock room from ⟨heap_alloc_new _ _, below_al (Below.refl _ _)⟩)
  have hA := Lib.hid alive_calls
  have kat := Lib.hid (fun (W : World) (h : BoxT w W nv clock room) => ht.of_heap (w' := W) (T' := T) (fun j hj => h.2.block j (hT j hj)) (fun _ h => h))
  have kTl := Lib.hid (fun (W : World) (h : BoxT w W nv clock room) (j : Nat) (hj : T j) => Nat.lt_of_lt_of_le (hT j hj) h.2.size)
  have kot := Lib.hid (fun (W : World) (h : Below w.heap.size w W) => ho.of_heap (w' := W) (T' := To) (fun j hj => h.block j (hTo j hj)) (fun _ h => h))
  have kTo := Lib.hid hTo
  have hBig := Lib.hid (fun (W : World) (h : BoxT w W nv clock room) => big_calls (clock := clock) (room := room) (kat.out W h) (kTl.out W h) hp hl)
  have hMuch := Lib.hid (fun (W : World) (h : BoxT w W nv clock room) => much_calls (kot.out W h.2) (fun k hk => Nat.lt_of_lt_of_le (hTo k hk) h.2.size) hop hol)
  obtain ⟨ta, tc, hnv⟩ := ht.form
  subst hnv
  obtain ⟨oa, oc, hov⟩ := ho.form
  subst hov
  have klw := Lib.hid hlw
  have hl0 := hlw.lt
  clear ht hT hp ho hTo hlw
  cases hm : muchB os with
  | true =>
    rw [hm] at hMuch
    clear hm
    go_enter Tryz.func4, Tryz.ntmps4
    go_wp2_with (first
      | (go_at_call 6; refine (hA.out _).mono ?_; rintro e w2 ⟨rfl, hb2⟩; have kB2 := Lib.hid (kB1.out.below hb2); obtain ⟨c0, c1, c2⟩ := kB2.out.cell; have cl := heap_lt kB2.out.1; clear hb2)
      | (go_at_call 16; refine (hMuch.out _ kB2.out).mono ?_; rintro e w3 ⟨rfl, hb3⟩; have kB3 := Lib.hid (kB2.out.below hb3); clear c0 c1 c2 cl hb3; obtain ⟨c0, c1, c2⟩ := kB3.out.cell; have cl := heap_lt kB3.out.1))
    go_ret
    exact ⟨rfl, kB3.out.2⟩
  | false =>
  obtain ⟨hto, hoc⟩ := muchB_not hm
  rw [hm] at hMuch
  clear hm hol
  go_enter Tryz.func4, Tryz.ntmps4
  go_upto_region 3 with (first
    | (go_at_call 6; refine (hA.out _).mono ?_; rintro e w2 ⟨rfl, hb2⟩; have kB2 := Lib.hid (kB1.out.below hb2); obtain ⟨c0, c1, c2⟩ := kB2.out.cell; have cl := heap_lt kB2.out.1; clear hb2)
    | (go_at_call 16; refine (hMuch.out _ kB2.out).mono ?_; rintro e w3 ⟨rfl, hb3⟩; have kB3 := Lib.hid (kB2.out.below hb3); clear c0 c1 c2 cl hb3; obtain ⟨c0, c1, c2⟩ := kB3.out.cell; have cl := heap_lt kB3.out.1)
    | (go_at_call 7; refine (hBig.out _ kB3.out).mono ?_; rintro e w4 ⟨b, rfl, hbt, hb4⟩; have kbt := Lib.hid hbt; have kB4 := Lib.hid (kB3.out.below hb4); clear c0 c1 c2 cl hbt hb4; obtain ⟨c0, c1, c2⟩ := kB4.out.cell; have cl := heap_lt kB4.out.1))
  cases b with
  | true =>
    go_wp2
    go_ret
    exact ⟨rfl, kB4.out.2⟩
  | false =>
  by_cases g1 : 549755813888 < clock
  · go_wp2
    go_ret
    exact ⟨rfl, kB4.out.2⟩
  obtain ⟨hts, hls⟩ := kbt.out rfl
  have kwt := Lib.hid (wt_small hts hls)
  have kp := Lib.hid (fun (x : Bs × PN) (hx : x ∈ l) => (show x.1.length ≤ 2147483647 by have := totB_mem hx; omega))
  have kd := Lib.hid (fun (x : Bs × PN) (hx : x ∈ l) => (show x.2.data.length ≤ 1099511627776 by have := totB_mem hx; omega))
  clear hts kbt hA hBig hMuch kB1
  have hz4 := kB4.out.2.size
  have hbw4 := heap_lt kB4.out.1
  by_cases h0 : rightP l clock room = 0
  · have hNew := Lib.hid (new_ok (clock := clock) (room := room) (kat.out _ kB4.out) (kTl.out _ kB4.out) kp.out kd.out h0)
    have kWf := Lib.hid (wf_of_right h0)
    clear h0
    go_upto_region 9 with (first
      | (go_at_call 9; refine hNew.out.mono ?_; rintro e w5 ⟨f, mb, N, S0, rfl, hF5, hS5, hb5⟩; have kF5 := Lib.hid hF5; have kS5 := Lib.hid hS5; have kb5 := Lib.hid hb5; clear hF5 hS5 hb5 c0 c1 c2 cl)
      | (go_at_call 12; refine (num_calls _ _).mono ?_; rintro e w0 ⟨rfl, rfl⟩)
      | (go_at_call 14; refine (tree_calls kF5.out kwt.out).mono ?_; rintro e w6 ⟨nv1, L1, rfl, hL1, hN1, hb6⟩; obtain ⟨na, nc, hnf⟩ := hN1.form; subst hnf; have kL1 := Lib.hid hL1; have kN1 := Lib.hid hN1; have kb6 := Lib.hid hb6; clear hL1 hN1 hb6))
    have kR0 := Lib.hid (show RState w f w6.heap.size w4.heap.size l clock room (.slice na L1.length nc) (w6.alloc (.cells #[.slice na L1.length nc, .int .i64 clock, .int .i64 room] 24)) S0 (fun j => w5.heap.size ≤ j ∧ j < w6.heap.size) from by
      have hb7 := below_al (o := .cells #[.slice na L1.length nc, .int .i64 clock, .int .i64 room] 24) (Below.refl w6.heap.size w6)
      have z5 := kb5.out.size
      have z6 := kb6.out.size
      have hz7 : (w6.alloc (.cells #[.slice na L1.length nc, .int .i64 clock, .int .i64 room] 24)).heap.size = w6.heap.size + 1 := by simp
      have htr : TreeAt w6 (.slice na L1.length nc) l (fun j => w5.heap.size ≤ j ∧ j < w6.heap.size) := by have := kN1.out.tree; rwa [kL1.out] at this
      refine ⟨⟨mb, N, (kF5.out.below kb6.out).below hb7⟩, fun k hk => ⟨kS5.out k hk, by have := kF5.out.lt k hk; omega⟩, kWf.out, heap_alloc_new _ _, htr.of_heap (fun k hk => hb7.block k hk.2) (fun _ h => h), fun k hk => ⟨by have := hk.2; omega, fun e => by have := kF5.out.lt k e; have := hk.1; omega, by have := hk.1; omega⟩, (kB4.out.2.trans (kb5.out.mono hz4)).trans ((kb6.out.trans (hb7.mono z6)).mono (by omega))⟩)
    have hz6 := kb6.out.size
    have hz5 := kb5.out.size
    clear hNew kwt kL1 kN1
    generalize w6.alloc (.cells #[.slice na L1.length nc, .int .i64 clock, .int .i64 room] 24) = w7 at *
    have hBB : w.heap.size < w4.heap.size := hbw4
    go_wp2_with fail
    go_loopw [10, 11, 12, 13, 14] (fun iv _ _ _ _ wr => ∃ (i : Nat) (st : St) (ck : Int) (nv1 : Value) (S TT : Nat → Prop), i ≤ os.length ∧ iv = .int .i64 i ∧ ck ≤ clock + i ∧ RState w f w6.heap.size w4.heap.size st ck room nv1 wr S TT) (fun iv _ _ _ _ _ => os.length - (intOf iv).toNat)
    case atStart => exact ⟨0, l, clock, _, S0, _, Nat.zero_le _, rfl, by omega, kR0.out⟩
    case round =>
      obtain ⟨i, st, ck, nv1, S, TT, hi, rfl, hck, hR⟩ := hrel
      have kR := Lib.hid hR
      obtain ⟨na1, nc1, hnf1⟩ := hR.tree.form
      subst hnf1
      clear hR
      by_cases hlt : i < os.length
      · obtain ⟨x, hx⟩ : ∃ x, os[i]? = some x := ⟨_, List.getElem?_eq_getElem hlt⟩
        obtain ⟨b, off, dv, hta, hTb, hbl, hc0, hc1, hc2, hc3, hdv⟩ := (kot.out wr kR.out.below).at hx
        obtain ⟨da, dc, hdf⟩ := hdv.form
        subst hta hdf
        have hxs := totO_mem (List.mem_of_getElem? hx)
        have kdv := Lib.hid hdv
        clear hdv hx hTb
        have kX1 := Lib.hid (heap_alloc_new wr (.cells #[.int .i64 x.kind, .string (mk x.p), .string (mk x.q), .slice da x.b.length dc] 43))
        have kW1 := Lib.hid (below_al (o := .cells #[.int .i64 x.kind, .string (mk x.p), .string (mk x.q), .slice da x.b.length dc] 43) (Below.refl wr.heap.size wr))
        go_upto_block 2 with fail
        generalize wr.alloc (.cells #[.int .i64 x.kind, .string (mk x.p), .string (mk x.q), .slice da x.b.length dc] 43) = w1 at *
        obtain ⟨o0, o1, o2, o3, -⟩ := cells4 kX1.out
        have ol := heap_lt kX1.out
        have hwr := kR.out.below.size
        have hck1 := kR.out.wf.clk
        clear hc0 hc1 hc2 hc3
        go_cut [12] from 47 to 135 (fun g wx => g = .int .i64 (opRes st ck room x).1 ∧ OpPost w1 f S room (opRes st ck room x) (.returned g) wx)
        case first =>
          obtain ⟨mb1, N1, hF0⟩ := kR.out.fs
          have hF1 := hF0.below kW1.out
          have hlw1 : Laid w1 := klw.out.below hl0 (kR.out.below.trans (kW1.out.mono hwr))
          have hbs := kdv.out.of_heap (w' := w1) (fun j hj => kW1.out.block j (by have := kTo.out j hj; omega)) (fun _ h => h)
          have hTb : ∀ k, To k → ¬ S k ∧ k < w1.heap.size := fun k hk => ⟨fun e => by have := (kR.out.own k e).1; have := kTo.out k hk; omega, by have := kTo.out k hk; omega⟩
          clear hF0
          rcases tmod6 x.kind with h | h | h | h | h | h | h
          · have kres := Lib.hid (show opRes st ck room x = writeRes st ck room (clean x.p) x.b false by unfold opRes; rw [if_pos h])
            have hOp := Lib.hid (write_all (add := false) (p := mk x.p) hF1 kR.out.wf (by rw [mk_size]; omega) (by rw [mk_list]) hbs hTb (by omega) hlw1)
            go_wp2_with (go_at_call 17; refine hOp.out.mono ?_; intro e wx hP; obtain rfl := hP.1; have kP := Lib.hid hP; clear hP)
            go_meet
            case rel => exact ⟨by rw [kres.out], by rw [kres.out]; exact kP.out⟩
          · have kres := Lib.hid (show opRes st ck room x = writeRes st ck room (clean x.p) x.b true by unfold opRes; rw [if_neg (by omega)]; rw [if_pos h])
            have hOp := Lib.hid (write_all (add := true) (p := mk x.p) hF1 kR.out.wf (by rw [mk_size]; omega) (by rw [mk_list]) hbs hTb (by omega) hlw1)
            go_wp2_with (go_at_call 17; refine hOp.out.mono ?_; intro e wx hP; obtain rfl := hP.1; have kP := Lib.hid hP; clear hP)
            go_meet
            case rel => exact ⟨by rw [kres.out], by rw [kres.out]; exact kP.out⟩
          · have kres := Lib.hid (show opRes st ck room x = mkdirRes st ck room (clean x.p) by unfold opRes; rw [if_neg (by omega)]; rw [if_neg (by omega)]; rw [if_pos h])
            have hOp := Lib.hid (mkdir_all (p := mk x.p) hF1 kR.out.wf (by rw [mk_size]; omega) (by rw [mk_list]) hlw1)
            go_wp2_with (go_at_call 18; refine hOp.out.mono ?_; intro e wx hP; obtain rfl := hP.1; have kP := Lib.hid hP; clear hP)
            go_meet
            case rel => exact ⟨by rw [kres.out], by rw [kres.out]; exact kP.out⟩
          · have kres := Lib.hid (show opRes st ck room x = removeRes st ck (clean x.p) by unfold opRes; rw [if_neg (by omega)]; rw [if_neg (by omega)]; rw [if_neg (by omega)]; rw [if_pos h])
            have hOp := Lib.hid (remove_all (p := mk x.p) hF1 kR.out.wf (by rw [mk_size]; omega) (by rw [mk_list]) hlw1)
            go_wp2_with (go_at_call 19; refine hOp.out.mono ?_; intro e wx hP; obtain rfl := hP.1; have kP := Lib.hid hP; clear hP)
            go_meet
            case rel => exact ⟨by rw [kres.out], by rw [kres.out]; exact kP.out⟩
          · have kres := Lib.hid (show opRes st ck room x = renameRes st ck (clean x.p) (clean x.q) by unfold opRes; rw [if_neg (by omega)]; rw [if_neg (by omega)]; rw [if_neg (by omega)]; rw [if_neg (by omega)]; rw [if_pos h])
            have hOp := Lib.hid (rename_all (p := mk x.p) (p2 := mk x.q) hF1 kR.out.wf (by rw [mk_size]; omega) (by rw [mk_list]) (by rw [mk_size]; omega) (by rw [mk_list]) hlw1)
            go_wp2_with (go_at_call 20; refine hOp.out.mono ?_; intro e wx hP; obtain rfl := hP.1; have kP := Lib.hid hP; clear hP)
            go_meet
            case rel => exact ⟨by rw [kres.out], by rw [kres.out]; exact kP.out⟩
          · have kres := Lib.hid (show opRes st ck room x = touchRes st ck room (clean x.p) by unfold opRes; rw [if_neg (by omega)]; rw [if_neg (by omega)]; rw [if_neg (by omega)]; rw [if_neg (by omega)]; rw [if_neg (by omega)])
            have hOp := Lib.hid (touch_all (p := mk x.p) hF1 kR.out.wf (by rw [mk_size]; omega) (by rw [mk_list]) hlw1)
            go_wp2_with (go_at_call 21; refine hOp.out.mono ?_; intro e wx hP; obtain rfl := hP.1; have kP := Lib.hid hP; clear hP)
            go_meet
            case rel => exact ⟨by rw [kres.out], by rw [kres.out]; exact kP.out⟩
          · have kres := Lib.hid (show opRes st ck room x = touchRes st ck room (clean x.p) by unfold opRes; rw [if_neg (by omega)]; rw [if_neg (by omega)]; rw [if_neg (by omega)]; rw [if_neg (by omega)]; rw [if_neg (by omega)])
            have n0 : (x.kind.tmod 6 == 0) = false := by rw [beq_eq_false_iff_ne]; omega
            have n1 : (x.kind.tmod 6 == 1) = false := by rw [beq_eq_false_iff_ne]; omega
            have n2 : (x.kind.tmod 6 == 2) = false := by rw [beq_eq_false_iff_ne]; omega
            have n3 : (x.kind.tmod 6 == 3) = false := by rw [beq_eq_false_iff_ne]; omega
            have n4 : (x.kind.tmod 6 == 4) = false := by rw [beq_eq_false_iff_ne]; omega
            have hOp := Lib.hid (touch_all (p := mk x.p) hF1 kR.out.wf (by rw [mk_size]; omega) (by rw [mk_list]) hlw1)
            go_wp2_with (go_at_call 21; refine hOp.out.mono ?_; intro e wx hP; obtain rfl := hP.1; have kP := Lib.hid hP; clear hP)
            go_meet
            case rel => exact ⟨by rw [kres.out], by rw [kres.out]; exact kP.out⟩
        case rest =>
          obtain ⟨rfl, hP⟩ := hcut
          have hst := opRes_step st ck room x
          have hcall := kR.out.call (by omega) kW1.out hP
          generalize opRes st ck room x = r at *
          obtain ⟨c, st', ck'⟩ := r
          obtain ⟨S', hF, hown, hwas, htr, hap, hbx, -, -, hsz⟩ := hcall
          dsimp only at hF htr
          have kst := Lib.hid hst
          have hwf := hst.wf kR.out.wf (by omega)
          dsimp only at hwf
          have kwf := Lib.hid hwf
          have kF := Lib.hid hF
          obtain ⟨mb', N', hFi⟩ := hF
          have kFi := Lib.hid hFi
          have kown := Lib.hid hown
          have kwas := Lib.hid hwas
          have ktr := Lib.hid htr
          have kap := Lib.hid hap
          have kbx := Lib.hid hbx
          have hwl := heap_lt kR.out.was
          clear hst hwf hFi hown hwas htr hap hbx hP o0 o1 o2 o3 ol kX1 kdv
          have kwt2 := Lib.hid (show wt st' ≤ 1099511627775 by have h1 := kwf.out.wt; have h2 := kwf.out.rm; omega)
          go_upto_region 26 with (go_at_call 14; refine (tree_calls kFi.out kwt2.out).mono ?_; rintro e w8 ⟨nv2, L2, rfl, hL2, hN2, hb8⟩; obtain ⟨na2, nc2, hnf2⟩ := hN2.form; subst hnf2; have kL2 := Lib.hid hL2; have kN2 := Lib.hid hN2; have kb8 := Lib.hid hb8; clear hL2 hN2 hb8)
          have ktr2 := Lib.hid (show TreeAt w8 (.slice na2 L2.length nc2) st' (fun j => wc.heap.size ≤ j ∧ j < w8.heap.size) by have := kN2.out.tree; rwa [kL2.out] at this)
          have kt9 := Lib.hid (show TBox w8.heap.size (.slice na2 L2.length nc2) ck' room (w8.alloc (.cells #[.slice na2 L2.length nc2, .int .i64 ck', .int .i64 room] 24)) from heap_alloc_new _ _)
          have kb9 := Lib.hid (below_al (o := .cells #[.slice na2 L2.length nc2, .int .i64 ck', .int .i64 room] 24) (Below.refl w8.heap.size w8))
          have hz9 : (w8.alloc (.cells #[.slice na2 L2.length nc2, .int .i64 ck', .int .i64 room] 24)).heap.size = w8.heap.size + 1 := by simp
          generalize w8.alloc (.cells #[.slice na2 L2.length nc2, .int .i64 ck', .int .i64 room] 24) = w9 at *
          have hz8 := kb8.out.size
          have kb89 := Lib.hid (kb8.out.trans (kb9.out.mono hz8))
          have kwas9 := Lib.hid (TBox.on kwas.out kb89.out)
          obtain ⟨c0, c1, c2⟩ := TBox.cell kwas9.out
          have cl := heap_lt kwas9.out
          obtain ⟨f0, f1, f2⟩ := TBox.cell kt9.out
          have fl := heap_lt kt9.out
          have hll : st.length ≤ 1099511627775 := by have := kR.out.wf.len; omega
          have hSm := Lib.hid (same_calls (c1 := ck) (c2 := ck') (r1 := room) (r2 := room) (w := w9) (T1 := TT) (T2 := fun j => wc.heap.size ≤ j ∧ j < w8.heap.size) (ktr.out.of_heap (fun j hj => kb89.out.block j (kap.out j hj).1) (fun _ h => h)) (ktr2.out.of_heap (fun j hj => kb9.out.block j hj.2) (fun _ h => h)) (fun j hj => by have := (kap.out j hj).1; omega) (fun j hj => by have := hj.2; omega) hll)
          go_upto_region 27 with (go_at_call 15; refine hSm.out.mono ?_; rintro e w10 ⟨rfl, hb10⟩; have kb10 := Lib.hid hb10; clear hb10 c0 c1 c2 cl f0 f1 f2 fl)
          have kwas10 := Lib.hid (TBox.on kwas9.out kb10.out)
          have kt10 := Lib.hid (TBox.on kt9.out kb10.out)
          obtain ⟨c0, c1, c2, cf⟩ := cells3 kwas10.out
          have cf0 := cf 0
          have cf1 := cf 1
          have cf2 := cf 2
          have cl := heap_lt kwas10.out
          obtain ⟨f0, f1, f2⟩ := TBox.cell kt10.out
          have fl := heap_lt kt10.out
          have hz10 := kb10.out.size
          have kb810 := Lib.hid (kb89.out.trans (kb10.out.mono (by omega)))
          have kround := Lib.hid (RState.round kF.out kown.out kwf.out kwas.out (show wr.heap.size ≤ wc.heap.size by omega) hwl (show w4.heap.size ≤ wr.heap.size by have := (kR.out.own f (by obtain ⟨mb9, N9, hf9⟩ := kR.out.fs; exact hf9.sf)).1; have := kR.out.fs.lt f (by obtain ⟨mb9, N9, hf9⟩ := kR.out.fs; exact hf9.sf); omega) (show w.heap.size ≤ w6.heap.size by omega) kbx.out kb810.out (ktr2.out.of_heap (w' := w10) (T' := fun j => wc.heap.size ≤ j ∧ j < w8.heap.size) (fun j hj => (kb10.out.block j (by have := hj.2; omega)).trans (kb9.out.block j hj.2)) (fun _ h => h)) (fun k hk => ⟨hk.1, by have := hk.2; omega⟩))
          have hck2 := kwf.out.clk
          clear cf kL2 kN2 hSm hll
          rcases kst.out.clk with hk | hk
          · dsimp only at hk
            subst hk
            have hs : st' = st := kst.out.same rfl
            have hsm : sameT st st' ck' room ck' room = true := by rw [hs]; unfold sameT; rw [sameL_refl]; simp
            rw [hsm]
            by_cases hc0 : c = 0
            · subst hc0
              go_wp2_with (go_at_call 12; refine (num_calls _ _).mono ?_; rintro e w0 ⟨rfl, rfl⟩)
              exact ⟨⟨i + 1, st', ck', _, S', _, by omega, by go_num, by omega, kround.out⟩, by simp [intOf]; omega⟩
            · have hc1 : (c == 0) = false := by rw [beq_eq_false_iff_ne]; exact hc0
              have hc2 : (c != 0) = true := by rw [bne, hc1]; rfl
              go_wp2_with (go_at_call 12; refine (num_calls _ _).mono ?_; rintro e w0 ⟨rfl, rfl⟩)
              exact ⟨⟨i + 1, st', ck', _, S', _, by omega, by go_num, by omega, kround.out⟩, by simp [intOf]; omega⟩
          · dsimp only at hk
            have hc0 : c = 0 := Classical.byContradiction fun h => by have := (kst.out.err h).2; dsimp only at this; omega
            subst hc0
            subst hk
            have hke : (ck + 1 == ck) = false := by rw [beq_eq_false_iff_ne]; omega
            generalize sameT st st' ck room (ck + 1) room = sm at *
            go_wp2_with (go_at_call 12; refine (num_calls _ _).mono ?_; rintro e w0 ⟨rfl, rfl⟩)
            exact ⟨⟨i + 1, st', ck + 1, _, S', _, by omega, by go_num, by omega, kround.out⟩, by simp [intOf]; omega⟩
      · have hil : i = os.length := by omega
        have hNw := Lib.hid (new_ok (clock := ck) (room := room) kR.out.tree (fun k hk => (kR.out.apart k hk).1) (fun y hy => by have := valid_len (kR.out.wf.node y.1 y.2 (kR.out.wf.mem hy)).1; omega) (fun y hy => by have := find_len kR.out.wf.rising (kR.out.wf.mem hy); have := (wf_small kR.out.wf).1; omega) kR.out.wf.right)
        obtain ⟨c0, c1, c2⟩ := TBox.cell kR.out.was
        have cl := heap_lt kR.out.was
        go_wp2_with (first
          | (go_at_call 9; refine hNw.out.mono ?_; rintro e w5 ⟨f2, mb2, N2, S2, rfl, -, -, hb5⟩; have kb9 := Lib.hid hb5; clear hb5 c0 c1 c2 cl)
          | (go_at_call 12; refine (num_calls _ _).mono ?_; rintro e w0 ⟨rfl, rfl⟩))
        go_ret
        exact ⟨rfl, kR.out.below.trans (kb9.out.mono kR.out.below.size)⟩
  · have hNew := Lib.hid (new_bad (clock := clock) (room := room) (kat.out _ kB4.out) (kTl.out _ kB4.out) kp.out kd.out h0)
    have hr0 : (rightP l clock room == 0) = false := by rw [beq_eq_false_iff_ne]; exact h0
    have hr1 : (rightP l clock room != 0) = true := by rw [bne, hr0]; rfl
    generalize rightP l clock room = r at *
    go_wp2_with (first
      | (go_at_call 9; refine hNew.out.mono ?_; rintro e w5 ⟨rfl, hb5⟩; have kb5 := Lib.hid hb5; clear hb5 c0 c1 c2 cl)
      | (go_at_call 12; refine (num_calls _ _).mono ?_; rintro e w0 ⟨rfl, rfl⟩))
    go_ret
    exact ⟨rfl, kB4.out.2.trans (kb5.out.mono hz4)⟩
end
end Go.Proofs.YtejofgdglpmlkaaGreatDoor
