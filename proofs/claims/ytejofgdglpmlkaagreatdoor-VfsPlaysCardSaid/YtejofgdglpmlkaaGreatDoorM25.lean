/-
  The reference's Write at a file (behind what it has). Conditions: a tree that is right, texts of at most 2^31 bytes, at most 2^40 bytes to write.
  The reference's Write and Touch at every path. Conditions: a tree that is right, texts of at most 2^31 bytes, at most 2^40 bytes to write.
-/
import Derived.Test.YtejofgdglpmlkaaGreatDoorM24
namespace Go.Proofs.YtejofgdglpmlkaaGreatDoor
open Go.RowKit

section
variable {w w' w1 : World} {fb : Nat} {fv fv' : Value} {L L' : List NV} {R R' Tb : Nat → Prop} {l l' : St} {clock clock' room : Int} {p : ByteArray} {q bb : Bs} {n : PN} {bv : Value} {add : Bool}
set_option maxRecDepth 100000 in
set_option maxHeartbeats 8000000 in
theorem refWrite_add (h : RefIn w fb fv L R l clock room) (hw : Wf l clock room) (hp : p.size ≤ 2147483647) (hq : clean p.data.toList = q) (hr : lookQ l q = .node n) (hnd : n.dir = false) (hb : BytesAt w bv bb Tb) (hT : ∀ k, Tb k → k < w.heap.size) (hbl : bb.length ≤ 1099511627776) :
    Calls Tryz.prog 41 #[.pointer (some ⟨fb, 0, none⟩), .string p, bv, .bool true] w fun e w' => RefPost w fb R room (writeTail l clock room q n.data bb 0 (bb.length : Int)) e w' := by
  have kl := Lib.hid (reflook_calls h hw.rising hw.len p hp)
  rw [hq] at kl
  clear hq
  obtain ⟨ba, bc, rfl⟩ := hb.form
  have kbv := Lib.hid hb
  have kTb := Lib.hid hT
  have kh := Lib.hid h
  have kr := Lib.hid hr
  have kw := Lib.hid hw
  have hsum := wf_sum hw
  have hclk := hw.clk
  have hll := hw.len
  have hrm := hw.rm
  have hfw := heap_lt h.hc
  have hwc : IntKind.i64.wrap (clock + 1) = clock + 1 := IntWalk.i64_in _ (by omega)
  obtain ⟨j, hj, hj0, hj1⟩ := find_get (lookQ_find.2 n hr)
  obtain ⟨g, c, x, rfl, hx, hxn, -⟩ := h.node hj
  obtain ⟨y1, ⟨yd, yt, ydat⟩, y3⟩ := x
  obtain ⟨rfl, rfl⟩ : y1 = q ∧ n = ⟨yd, yt, ydat⟩ := by injection hxn with e1 e2; exact ⟨e1, e2.symm⟩
  obtain rfl : yd = false := hnd
  obtain ⟨da, dc, hda⟩ := (h.data _ (List.mem_of_getElem? hx)).form
  replace hda : y3 = .slice da ydat.length dc := hda
  subst hda
  have hdl : ydat.length ≤ 65536 := (hw.node y1 _ (lookQ_find.2 _ hr)).2.2.2.2.1 rfl
  have kj := Lib.hid hj
  have kx := Lib.hid hx
  have hj2 := nat_ne2 j
  have hj3 : ¬ ((j : Int) < 0) := by omega
  clear h hw hr hb hT hj hx hxn
  go_enter Tryz.func41, Tryz.ntmps41
  have hws : IntKind.i64.wrap ((ydat.length : Int) + (bb.length : Int) - (ydat.length : Int)) = (bb.length : Int) := by rw [IntWalk.i64_in _ (by omega)]; omega
  have hww : IntKind.i64.wrap ((l.length : Int) + (bytesOf l : Int) + (bb.length : Int)) = (l.length : Int) + (bytesOf l : Int) + (bb.length : Int) := IntWalk.i64_in _ (by omega)
  have hfit := Lib.hid (fits_zero l room (bb.length : Int) (by omega))
  by_cases g0 : 65536 < ydat.length + bb.length
  · have kf := Lib.hid (show writeTail l clock room y1 ydat bb 0 (bb.length : Int) = (2, l, clock) by unfold writeTail; rw [if_pos (by simpa using g0)])
    have z0 : (65536 : Int) < (ydat.length : Int) + (bb.length : Int) := by omega
    clear g0 hfit
    go_wp2_with (first | (go_at_call 63; refine (kl.out).mono ?_; rintro e w1 ⟨k, y, rfl, hl, hb⟩; have kb := Lib.hid hb; obtain ⟨j', rfl, rfl, hj', -, -⟩ := rlook_node kr.out hl; obtain rfl := st_index kw.out.rising kj.out hj'; clear hj'; clear hl hb; have kh1 := Lib.hid (kh.out.below kb.out); obtain ⟨f0, f1, f2, ff⟩ := cells3 kh1.out.hc; have hfl := heap_lt kh1.out.hc; have kbb := Lib.hid (kbv.out.of_heap (fun j hj => kb.out.block j (kTb.out j hj)) (fun _ h => h)); obtain ⟨g', c', x', e, hx', -, hgl, -, hgc⟩ := kh1.out.node kj.out; injection e with e1 e2 e3; injection e1 with e1; injection e1 with e1; subst e1 e3; rw [kx.out] at hx'; injection hx' with hx'; subst hx'; have hgc1 := hgc 1 _ (by omega) rfl; have hgc3 := hgc 3 _ (by omega) rfl; have kda := Lib.hid (kh1.out.data _ (List.mem_of_getElem? kx.out))) | (at_builtin; refine wpList_append_bytes _ rfl _ _ rfl w1.heap.size (.slice none 0 0) [] rfl (World.ownsRow_nil _ _ _ _) (.slice da ydat.length dc) ydat _ rfl kda.out (by simp; omega) (Nat.le_refl _) ?_; intro a5 c5 w5 ho5 hg5; rw [List.nil_append] at ho5; have k5 := Lib.hid ho5; have kB5 := Lib.hid (below_none kb.out (v := .slice none 0 0) hg5 (fun k e => by cases e)); have kbb5 := Lib.hid (kbb.out.of_heap (fun j hj => hg5.block j (by have := kTb.out j hj; have := kb.out.size; omega) (fun e => by cases e)) (fun _ h => h)); have hz5 := hg5.size; clear ho5 hg5) | (at_builtin; refine wpList_append_bytes _ rfl _ _ rfl w1.heap.size (.slice a5 ydat.length c5) ydat rfl k5.out (.slice ba bb.length bc) bb Tb rfl kbb5.out (by omega) hz5 ?_; intro a6 c6 w6 ho6 hg6; have k6 := Lib.hid ho6; have kB6 := Lib.hid (below_none kB5.out hg6 (fun k e => by have := (k5.out.lt k e).1; have := kb.out.size; omega)); clear ho6 hg6))
    go_ret
    exact RefPost.same (r := writeTail l clock room y1 ydat bb 0 (bb.length : Int)) kh.out kf.out rfl kB6.out
  · have z0 : ¬ (65536 : Int) < (ydat.length : Int) + (bb.length : Int) := by omega
    have kl0 := Lib.hid (show ¬ 65536 < (ydat : Bs).length + bb.length by simpa using g0)
    clear g0
    by_cases g2 : room < (l.length : Int) + (bytesOf l : Int) + (bb.length : Int)
    · have kf := Lib.hid (show writeTail l clock room y1 ydat bb 0 (bb.length : Int) = (15, l, clock) by unfold writeTail; rw [if_neg kl0.out, if_pos (hfit.out.2 g2)])
      clear hfit
      go_upto_region 20 with (first | (go_at_call 63; refine (kl.out).mono ?_; rintro e w1 ⟨k, y, rfl, hl, hb⟩; have kb := Lib.hid hb; obtain ⟨j', rfl, rfl, hj', -, -⟩ := rlook_node kr.out hl; obtain rfl := st_index kw.out.rising kj.out hj'; clear hj'; clear hl hb; have kh1 := Lib.hid (kh.out.below kb.out); obtain ⟨f0, f1, f2, ff⟩ := cells3 kh1.out.hc; have hfl := heap_lt kh1.out.hc; have kbb := Lib.hid (kbv.out.of_heap (fun j hj => kb.out.block j (kTb.out j hj)) (fun _ h => h)); obtain ⟨g', c', x', e, hx', -, hgl, -, hgc⟩ := kh1.out.node kj.out; injection e with e1 e2 e3; injection e1 with e1; injection e1 with e1; subst e1 e3; rw [kx.out] at hx'; injection hx' with hx'; subst hx'; have hgc1 := hgc 1 _ (by omega) rfl; have hgc3 := hgc 3 _ (by omega) rfl; have kda := Lib.hid (kh1.out.data _ (List.mem_of_getElem? kx.out))) | (at_builtin; refine wpList_append_bytes _ rfl _ _ rfl w1.heap.size (.slice none 0 0) [] rfl (World.ownsRow_nil _ _ _ _) (.slice da ydat.length dc) ydat _ rfl kda.out (by simp; omega) (Nat.le_refl _) ?_; intro a5 c5 w5 ho5 hg5; rw [List.nil_append] at ho5; have k5 := Lib.hid ho5; have kB5 := Lib.hid (below_none kb.out (v := .slice none 0 0) hg5 (fun k e => by cases e)); have kbb5 := Lib.hid (kbb.out.of_heap (fun j hj => hg5.block j (by have := kTb.out j hj; have := kb.out.size; omega) (fun e => by cases e)) (fun _ h => h)); have hz5 := hg5.size; clear ho5 hg5) | (at_builtin; refine wpList_append_bytes _ rfl _ _ rfl w1.heap.size (.slice a5 ydat.length c5) ydat rfl k5.out (.slice ba bb.length bc) bb Tb rfl kbb5.out (by omega) hz5 ?_; intro a6 c6 w6 ho6 hg6; have k6 := Lib.hid ho6; have kB6 := Lib.hid (below_none kB5.out hg6 (fun k e => by have := (k5.out.lt k e).1; have := kb.out.size; omega)); clear ho6 hg6))
      have kP := Lib.hid (kh.out.plus kB6.out)
      clear f0 f1 f2 ff hfl
      clear hgc hgc1 hgc3 hgl
      obtain ⟨f0, f1, f2, ff⟩ := cells3 kP.out.hc
      have ff1 := ff 1
      have hfl := heap_lt kP.out.hc
      clear ff
      have hWq := Lib.hid (fun (m : Nat) => (show Calls Tryz.prog 32 #[.slice (some ⟨g, 0, none⟩) l.length c] (w6.drewN m) fun e w' => e = .returned (.int .i64 ((l.length : Int) + (bytesOf l : Int))) ∧ w' = w6.drewN m from (refweight_calls' rfl (kP.out.tree.of_heap (w' := w6.drewN m) (fun j hj => rfl) (fun _ h => h)) (by omega) (wf_data kw.out)).mono (fun e w' hh => ⟨hh.1, hh.2.symm⟩)))
      go_wp2_with fail
      have hd3 : decide ((j : Int) < 0) = false := decide_eq_false (by omega)
      go_quiet ((go_at_call 32; exact Calls.quiet_of_same (hWq.out _)))
      go_wp2
      go_ret
      exact RefPost.same (r := writeTail l clock room y1 ydat bb 0 (bb.length : Int)) kh.out kf.out rfl (below_drewN' kB6.out _)
    · have kf := Lib.hid (show writeTail l clock room y1 ydat bb 0 (bb.length : Int) = (0, putSt l y1 ⟨false, clock + 1, ydat ++ bb⟩, clock + 1) by unfold writeTail; rw [if_neg kl0.out, if_neg (fun e => g2 (hfit.out.1 e))])
      clear hfit
      go_upto_region 20 with (first | (go_at_call 63; refine (kl.out).mono ?_; rintro e w1 ⟨k, y, rfl, hl, hb⟩; have kb := Lib.hid hb; obtain ⟨j', rfl, rfl, hj', -, -⟩ := rlook_node kr.out hl; obtain rfl := st_index kw.out.rising kj.out hj'; clear hj'; clear hl hb; have kh1 := Lib.hid (kh.out.below kb.out); obtain ⟨f0, f1, f2, ff⟩ := cells3 kh1.out.hc; have hfl := heap_lt kh1.out.hc; have kbb := Lib.hid (kbv.out.of_heap (fun j hj => kb.out.block j (kTb.out j hj)) (fun _ h => h)); obtain ⟨g', c', x', e, hx', -, hgl, -, hgc⟩ := kh1.out.node kj.out; injection e with e1 e2 e3; injection e1 with e1; injection e1 with e1; subst e1 e3; rw [kx.out] at hx'; injection hx' with hx'; subst hx'; have hgc1 := hgc 1 _ (by omega) rfl; have hgc3 := hgc 3 _ (by omega) rfl; have kda := Lib.hid (kh1.out.data _ (List.mem_of_getElem? kx.out))) | (at_builtin; refine wpList_append_bytes _ rfl _ _ rfl w1.heap.size (.slice none 0 0) [] rfl (World.ownsRow_nil _ _ _ _) (.slice da ydat.length dc) ydat _ rfl kda.out (by simp; omega) (Nat.le_refl _) ?_; intro a5 c5 w5 ho5 hg5; rw [List.nil_append] at ho5; have k5 := Lib.hid ho5; have kB5 := Lib.hid (below_none kb.out (v := .slice none 0 0) hg5 (fun k e => by cases e)); have kbb5 := Lib.hid (kbb.out.of_heap (fun j hj => hg5.block j (by have := kTb.out j hj; have := kb.out.size; omega) (fun e => by cases e)) (fun _ h => h)); have hz5 := hg5.size; clear ho5 hg5) | (at_builtin; refine wpList_append_bytes _ rfl _ _ rfl w1.heap.size (.slice a5 ydat.length c5) ydat rfl k5.out (.slice ba bb.length bc) bb Tb rfl kbb5.out (by omega) hz5 ?_; intro a6 c6 w6 ho6 hg6; have k6 := Lib.hid ho6; have kB6 := Lib.hid (below_none kB5.out hg6 (fun k e => by have := (k5.out.lt k e).1; have := kb.out.size; omega)); clear ho6 hg6))
      have kP := Lib.hid (kh.out.plus kB6.out)
      clear f0 f1 f2 ff hfl
      clear hgc hgc1 hgc3 hgl
      obtain ⟨f0, f1, f2, ff⟩ := cells3 kP.out.hc
      have ff1 := ff 1
      have hfl := heap_lt kP.out.hc
      clear ff
      have hWq := Lib.hid (fun (m : Nat) => (show Calls Tryz.prog 32 #[.slice (some ⟨g, 0, none⟩) l.length c] (w6.drewN m) fun e w' => e = .returned (.int .i64 ((l.length : Int) + (bytesOf l : Int))) ∧ w' = w6.drewN m from (refweight_calls' rfl (kP.out.tree.of_heap (w' := w6.drewN m) (fun j hj => rfl) (fun _ h => h)) (by omega) (wf_data kw.out)).mono (fun e w' hh => ⟨hh.1, hh.2.symm⟩)))
      go_wp2_with fail
      have hd3 : decide ((j : Int) < 0) = false := decide_eq_false (by omega)
      go_quiet ((go_at_call 32; exact Calls.quiet_of_same (hWq.out _)))
      have kt := Lib.hid (fun m => kP.out.ticked m (clock + 1))
      go_upto_region 25 with (fail)
      have kt9 := Lib.hid (kt.out nq)
      have kd9 := Lib.hid ((bytes_own k6.out).of_heap (w' := (w6.drewN nq).setCell ⟨fb, 1, none⟩ (.int .i64 (clock + 1))) (S' := fun k => Plus R w.heap.size w6.heap.size k ∧ k ≠ fb ∧ (Value.slice (some ⟨g, 0, none⟩) l.length c).ownBlock ≠ some k) (fun k hk => (set_grown (w6.drewN nq) fb 1 (.int .i64 (clock + 1))).block k hk.2 (fun e => by injection e with e; have := kb.out.size; omega)) (fun k hk => ⟨Or.inr ⟨Nat.le_trans kb.out.size hk.1, hk.2⟩, (by have := kb.out.size; omega), fun e => by have := kh1.out.lt k (kh1.out.own k e).1; omega⟩))
      clear f0 f1 f2 ff1 hfl kt
      generalize ((w6.drewN nq).setCell ⟨fb, 1, none⟩ (.int .i64 (clock + 1))) = W0 at *
      obtain ⟨f0, f1, f2, -⟩ := cells3 kt9.out.1.hc
      have hfl := heap_lt kt9.out.1.hc
      obtain ⟨g', c', x', e, hx', -, hgl, hgf, hgc⟩ := kt9.out.1.node kj.out
      injection e with e1 e2 e3; injection e1 with e1; injection e1 with e1
      subst e1 e3
      rw [kx.out] at hx'; injection hx' with hx'; subst hx'
      have hg3 := hgf (j * 4 + 3)
      have hgc3 := hgc 3 _ (by omega) rfl
      have kq := Lib.hid (RefIn.store3 kt9.out.1 kx.out (a := a6) (m := (ydat.length + bb.length)) (c' := c6) (by first | exact kd9.out | (have := kd9.out; rwa [List.length_append] at this)))
      go_upto_region 26 with (fail)
      clear f0 f1 f2 hfl hgl hgf hgc hg3 hgc3 kd9
      generalize W0.setCell ⟨g, j * 4 + 3, none⟩ (.slice a6 (ydat.length + bb.length) c6) = W at *
      obtain ⟨f0, f1, f2, -⟩ := cells3 kq.out.1.hc
      have hfl := heap_lt kq.out.1.hc
      have hjL := (List.getElem?_eq_some_iff.1 kx.out).1
      have hjl := (List.getElem?_eq_some_iff.1 kj.out).1
      have kxs := Lib.hid (List.getElem?_set_self (a := NV.make y1 ⟨false, yt, (ydat ++ bb)⟩ (.slice a6 (ydat.length + bb.length) c6)) hjL)
      obtain ⟨g', c', x', e, hx', -, hgl, hgf, hgc⟩ := kq.out.1.node (List.getElem?_set_self (a := (y1, (⟨false, yt, (ydat ++ bb)⟩ : PN))) hjl)
      rw [List.length_set] at e
      injection e with e1 e2 e3; injection e1 with e1; injection e1 with e1
      subst e1 e3
      rw [kxs.out] at hx'; injection hx' with hx'; subst hx'
      have hg2 := hgf (j * 4 + 2)
      have hgc2 := hgc 2 _ (by omega) rfl
      have kD := Lib.hid (fun m => RefIn.store2 (t := clock + 1) (kq.out.1.below (below_drewN' (Below.refl W.heap.size W) m)) kxs.out)
      go_region
      go_wp2_with fail
      go_ret
      have hd := (kD.out 1).1
      simp only [List.set_set] at hd
      rw [← put_set kw.out.rising kj.out] at hd
      exact RefPost.grow kB6.out hd ((kt9.out.2.trans kq.out.2 (fun k h => Or.inl h)).trans (Below.kept (below_drewN' (Below.refl W.heap.size W) 1) (kD.out 1).2) (fun k h => Or.inl h)) kf.out
end
end Go.Proofs.YtejofgdglpmlkaaGreatDoor
namespace Go.Proofs.YtejofgdglpmlkaaGreatDoor
open Go.RowKit

section
variable {w w' w1 : World} {fb : Nat} {fv fv' : Value} {L L' : List NV} {R R' Tb : Nat → Prop} {l l' : St} {clock clock' room : Int} {p : ByteArray} {q bb : Bs} {n : PN} {bv : Value} {add : Bool}
theorem RefPost.after {r : Int × St × Int} {e : Ending} (h : RefPost w1 fb R room r e w') (hb : Below w.heap.size w w1) : RefPost w fb R room r e w' := by
  obtain ⟨h1, ⟨fv, L, h2⟩, h3⟩ := h
  exact ⟨h1, ⟨fv, L, h2.mono (fun k hk => hk.imp id (fun h => ⟨Nat.le_trans hb.size h.1, h.2⟩)) (fun k hk => hk.elim (fun h => h2.lt k (Or.inl h)) (fun h => h.2))⟩, Below.kept hb h3⟩
set_option maxRecDepth 100000 in
set_option maxHeartbeats 4000000 in
theorem refWrite_few (h : RefIn w fb fv L R l clock room) (hw : Wf l clock room) (hp : p.size ≤ 2147483647) (hq : clean p.data.toList = q) (hb : BytesAt w bv bb Tb) (hr : lookQ l q ≠ .none) (hn : ∀ n, lookQ l q = .node n → n.dir = true) :
    Calls Tryz.prog 41 #[.pointer (some ⟨fb, 0, none⟩), .string p, bv, .bool add] w fun e w' => RefPost w fb R room (writeRes l clock room q bb add) e w' := by
  have kl := Lib.hid (reflook_calls h hw.rising hw.len p hp)
  rw [hq] at kl
  clear hq
  obtain ⟨ba, bc, rfl⟩ := hb.form
  have kh := Lib.hid h
  have kw := Lib.hid hw
  have hll := hw.len
  have hfw := heap_lt h.hc
  clear hb
  unfold writeRes
  cases hr2 : lookQ l q with
  | none => exact absurd hr2 hr
  | root =>
    have kr := Lib.hid hr2
    clear h hw hr hn hr2
    go_enter Tryz.func41, Tryz.ntmps41
    go_wp2_with (go_at_call 63; refine (kl.out).mono ?_; rintro e w1 ⟨k, x, rfl, hl, hb⟩; have kb := Lib.hid hb; obtain ⟨rfl, rfl⟩ := rlook_root kr.out hl; clear hl hb)
    go_ret
    exact RefPost.same kh.out rfl rfl kb.out
  | err c =>
    have kr := Lib.hid hr2
    clear h hw hr hn hr2
    go_enter Tryz.func41, Tryz.ntmps41
    go_wp2_with (go_at_call 63; refine (kl.out).mono ?_; rintro e w1 ⟨k, x, rfl, hl, hb⟩; have kb := Lib.hid hb; obtain ⟨rfl, rfl, hc⟩ := rlook_err kr.out hl; obtain ⟨hc0, hc1⟩ := err_nz hc; clear hl hb hc)
    go_ret
    exact RefPost.same kh.out rfl rfl kb.out
  | node n =>
    have kr := Lib.hid hr2
    have hnd := hn n hr2
    have kf := Lib.hid (show (if n.dir = true then ((12, l, clock) : Res) else if add = true then writeTail l clock room q n.data bb 0 (bb.length : Int) else writeTail l clock room q [] bb 0 ((bb.length : Int) - n.data.length)) = (12, l, clock) from if_pos hnd)
    obtain ⟨j, hj, hj0, hj1⟩ := find_get (lookQ_find.2 n hr2)
    obtain ⟨g, c, x, rfl, hx, hxn, -⟩ := h.node hj
    obtain ⟨y1, ⟨yd, yt, ydat⟩, y3⟩ := x
    obtain ⟨rfl, rfl⟩ : y1 = q ∧ n = ⟨yd, yt, ydat⟩ := by injection hxn with e1 e2; exact ⟨e1, e2.symm⟩
    obtain rfl : yd = true := hnd
    have kj := Lib.hid hj
    have kx := Lib.hid hx
    have hj2 := nat_ne2 j
    have hj3 : ¬ ((j : Int) < 0) := by omega
    clear h hw hr hn hr2 hj hx hxn
    go_enter Tryz.func41, Tryz.ntmps41
    go_wp2_with (go_at_call 63; refine (kl.out).mono ?_; rintro e w1 ⟨k, y, rfl, hl, hb⟩; have kb := Lib.hid hb; obtain ⟨j', rfl, rfl, hj', -, -⟩ := rlook_node kr.out hl; obtain rfl := st_index kw.out.rising kj.out hj'; clear hl hb hj'; have kh1 := Lib.hid (kh.out.below kb.out); obtain ⟨f0, f1, f2, ff⟩ := cells3 kh1.out.hc; have hfl := heap_lt kh1.out.hc; obtain ⟨g', c', x', e, hx', -, hgl, -, hgc⟩ := kh1.out.node kj.out; injection e with e1 e2 e3; injection e1 with e1; injection e1 with e1; subst e1 e3; rw [kx.out] at hx'; injection hx' with hx'; subst hx'; have hgc1 := hgc 1 _ (by omega) rfl)
    go_ret
    exact RefPost.same kh.out kf.out rfl kb.out
theorem refWrite_calls (h : RefIn w fb fv L R l clock room) (hw : Wf l clock room) (hp : p.size ≤ 2147483647) (hq : clean p.data.toList = q) (hb : BytesAt w bv bb Tb) (hT : ∀ k, Tb k → k < w.heap.size) (hbl : bb.length ≤ 1099511627776) :
    Calls Tryz.prog 41 #[.pointer (some ⟨fb, 0, none⟩), .string p, bv, .bool add] w fun e w' => RefPost w fb R room (writeRes l clock room q bb add) e w' := by
  cases hr : lookQ l q with
  | root => exact refWrite_few h hw hp hq hb (by rw [hr]; exact LookR.noConfusion) (fun n e => by rw [hr] at e; cases e)
  | err c => exact refWrite_few h hw hp hq hb (by rw [hr]; exact LookR.noConfusion) (fun n e => by rw [hr] at e; cases e)
  | none =>
    have h1 : writeRes l clock room q bb add = writeTail l clock room q [] bb 1 bb.length := by unfold writeRes; rw [hr]
    rw [h1]
    exact refWrite_none h hw hp hq hr hb hT hbl
  | node n =>
    cases hd : n.dir with
    | true => exact refWrite_few h hw hp hq hb (by rw [hr]; exact LookR.noConfusion) (fun m e => by rw [hr] at e; cases e; exact hd)
    | false =>
      cases add with
      | true =>
        have h1 : writeRes l clock room q bb true = writeTail l clock room q n.data bb 0 (bb.length : Int) := by unfold writeRes; rw [hr]; simp [hd]
        rw [h1]
        exact refWrite_add h hw hp hq hr hd hb hT hbl
      | false =>
        have h1 : writeRes l clock room q bb false = writeTail l clock room q [] bb 0 ((bb.length : Int) - n.data.length) := by unfold writeRes; rw [hr]; simp [hd]
        rw [h1]
        exact refWrite_over h hw hp hq hr hd hb hT hbl
set_option maxRecDepth 100000 in
set_option maxHeartbeats 4000000 in
theorem refTouch_calls (h : RefIn w fb fv L R l clock room) (hw : Wf l clock room) (hp : p.size ≤ 2147483647) (hq : clean p.data.toList = q) :
    Calls Tryz.prog 45 #[.pointer (some ⟨fb, 0, none⟩), .string p] w fun e w' => RefPost w fb R room (touchRes l clock room q) e w' := by
  cases hr : lookQ l q with
  | node n =>
    have h1 : touchRes l clock room q = touchP l clock q n := by unfold touchRes; rw [hr]
    rw [h1]
    exact refTouch_node h hw hp hq hr
  | root =>
    have h1 : touchRes l clock room q = (0, l, clock) := by unfold touchRes; rw [hr]
    rw [h1]
    have kl := Lib.hid (reflook_calls h hw.rising hw.len p hp)
    rw [hq] at kl
    have kh := Lib.hid h
    have kr := Lib.hid hr
    clear hq h hw hr h1
    go_enter Tryz.func45, Tryz.ntmps45
    go_wp2_with (go_at_call 63; refine (kl.out).mono ?_; rintro e w1 ⟨k, x, rfl, hl, hb⟩; have kb := Lib.hid hb; obtain ⟨rfl, rfl⟩ := rlook_root kr.out hl; clear hl hb)
    go_ret
    exact RefPost.same kh.out rfl rfl kb.out
  | err c =>
    have h1 : touchRes l clock room q = (c, l, clock) := by unfold touchRes; rw [hr]
    rw [h1]
    have kl := Lib.hid (reflook_calls h hw.rising hw.len p hp)
    rw [hq] at kl
    have kh := Lib.hid h
    have kr := Lib.hid hr
    clear hq h hw hr h1
    go_enter Tryz.func45, Tryz.ntmps45
    go_wp2_with (go_at_call 63; refine (kl.out).mono ?_; rintro e w1 ⟨k, x, rfl, hl, hb⟩; have kb := Lib.hid hb; obtain ⟨rfl, rfl, hc⟩ := rlook_err kr.out hl; obtain ⟨hc0, hc1⟩ := err_nz hc; clear hl hb hc)
    go_ret
    exact RefPost.same kh.out rfl rfl kb.out
  | none =>
    have h1 : touchRes l clock room q = writeTail l clock room q [] [] 1 0 := by
      unfold touchRes; rw [hr]
      show newP l clock room q false = writeTail l clock room q [] [] 1 0
      unfold newP writeTail
      rw [if_neg (show ¬ 65536 < ([] : Bs).length + ([] : Bs).length by simp)]
      rfl
    rw [h1]
    have kl := Lib.hid (reflook_calls h hw.rising hw.len p hp)
    rw [hq] at kl
    have kh := Lib.hid h
    have kr := Lib.hid hr
    have kw := Lib.hid hw
    have kW := Lib.hid (fun (w1 : World) (h1 : RefIn w1 fb fv L R l clock room) => refWrite_none (add := false) h1 hw hp hq hr (BytesAt.nil w1 (fun _ => False)) (fun k hk => hk.elim) (by simp))
    clear hq h hw hr h1
    go_enter Tryz.func45, Tryz.ntmps45
    go_wp2_with (first | (go_at_call 63; refine (kl.out).mono ?_; rintro e w1 ⟨k, x, rfl, hl, hb⟩; have kb := Lib.hid hb; obtain ⟨rfl, rfl⟩ := rlook_none kr.out hl; clear hl hb) | (go_at_call 41; refine (kW.out _ (kh.out.below kb.out)).mono ?_; rintro e w2 h2; have k2 := Lib.hid h2; obtain ⟨rfl, -⟩ := h2))
    go_ret
    exact k2.out.after kb.out
end
end Go.Proofs.YtejofgdglpmlkaaGreatDoor
