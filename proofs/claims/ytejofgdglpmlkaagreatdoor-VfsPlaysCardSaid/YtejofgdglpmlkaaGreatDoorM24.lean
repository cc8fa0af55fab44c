/-
  The reference's Write. Conditions: a tree that is right, texts of at most 2^31 bytes, at most 2^40 bytes to write.
  The reference's Write at a file (over it). Conditions: a tree that is right, texts of at most 2^31 bytes, at most 2^40 bytes to write.
-/
import Derived.Test.YtejofgdglpmlkaaGreatDoorM23
namespace Go.Proofs.YtejofgdglpmlkaaGreatDoor
open Go.RowKit

theorem fits_zero (l : St) (room m : Int) (hl : l.length ≤ 1000) : fitsB l room 0 m = false ↔ room < (l.length : Int) + (bytesOf l : Int) + m := by
  unfold fitsB wt
  rw [Bool.and_eq_false_iff, decide_eq_false_iff_not, decide_eq_false_iff_not]
  omega
theorem fits_more (l : St) (room m : Int) : fitsB l room 1 m = false ↔ 1000 ≤ l.length ∨ room < (l.length : Int) + (bytesOf l : Int) + (m + 1) := by
  unfold fitsB wt
  rw [Bool.and_eq_false_iff, decide_eq_false_iff_not, decide_eq_false_iff_not]
  omega
section
variable {w w' w1 : World} {fb : Nat} {fv fv' : Value} {L L' : List NV} {R R' Tb : Nat → Prop} {l l' : St} {clock clock' room : Int} {p : ByteArray} {q bb : Bs} {n : PN} {bv : Value} {add : Bool}
theorem RefIn.store3 {g n c j : Nat} {nd : PN} {dv0 : Value} {a : Option Addr} {m c' : Nat} {dat : Bs} (h : RefIn w fb (.slice (some ⟨g, 0, none⟩) n c) L R l clock room) (hx : L[j]? = some (NV.make q nd dv0))
    (hd : BytesAt w (.slice a m c') dat (fun k => R k ∧ k ≠ fb ∧ (Value.slice (some ⟨g, 0, none⟩) n c).ownBlock ≠ some k)) :
    RefIn (w.setCell ⟨g, j * 4 + 3, none⟩ (.slice a m c')) fb (.slice (some ⟨g, 0, none⟩) n c) (L.set j (NV.make q ⟨nd.dir, nd.time, dat⟩ (.slice a m c'))) R (l.set j (q, ⟨nd.dir, nd.time, dat⟩)) clock room ∧ Kept R w (w.setCell ⟨g, j * 4 + 3, none⟩ (.slice a m c')) :=
  h.cell hx (by omega) rfl hd
theorem RefIn.store2 {g n c j : Nat} {nd : PN} {dv0 : Value} {t : Int} (h : RefIn w fb (.slice (some ⟨g, 0, none⟩) n c) L R l clock room) (hx : L[j]? = some (NV.make q nd dv0)) :
    RefIn (w.setCell ⟨g, j * 4 + 2, none⟩ (.int .i64 t)) fb (.slice (some ⟨g, 0, none⟩) n c) (L.set j (NV.make q ⟨nd.dir, t, nd.data⟩ dv0)) R (l.set j (q, ⟨nd.dir, t, nd.data⟩)) clock room ∧ Kept R w (w.setCell ⟨g, j * 4 + 2, none⟩ (.int .i64 t)) :=
  h.cell hx (by omega) rfl (by have := h.data _ (List.mem_of_getElem? hx); exact this)
theorem below_none {w w1 w6 : World} {v : Value} (h : Below w.heap.size w w1) (hg : w1.grownBy w6 v.ownBlock) (hv : ∀ k, v.ownBlock = some k → w.heap.size ≤ k) : Below w.heap.size w w6 :=
  h.trans ⟨hg.os, hg.tape, hg.output, hg.size, fun j hj => hg.block j (by have := h.size; omega) (fun e => by have := hv j e.symm; omega)⟩
theorem RefIn.plus (h : RefIn w fb fv L R l clock room) (hb : Below w.heap.size w w') : RefIn w' fb fv L (Plus R w.heap.size w'.heap.size) l clock room :=
  h.of_heap (fun k hk => hb.block k (h.lt k hk)) (fun k hk => Or.inl hk) (fun k hk => hk.elim (fun hk => Nat.lt_of_lt_of_le (h.lt k hk) hb.size) (fun hk => hk.2))
theorem RefPost.grow {r : Int × St × Int} {w2 : World} (hb : Below w.heap.size w w1) (h : RefIn w2 fb fv' L' (Plus R w.heap.size w1.heap.size) l' clock' room) (hk : Kept (Plus R w.heap.size w1.heap.size) w1 w2) (hr : r = (0, l', clock')) : RefPost w fb R room r (.returned (.int .i64 0)) w2 := by
  subst hr
  refine ⟨rfl, ⟨fv', L', h.mono (fun k hk2 => hk2.imp id (fun h2 => ⟨h2.1, Nat.lt_of_lt_of_le h2.2 hk.size⟩)) (fun k hk2 => hk2.elim (fun h2 => h.lt k (Or.inl h2)) (fun h2 => h2.2))⟩, (Kept.of_below hb).trans hk (fun k hk2 => hk2.imp id (fun h2 => h2.1))⟩
theorem RefPost.grow2 {r : Int × St × Int} {w2 w3 : World} (hb : Below w.heap.size w w1) (hk : Kept (Plus R w.heap.size w1.heap.size) w1 w2) (h : RefIn w3 fb fv' L' (Plus (Plus R w.heap.size w1.heap.size) w2.heap.size w3.heap.size) l' clock' room) (hk3 : Kept (Plus R w.heap.size w1.heap.size) w2 w3) (hr : r = (0, l', clock')) : RefPost w fb R room r (.returned (.int .i64 0)) w3 := by
  subst hr
  have z1 := hb.size
  have z2 := hk.size
  have z3 := hk3.size
  refine ⟨rfl, ⟨fv', L', h.mono (fun k hk2 => ?_) (fun k hk2 => hk2.elim (fun h2 => h.lt k (Or.inl (Or.inl h2))) (fun h2 => h2.2))⟩, (Kept.of_below hb).trans (hk.trans hk3 (fun k h => Or.inl h)) (fun k hk2 => hk2.imp id (fun h2 => h2.1))⟩
  rcases hk2 with (h2 | h2) | h2
  · exact Or.inl h2
  · exact Or.inr ⟨h2.1, by omega⟩
  · exact Or.inr ⟨by omega, h2.2⟩
set_option maxRecDepth 100000 in
set_option maxHeartbeats 8000000 in
theorem refWrite_none (h : RefIn w fb fv L R l clock room) (hw : Wf l clock room) (hp : p.size ≤ 2147483647) (hq : clean p.data.toList = q) (hr : lookQ l q = .none) (hb : BytesAt w bv bb Tb) (hT : ∀ k, Tb k → k < w.heap.size) (hbl : bb.length ≤ 1099511627776) :
    Calls Tryz.prog 41 #[.pointer (some ⟨fb, 0, none⟩), .string p, bv, .bool add] w fun e w' => RefPost w fb R room (writeTail l clock room q [] bb 1 (bb.length : Int)) e w' := by
  have kl := Lib.hid (reflook_calls h hw.rising hw.len p hp)
  rw [hq] at kl
  clear hq
  obtain ⟨ba, bc, rfl⟩ := hb.form
  have kbv := Lib.hid hb
  have kTb := Lib.hid hT
  have kh := Lib.hid h
  have kr := Lib.hid hr
  have kw := Lib.hid hw
  have hsum := wf_sum hw
  have hclk := hw.clk
  have hll := hw.len
  have hrm := hw.rm
  have hfw := heap_lt h.hc
  have hwc : IntKind.i64.wrap (clock + 1) = clock + 1 := IntWalk.i64_in _ (by omega)
  obtain ⟨fa, fc, hfv⟩ := h.form
  subst hfv
  clear h hw hr hb hT
  go_enter Tryz.func41, Tryz.ntmps41
  have hws : IntKind.i64.wrap ((bb.length : Int) + 1) = (bb.length : Int) + 1 := IntWalk.i64_in _ (by omega)
  have hww : IntKind.i64.wrap ((l.length : Int) + (bytesOf l : Int) + ((bb.length : Int) + 1)) = (l.length : Int) + (bytesOf l : Int) + ((bb.length : Int) + 1) := IntWalk.i64_in _ (by omega)
  have hfit := Lib.hid (fits_more l room (bb.length : Int))
  by_cases g0 : 65536 < bb.length
  · have kf := Lib.hid (show writeTail l clock room q [] bb 1 (bb.length : Int) = (2, l, clock) by unfold writeTail; rw [if_pos (by simpa using g0)])
    have z0 : (65536 : Int) < (bb.length : Int) := by omega
    clear g0 hfit
    go_wp2_with (first | (go_at_call 63; refine (kl.out).mono ?_; rintro e w1 ⟨k, y, rfl, hl, hb⟩; have kb := Lib.hid hb; obtain ⟨rfl, rfl⟩ := rlook_none kr.out hl; clear hl hb; have kh1 := Lib.hid (kh.out.below kb.out); obtain ⟨f0, f1, f2, ff⟩ := cells3 kh1.out.hc; have hfl := heap_lt kh1.out.hc; have kbb := Lib.hid (kbv.out.of_heap (fun j hj => kb.out.block j (kTb.out j hj)) (fun _ h => h))) | (at_builtin; refine wpList_append_bytes _ rfl _ _ rfl w1.heap.size (.slice none 0 0) [] rfl (World.ownsRow_nil _ _ _ _) (.slice ba bb.length bc) bb Tb rfl kbb.out (by simp; omega) (Nat.le_refl _) ?_; intro a6 c6 w6 ho6 hg6; rw [List.nil_append] at ho6; have k6 := Lib.hid ho6; have kB6 := Lib.hid (below_none kb.out (v := .slice none 0 0) hg6 (fun k e => by cases e)); clear ho6 hg6))
    go_ret
    exact RefPost.same (r := writeTail l clock room q [] bb 1 (bb.length : Int)) kh.out kf.out rfl kB6.out
  · have z0 : ¬ (65536 : Int) < (bb.length : Int) := by omega
    have kl0 := Lib.hid (show ¬ 65536 < ([] : Bs).length + bb.length by simpa using g0)
    clear g0
    by_cases g1 : 1000 ≤ l.length
    · have kf := Lib.hid (show writeTail l clock room q [] bb 1 (bb.length : Int) = (15, l, clock) by unfold writeTail; rw [if_neg kl0.out, if_pos (hfit.out.2 (Or.inl g1))])
      have z1 : (1000 : Int) ≤ (l.length : Int) := by omega
      clear g1 hfit
      go_upto_region 20 with (first | (go_at_call 63; refine (kl.out).mono ?_; rintro e w1 ⟨k, y, rfl, hl, hb⟩; have kb := Lib.hid hb; obtain ⟨rfl, rfl⟩ := rlook_none kr.out hl; clear hl hb; have kh1 := Lib.hid (kh.out.below kb.out); obtain ⟨f0, f1, f2, ff⟩ := cells3 kh1.out.hc; have hfl := heap_lt kh1.out.hc; have kbb := Lib.hid (kbv.out.of_heap (fun j hj => kb.out.block j (kTb.out j hj)) (fun _ h => h))) | (at_builtin; refine wpList_append_bytes _ rfl _ _ rfl w1.heap.size (.slice none 0 0) [] rfl (World.ownsRow_nil _ _ _ _) (.slice ba bb.length bc) bb Tb rfl kbb.out (by simp; omega) (Nat.le_refl _) ?_; intro a6 c6 w6 ho6 hg6; rw [List.nil_append] at ho6; have k6 := Lib.hid ho6; have kB6 := Lib.hid (below_none kb.out (v := .slice none 0 0) hg6 (fun k e => by cases e)); clear ho6 hg6))
      have kP := Lib.hid (kh.out.plus kB6.out)
      clear f0 f1 f2 ff hfl
      obtain ⟨f0, f1, f2, ff⟩ := cells3 kP.out.hc
      have ff1 := ff 1
      have hfl := heap_lt kP.out.hc
      clear ff
      have hWq := Lib.hid (fun (m : Nat) => (show Calls Tryz.prog 32 #[.slice fa l.length fc] (w6.drewN m) fun e w' => e = .returned (.int .i64 ((l.length : Int) + (bytesOf l : Int))) ∧ w' = w6.drewN m from (refweight_calls' rfl (kP.out.tree.of_heap (w' := w6.drewN m) (fun j hj => rfl) (fun _ h => h)) (by omega) (wf_data kw.out)).mono (fun e w' hh => ⟨hh.1, hh.2.symm⟩)))
      go_wp2_with fail
      go_quiet (fail)
      go_wp2
      go_ret
      exact RefPost.same (r := writeTail l clock room q [] bb 1 (bb.length : Int)) kh.out kf.out rfl (below_drewN' kB6.out _)
    have z1 : ¬ (1000 : Int) ≤ (l.length : Int) := by omega
    by_cases g2 : room < (l.length : Int) + (bytesOf l : Int) + ((bb.length : Int) + 1)
    · have kf := Lib.hid (show writeTail l clock room q [] bb 1 (bb.length : Int) = (15, l, clock) by unfold writeTail; rw [if_neg kl0.out, if_pos (hfit.out.2 (Or.inr g2))])
      clear g1 hfit
      go_upto_region 20 with (first | (go_at_call 63; refine (kl.out).mono ?_; rintro e w1 ⟨k, y, rfl, hl, hb⟩; have kb := Lib.hid hb; obtain ⟨rfl, rfl⟩ := rlook_none kr.out hl; clear hl hb; have kh1 := Lib.hid (kh.out.below kb.out); obtain ⟨f0, f1, f2, ff⟩ := cells3 kh1.out.hc; have hfl := heap_lt kh1.out.hc; have kbb := Lib.hid (kbv.out.of_heap (fun j hj => kb.out.block j (kTb.out j hj)) (fun _ h => h))) | (at_builtin; refine wpList_append_bytes _ rfl _ _ rfl w1.heap.size (.slice none 0 0) [] rfl (World.ownsRow_nil _ _ _ _) (.slice ba bb.length bc) bb Tb rfl kbb.out (by simp; omega) (Nat.le_refl _) ?_; intro a6 c6 w6 ho6 hg6; rw [List.nil_append] at ho6; have k6 := Lib.hid ho6; have kB6 := Lib.hid (below_none kb.out (v := .slice none 0 0) hg6 (fun k e => by cases e)); clear ho6 hg6))
      have kP := Lib.hid (kh.out.plus kB6.out)
      clear f0 f1 f2 ff hfl
      obtain ⟨f0, f1, f2, ff⟩ := cells3 kP.out.hc
      have ff1 := ff 1
      have hfl := heap_lt kP.out.hc
      clear ff
      have hWq := Lib.hid (fun (m : Nat) => (show Calls Tryz.prog 32 #[.slice fa l.length fc] (w6.drewN m) fun e w' => e = .returned (.int .i64 ((l.length : Int) + (bytesOf l : Int))) ∧ w' = w6.drewN m from (refweight_calls' rfl (kP.out.tree.of_heap (w' := w6.drewN m) (fun j hj => rfl) (fun _ h => h)) (by omega) (wf_data kw.out)).mono (fun e w' hh => ⟨hh.1, hh.2.symm⟩)))
      go_wp2_with fail
      go_quiet ((go_at_call 32; exact Calls.quiet_of_same (hWq.out _)))
      go_wp2
      go_ret
      exact RefPost.same (r := writeTail l clock room q [] bb 1 (bb.length : Int)) kh.out kf.out rfl (below_drewN' kB6.out _)
    · have kf := Lib.hid (show writeTail l clock room q [] bb 1 (bb.length : Int) = (0, putSt l q ⟨false, clock + 1, bb⟩, clock + 1) by unfold writeTail; rw [if_neg kl0.out, if_neg (fun e => by rcases hfit.out.1 e with h | h; exact g1 h; exact g2 h)]; rfl)
      clear g1 hfit
      go_upto_region 20 with (first | (go_at_call 63; refine (kl.out).mono ?_; rintro e w1 ⟨k, y, rfl, hl, hb⟩; have kb := Lib.hid hb; obtain ⟨rfl, rfl⟩ := rlook_none kr.out hl; clear hl hb; have kh1 := Lib.hid (kh.out.below kb.out); obtain ⟨f0, f1, f2, ff⟩ := cells3 kh1.out.hc; have hfl := heap_lt kh1.out.hc; have kbb := Lib.hid (kbv.out.of_heap (fun j hj => kb.out.block j (kTb.out j hj)) (fun _ h => h))) | (at_builtin; refine wpList_append_bytes _ rfl _ _ rfl w1.heap.size (.slice none 0 0) [] rfl (World.ownsRow_nil _ _ _ _) (.slice ba bb.length bc) bb Tb rfl kbb.out (by simp; omega) (Nat.le_refl _) ?_; intro a6 c6 w6 ho6 hg6; rw [List.nil_append] at ho6; have k6 := Lib.hid ho6; have kB6 := Lib.hid (below_none kb.out (v := .slice none 0 0) hg6 (fun k e => by cases e)); clear ho6 hg6))
      have kP := Lib.hid (kh.out.plus kB6.out)
      clear f0 f1 f2 ff hfl
      obtain ⟨f0, f1, f2, ff⟩ := cells3 kP.out.hc
      have ff1 := ff 1
      have hfl := heap_lt kP.out.hc
      clear ff
      have hWq := Lib.hid (fun (m : Nat) => (show Calls Tryz.prog 32 #[.slice fa l.length fc] (w6.drewN m) fun e w' => e = .returned (.int .i64 ((l.length : Int) + (bytesOf l : Int))) ∧ w' = w6.drewN m from (refweight_calls' rfl (kP.out.tree.of_heap (w' := w6.drewN m) (fun j hj => rfl) (fun _ h => h)) (by omega) (wf_data kw.out)).mono (fun e w' hh => ⟨hh.1, hh.2.symm⟩)))
      go_wp2_with fail
      go_quiet ((go_at_call 32; exact Calls.quiet_of_same (hWq.out _)))
      have kt := Lib.hid (fun m => kP.out.ticked m (clock + 1))
      have kdv := Lib.hid (fun m => (bytes_own k6.out).of_heap (w' := (w6.drewN m).setCell ⟨fb, 1, none⟩ (.int .i64 (clock + 1))) (S' := fun k => Plus R w.heap.size w6.heap.size k ∧ k ≠ fb ∧ (Value.slice fa l.length fc).ownBlock ≠ some k) (fun k hk => (set_grown (w6.drewN m) fb 1 (.int .i64 (clock + 1))).block k hk.2 (fun e => by injection e with e; have := kb.out.size; omega)) (fun k hk => ⟨Or.inr ⟨Nat.le_trans kb.out.size hk.1, hk.2⟩, (by have := kb.out.size; omega), fun e => by have := kh1.out.lt k (kh1.out.own k e).1; omega⟩))
      have kput := Lib.hid (fun m => refput_calls (p := q) (dat := bb) (d := false) (t := clock + 1) (kt.out m).1 kw.out.rising kw.out.len (lookQ_find.1 kr.out) (kdv.out m))
      go_wp2_with (go_at_call 64; refine (kput.out _).mono ?_; rintro e w7 ⟨rfl, fv', L', h2, hk2⟩; have kh2 := Lib.hid h2; have kk2 := Lib.hid hk2; clear h2 hk2)
      go_ret
      exact RefPost.grow2 kB6.out (kt.out _).2 kh2.out kk2.out kf.out
end
end Go.Proofs.YtejofgdglpmlkaaGreatDoor
namespace Go.Proofs.YtejofgdglpmlkaaGreatDoor
open Go.RowKit

section
variable {w w' w1 : World} {fb : Nat} {fv fv' : Value} {L L' : List NV} {R R' Tb : Nat → Prop} {l l' : St} {clock clock' room : Int} {p : ByteArray} {q bb : Bs} {n : PN} {bv : Value} {add : Bool}
set_option maxRecDepth 100000 in
set_option maxHeartbeats 8000000 in
theorem refWrite_over (h : RefIn w fb fv L R l clock room) (hw : Wf l clock room) (hp : p.size ≤ 2147483647) (hq : clean p.data.toList = q) (hr : lookQ l q = .node n) (hnd : n.dir = false) (hb : BytesAt w bv bb Tb) (hT : ∀ k, Tb k → k < w.heap.size) (hbl : bb.length ≤ 1099511627776) :
    Calls Tryz.prog 41 #[.pointer (some ⟨fb, 0, none⟩), .string p, bv, .bool false] w fun e w' => RefPost w fb R room (writeTail l clock room q [] bb 0 ((bb.length : Int) - n.data.length)) e w' := by
  have kl := Lib.hid (reflook_calls h hw.rising hw.len p hp)
  rw [hq] at kl
  clear hq
  obtain ⟨ba, bc, rfl⟩ := hb.form
  have kbv := Lib.hid hb
  have kTb := Lib.hid hT
  have kh := Lib.hid h
  have kr := Lib.hid hr
  have kw := Lib.hid hw
  have hsum := wf_sum hw
  have hclk := hw.clk
  have hll := hw.len
  have hrm := hw.rm
  have hfw := heap_lt h.hc
  have hwc : IntKind.i64.wrap (clock + 1) = clock + 1 := IntWalk.i64_in _ (by omega)
  obtain ⟨j, hj, hj0, hj1⟩ := find_get (lookQ_find.2 n hr)
  obtain ⟨g, c, x, rfl, hx, hxn, -⟩ := h.node hj
  obtain ⟨y1, ⟨yd, yt, ydat⟩, y3⟩ := x
  obtain ⟨rfl, rfl⟩ : y1 = q ∧ n = ⟨yd, yt, ydat⟩ := by injection hxn with e1 e2; exact ⟨e1, e2.symm⟩
  obtain rfl : yd = false := hnd
  obtain ⟨da, dc, hda⟩ := (h.data _ (List.mem_of_getElem? hx)).form
  replace hda : y3 = .slice da ydat.length dc := hda
  subst hda
  have hdl : ydat.length ≤ 65536 := (hw.node y1 _ (lookQ_find.2 _ hr)).2.2.2.2.1 rfl
  have kj := Lib.hid hj
  have kx := Lib.hid hx
  have hj2 := nat_ne2 j
  have hj3 : ¬ ((j : Int) < 0) := by omega
  clear h hw hr hb hT hj hx hxn
  go_enter Tryz.func41, Tryz.ntmps41
  have hws : IntKind.i64.wrap ((bb.length : Int) - (ydat.length : Int)) = (bb.length : Int) - (ydat.length : Int) := IntWalk.i64_in _ (by omega)
  have hww : IntKind.i64.wrap ((l.length : Int) + (bytesOf l : Int) + ((bb.length : Int) - (ydat.length : Int))) = (l.length : Int) + (bytesOf l : Int) + ((bb.length : Int) - (ydat.length : Int)) := IntWalk.i64_in _ (by omega)
  have hfit := Lib.hid (fits_zero l room ((bb.length : Int) - ydat.length) (by omega))
  by_cases g0 : 65536 < bb.length
  · have kf := Lib.hid (show writeTail l clock room y1 [] bb 0 ((bb.length : Int) - ydat.length) = (2, l, clock) by unfold writeTail; rw [if_pos (by simpa using g0)])
    have z0 : (65536 : Int) < (bb.length : Int) := by omega
    clear g0 hfit
    go_wp2_with (first | (go_at_call 63; refine (kl.out).mono ?_; rintro e w1 ⟨k, y, rfl, hl, hb⟩; have kb := Lib.hid hb; obtain ⟨j', rfl, rfl, hj', -, -⟩ := rlook_node kr.out hl; obtain rfl := st_index kw.out.rising kj.out hj'; clear hj'; clear hl hb; have kh1 := Lib.hid (kh.out.below kb.out); obtain ⟨f0, f1, f2, ff⟩ := cells3 kh1.out.hc; have hfl := heap_lt kh1.out.hc; have kbb := Lib.hid (kbv.out.of_heap (fun j hj => kb.out.block j (kTb.out j hj)) (fun _ h => h)); obtain ⟨g', c', x', e, hx', -, hgl, -, hgc⟩ := kh1.out.node kj.out; injection e with e1 e2 e3; injection e1 with e1; injection e1 with e1; subst e1 e3; rw [kx.out] at hx'; injection hx' with hx'; subst hx'; have hgc1 := hgc 1 _ (by omega) rfl; have hgc3 := hgc 3 _ (by omega) rfl; have kda := Lib.hid (kh1.out.data _ (List.mem_of_getElem? kx.out))) | (at_builtin; refine wpList_append_bytes _ rfl _ _ rfl w1.heap.size (.slice none 0 0) [] rfl (World.ownsRow_nil _ _ _ _) (.slice ba bb.length bc) bb Tb rfl kbb.out (by simp; omega) (Nat.le_refl _) ?_; intro a6 c6 w6 ho6 hg6; rw [List.nil_append] at ho6; have k6 := Lib.hid ho6; have kB6 := Lib.hid (below_none kb.out (v := .slice none 0 0) hg6 (fun k e => by cases e)); clear ho6 hg6))
    go_ret
    exact RefPost.same (r := writeTail l clock room y1 [] bb 0 ((bb.length : Int) - ydat.length)) kh.out kf.out rfl kB6.out
  · have z0 : ¬ (65536 : Int) < (bb.length : Int) := by omega
    have kl0 := Lib.hid (show ¬ 65536 < ([] : Bs).length + bb.length by simpa using g0)
    clear g0
    by_cases g2 : room < (l.length : Int) + (bytesOf l : Int) + ((bb.length : Int) - (ydat.length : Int))
    · have kf := Lib.hid (show writeTail l clock room y1 [] bb 0 ((bb.length : Int) - ydat.length) = (15, l, clock) by unfold writeTail; rw [if_neg kl0.out, if_pos (hfit.out.2 g2)])
      clear hfit
      go_upto_region 20 with (first | (go_at_call 63; refine (kl.out).mono ?_; rintro e w1 ⟨k, y, rfl, hl, hb⟩; have kb := Lib.hid hb; obtain ⟨j', rfl, rfl, hj', -, -⟩ := rlook_node kr.out hl; obtain rfl := st_index kw.out.rising kj.out hj'; clear hj'; clear hl hb; have kh1 := Lib.hid (kh.out.below kb.out); obtain ⟨f0, f1, f2, ff⟩ := cells3 kh1.out.hc; have hfl := heap_lt kh1.out.hc; have kbb := Lib.hid (kbv.out.of_heap (fun j hj => kb.out.block j (kTb.out j hj)) (fun _ h => h)); obtain ⟨g', c', x', e, hx', -, hgl, -, hgc⟩ := kh1.out.node kj.out; injection e with e1 e2 e3; injection e1 with e1; injection e1 with e1; subst e1 e3; rw [kx.out] at hx'; injection hx' with hx'; subst hx'; have hgc1 := hgc 1 _ (by omega) rfl; have hgc3 := hgc 3 _ (by omega) rfl; have kda := Lib.hid (kh1.out.data _ (List.mem_of_getElem? kx.out))) | (at_builtin; refine wpList_append_bytes _ rfl _ _ rfl w1.heap.size (.slice none 0 0) [] rfl (World.ownsRow_nil _ _ _ _) (.slice ba bb.length bc) bb Tb rfl kbb.out (by simp; omega) (Nat.le_refl _) ?_; intro a6 c6 w6 ho6 hg6; rw [List.nil_append] at ho6; have k6 := Lib.hid ho6; have kB6 := Lib.hid (below_none kb.out (v := .slice none 0 0) hg6 (fun k e => by cases e)); clear ho6 hg6))
      have kP := Lib.hid (kh.out.plus kB6.out)
      clear f0 f1 f2 ff hfl
      clear hgc hgc1 hgc3 hgl
      obtain ⟨f0, f1, f2, ff⟩ := cells3 kP.out.hc
      have ff1 := ff 1
      have hfl := heap_lt kP.out.hc
      clear ff
      have hWq := Lib.hid (fun (m : Nat) => (show Calls Tryz.prog 32 #[.slice (some ⟨g, 0, none⟩) l.length c] (w6.drewN m) fun e w' => e = .returned (.int .i64 ((l.length : Int) + (bytesOf l : Int))) ∧ w' = w6.drewN m from (refweight_calls' rfl (kP.out.tree.of_heap (w' := w6.drewN m) (fun j hj => rfl) (fun _ h => h)) (by omega) (wf_data kw.out)).mono (fun e w' hh => ⟨hh.1, hh.2.symm⟩)))
      go_wp2_with fail
      have hd3 : decide ((j : Int) < 0) = false := decide_eq_false (by omega)
      go_quiet ((go_at_call 32; exact Calls.quiet_of_same (hWq.out _)))
      go_wp2
      go_ret
      exact RefPost.same (r := writeTail l clock room y1 [] bb 0 ((bb.length : Int) - ydat.length)) kh.out kf.out rfl (below_drewN' kB6.out _)
    · have kf := Lib.hid (show writeTail l clock room y1 [] bb 0 ((bb.length : Int) - ydat.length) = (0, putSt l y1 ⟨false, clock + 1, [] ++ bb⟩, clock + 1) by unfold writeTail; rw [if_neg kl0.out, if_neg (fun e => g2 (hfit.out.1 e))])
      clear hfit
      go_upto_region 20 with (first | (go_at_call 63; refine (kl.out).mono ?_; rintro e w1 ⟨k, y, rfl, hl, hb⟩; have kb := Lib.hid hb; obtain ⟨j', rfl, rfl, hj', -, -⟩ := rlook_node kr.out hl; obtain rfl := st_index kw.out.rising kj.out hj'; clear hj'; clear hl hb; have kh1 := Lib.hid (kh.out.below kb.out); obtain ⟨f0, f1, f2, ff⟩ := cells3 kh1.out.hc; have hfl := heap_lt kh1.out.hc; have kbb := Lib.hid (kbv.out.of_heap (fun j hj => kb.out.block j (kTb.out j hj)) (fun _ h => h)); obtain ⟨g', c', x', e, hx', -, hgl, -, hgc⟩ := kh1.out.node kj.out; injection e with e1 e2 e3; injection e1 with e1; injection e1 with e1; subst e1 e3; rw [kx.out] at hx'; injection hx' with hx'; subst hx'; have hgc1 := hgc 1 _ (by omega) rfl; have hgc3 := hgc 3 _ (by omega) rfl; have kda := Lib.hid (kh1.out.data _ (List.mem_of_getElem? kx.out))) | (at_builtin; refine wpList_append_bytes _ rfl _ _ rfl w1.heap.size (.slice none 0 0) [] rfl (World.ownsRow_nil _ _ _ _) (.slice ba bb.length bc) bb Tb rfl kbb.out (by simp; omega) (Nat.le_refl _) ?_; intro a6 c6 w6 ho6 hg6; rw [List.nil_append] at ho6; have k6 := Lib.hid ho6; have kB6 := Lib.hid (below_none kb.out (v := .slice none 0 0) hg6 (fun k e => by cases e)); clear ho6 hg6))
      have kP := Lib.hid (kh.out.plus kB6.out)
      clear f0 f1 f2 ff hfl
      clear hgc hgc1 hgc3 hgl
      obtain ⟨f0, f1, f2, ff⟩ := cells3 kP.out.hc
      have ff1 := ff 1
      have hfl := heap_lt kP.out.hc
      clear ff
      have hWq := Lib.hid (fun (m : Nat) => (show Calls Tryz.prog 32 #[.slice (some ⟨g, 0, none⟩) l.length c] (w6.drewN m) fun e w' => e = .returned (.int .i64 ((l.length : Int) + (bytesOf l : Int))) ∧ w' = w6.drewN m from (refweight_calls' rfl (kP.out.tree.of_heap (w' := w6.drewN m) (fun j hj => rfl) (fun _ h => h)) (by omega) (wf_data kw.out)).mono (fun e w' hh => ⟨hh.1, hh.2.symm⟩)))
      go_wp2_with fail
      have hd3 : decide ((j : Int) < 0) = false := decide_eq_false (by omega)
      go_quiet ((go_at_call 32; exact Calls.quiet_of_same (hWq.out _)))
      have kt := Lib.hid (fun m => kP.out.ticked m (clock + 1))
      go_upto_region 25 with (fail)
      have kt9 := Lib.hid (kt.out nq)
      have kd9 := Lib.hid ((bytes_own k6.out).of_heap (w' := (w6.drewN nq).setCell ⟨fb, 1, none⟩ (.int .i64 (clock + 1))) (S' := fun k => Plus R w.heap.size w6.heap.size k ∧ k ≠ fb ∧ (Value.slice (some ⟨g, 0, none⟩) l.length c).ownBlock ≠ some k) (fun k hk => (set_grown (w6.drewN nq) fb 1 (.int .i64 (clock + 1))).block k hk.2 (fun e => by injection e with e; have := kb.out.size; omega)) (fun k hk => ⟨Or.inr ⟨Nat.le_trans kb.out.size hk.1, hk.2⟩, (by have := kb.out.size; omega), fun e => by have := kh1.out.lt k (kh1.out.own k e).1; omega⟩))
      clear f0 f1 f2 ff1 hfl kt
      generalize ((w6.drewN nq).setCell ⟨fb, 1, none⟩ (.int .i64 (clock + 1))) = W0 at *
      obtain ⟨f0, f1, f2, -⟩ := cells3 kt9.out.1.hc
      have hfl := heap_lt kt9.out.1.hc
      obtain ⟨g', c', x', e, hx', -, hgl, hgf, hgc⟩ := kt9.out.1.node kj.out
      injection e with e1 e2 e3; injection e1 with e1; injection e1 with e1
      subst e1 e3
      rw [kx.out] at hx'; injection hx' with hx'; subst hx'
      have hg3 := hgf (j * 4 + 3)
      have hgc3 := hgc 3 _ (by omega) rfl
      have kq := Lib.hid (RefIn.store3 kt9.out.1 kx.out (a := a6) (m := bb.length) (c' := c6) (by first | exact kd9.out | (have := kd9.out; rwa [List.length_append] at this)))
      go_upto_region 26 with (fail)
      clear f0 f1 f2 hfl hgl hgf hgc hg3 hgc3 kd9
      generalize W0.setCell ⟨g, j * 4 + 3, none⟩ (.slice a6 bb.length c6) = W at *
      obtain ⟨f0, f1, f2, -⟩ := cells3 kq.out.1.hc
      have hfl := heap_lt kq.out.1.hc
      have hjL := (List.getElem?_eq_some_iff.1 kx.out).1
      have hjl := (List.getElem?_eq_some_iff.1 kj.out).1
      have kxs := Lib.hid (List.getElem?_set_self (a := NV.make y1 ⟨false, yt, bb⟩ (.slice a6 bb.length c6)) hjL)
      obtain ⟨g', c', x', e, hx', -, hgl, hgf, hgc⟩ := kq.out.1.node (List.getElem?_set_self (a := (y1, (⟨false, yt, bb⟩ : PN))) hjl)
      rw [List.length_set] at e
      injection e with e1 e2 e3; injection e1 with e1; injection e1 with e1
      subst e1 e3
      rw [kxs.out] at hx'; injection hx' with hx'; subst hx'
      have hg2 := hgf (j * 4 + 2)
      have hgc2 := hgc 2 _ (by omega) rfl
      have kD := Lib.hid (fun m => RefIn.store2 (t := clock + 1) (kq.out.1.below (below_drewN' (Below.refl W.heap.size W) m)) kxs.out)
      go_region
      go_wp2_with fail
      go_ret
      have hd := (kD.out 1).1
      simp only [List.set_set] at hd
      rw [← put_set kw.out.rising kj.out] at hd
      exact RefPost.grow kB6.out hd ((kt9.out.2.trans kq.out.2 (fun k h => Or.inl h)).trans (Below.kept (below_drewN' (Below.refl W.heap.size W) 1) (kD.out 1).2) (fun k h => Or.inl h)) kf.out
end
end Go.Proofs.YtejofgdglpmlkaaGreatDoor
