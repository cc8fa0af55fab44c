/-
  The reference's Rename. Conditions: a tree that is right, texts of at most 2^31 bytes.
-/
import Derived.Test.YtejofgdglpmlkaaGreatDoorM25
namespace Go.Proofs.YtejofgdglpmlkaaGreatDoor
open Go.RowKit

theorem del_len (l : St) (p : Bs) : (delSt l p).length ≤ l.length := List.length_filter_le _ _
section
variable {w w' w1 : World} {fb : Nat} {fv fv' : Value} {L L' : List NV} {R R' Tb : Nat → Prop} {l l' : St} {clock clock' room : Int} {p p2 : ByteArray} {q q2 : Bs} {n : PN}
theorem RefPost.fin {r : Int × St × Int} (h0 : RefIn w fb fv L R l clock room) (hk : Kept R w w') (h : RefIn w' fb fv' L' R' l' clock' room) (hR : ∀ k, R' k → R k ∨ w.heap.size ≤ k) (hr : r = (0, l', clock')) : RefPost w fb R room r (.returned (.int .i64 0)) w' := by
  subst hr
  exact ⟨rfl, ⟨fv', L', h.mono (fun k hk2 => (hR k hk2).imp id (fun h2 => ⟨h2, h.lt k hk2⟩)) (fun k hk2 => hk2.elim (fun h2 => Nat.lt_of_lt_of_le (h0.lt k h2) hk.size) (fun h2 => h2.2))⟩, hk⟩
theorem ren_first (h : lookQ l q ≠ .none) (hn : ∀ n, lookQ l q = .node n → n.dir = true) : ∃ c, renameRes l clock q q2 = (c, l, clock) := by
  unfold renameRes
  cases h1 : lookQ l q with
  | none => exact absurd h1 h
  | root => exact ⟨_, rfl⟩
  | err c => exact ⟨_, rfl⟩
  | node n => exact ⟨12, if_pos (hn n h1)⟩
set_option maxRecDepth 100000 in
set_option maxHeartbeats 4000000 in
theorem refRename_few (h : RefIn w fb fv L R l clock room) (hw : Wf l clock room) (hp : p.size ≤ 2147483647) (hq : clean p.data.toList = q) (hr : ∀ n, lookQ l q = .node n → n.dir = true) :
    Calls Tryz.prog 44 #[.pointer (some ⟨fb, 0, none⟩), .string p, .string p2] w fun e w' => RefPost w fb R room (renameRes l clock q q2) e w' := by
  have kl := Lib.hid (reflook_calls h hw.rising hw.len p hp)
  rw [hq] at kl
  clear hq
  have kh := Lib.hid h
  have kw := Lib.hid hw
  have hll := hw.len
  unfold renameRes
  cases hr2 : lookQ l q with
  | root =>
    have kr := Lib.hid hr2
    clear h hw hr hr2
    go_enter Tryz.func44, Tryz.ntmps44
    go_wp2_with (go_at_call 63; refine (kl.out).mono ?_; rintro e w1 ⟨k, y, rfl, hl, hb⟩; have kb := Lib.hid hb; obtain ⟨rfl, rfl⟩ := rlook_root kr.out hl; clear hl hb)
    go_ret
    exact RefPost.same kh.out rfl rfl kb.out
  | err c =>
    have kr := Lib.hid hr2
    clear h hw hr hr2
    go_enter Tryz.func44, Tryz.ntmps44
    go_wp2_with (go_at_call 63; refine (kl.out).mono ?_; rintro e w1 ⟨k, y, rfl, hl, hb⟩; have kb := Lib.hid hb; obtain ⟨rfl, rfl, hc⟩ := rlook_err kr.out hl; obtain ⟨hc0, hc1⟩ := err_nz hc; clear hl hb)
    go_ret
    exact RefPost.same kh.out rfl rfl kb.out
  | none =>
    have kr := Lib.hid hr2
    clear h hw hr hr2
    go_enter Tryz.func44, Tryz.ntmps44
    go_wp2_with (go_at_call 63; refine (kl.out).mono ?_; rintro e w1 ⟨k, y, rfl, hl, hb⟩; have kb := Lib.hid hb; obtain ⟨rfl, rfl⟩ := rlook_none kr.out hl; clear hl hb)
    go_ret
    exact RefPost.same kh.out rfl rfl kb.out
  | node n =>
    have kr := Lib.hid hr2
    have hnd := hr n hr2
    obtain ⟨j, hj, hj0, hj1⟩ := find_get (lookQ_find.2 n hr2)
    obtain ⟨g, c, x, rfl, hx, hxn, -⟩ := h.node hj
    obtain ⟨y1, ⟨yd, yt, ydat⟩, y3⟩ := x
    obtain ⟨rfl, rfl⟩ : y1 = q ∧ n = ⟨yd, yt, ydat⟩ := by injection hxn with e1 e2; exact ⟨e1, e2.symm⟩
    obtain rfl : yd = true := hnd
    have kj := Lib.hid hj
    have kx := Lib.hid hx
    have hj2 := nat_ne2 j
    have hj3 : ¬ ((j : Int) < 0) := by omega
    clear h hw hr hr2 hj hx hxn
    go_enter Tryz.func44, Tryz.ntmps44
    go_wp2_with (go_at_call 63; refine (kl.out).mono ?_; rintro e w1 ⟨k, y, rfl, hl, hb⟩; have kb := Lib.hid hb; obtain ⟨j', rfl, rfl, hj', -, -⟩ := rlook_node kr.out hl; obtain rfl := st_index kw.out.rising kj.out hj'; clear hj'; have kh1 := Lib.hid (kh.out.below kb.out); obtain ⟨f0, f1, f2, ff⟩ := cells3 kh1.out.hc; have hfl := heap_lt kh1.out.hc; obtain ⟨g', c', x', e, hx', -, hgl, -, hgc⟩ := kh1.out.node kj.out; injection e with e1 e2 e3; injection e1 with e1; injection e1 with e1; subst e1 e3; rw [kx.out] at hx'; injection hx' with hx'; subst hx'; have hgc1 := hgc 1 _ (by omega) rfl; clear hl hb)
    go_ret
    exact RefPost.same kh.out rfl rfl kb.out
set_option maxRecDepth 100000 in
set_option maxHeartbeats 4000000 in
theorem refRename_second (h : RefIn w fb fv L R l clock room) (hw : Wf l clock room) (hp : p.size ≤ 2147483647) (hq : clean p.data.toList = q) (hp2 : p2.size ≤ 2147483647) (hq2 : clean p2.data.toList = q2) (hr : lookQ l q = .node n) (hnd : n.dir = false) (hn : lookQ l q2 ≠ .none) (hs : ∀ m, lookQ l q2 = .node m → m.dir = true ∨ q = q2) :
    Calls Tryz.prog 44 #[.pointer (some ⟨fb, 0, none⟩), .string p, .string p2] w fun e w' => RefPost w fb R room (renameRes l clock q q2) e w' := by
  have kl := Lib.hid (reflook_calls h hw.rising hw.len p hp)
  rw [hq] at kl
  clear hq
  have kl2 := Lib.hid (fun (w1 : World) (h1 : RefIn w1 fb fv L R l clock room) => reflook_calls h1 hw.rising hw.len p2 hp2)
  rw [hq2] at kl2
  clear hq2
  have kh := Lib.hid h
  have kr := Lib.hid hr
  have kw := Lib.hid hw
  have hll := hw.len
  obtain ⟨j, hj, hj0, hj1⟩ := find_get (lookQ_find.2 n hr)
  obtain ⟨g, c, x, rfl, hx, hxn, -⟩ := h.node hj
  obtain ⟨y1, ⟨yd, yt, ydat⟩, y3⟩ := x
  obtain ⟨rfl, rfl⟩ : y1 = q ∧ n = ⟨yd, yt, ydat⟩ := by injection hxn with e1 e2; exact ⟨e1, e2.symm⟩
  obtain rfl : yd = false := hnd
  obtain ⟨da, dc, hda⟩ := (h.data _ (List.mem_of_getElem? hx)).form
  replace hda : y3 = .slice da ydat.length dc := hda
  subst hda
  have kj := Lib.hid hj
  have kx := Lib.hid hx
  have hj2 := nat_ne2 j
  have hj3 : ¬ ((j : Int) < 0) := by omega
  cases hr2 : lookQ l q2 with
  | none => exact absurd hr2 hn
  | root =>
    have kr2 := Lib.hid hr2
    have kf := Lib.hid (show renameRes l clock y1 q2 = (12, l, clock) by unfold renameRes; rw [kr.out]; simp [hr2])
    clear h hw hr hj hx hxn hr2 hn hs
    go_enter Tryz.func44, Tryz.ntmps44
    go_upto_region 10 with (go_at_call 63; refine (kl.out).mono ?_; rintro e w1 ⟨k, y, rfl, hl, hb⟩; have kb := Lib.hid hb; obtain ⟨j', rfl, rfl, hj', -, -⟩ := rlook_node kr.out hl; obtain rfl := st_index kw.out.rising kj.out hj'; clear hj'; have kh1 := Lib.hid (kh.out.below kb.out); obtain ⟨f0, f1, f2, ff⟩ := cells3 kh1.out.hc; have hfl := heap_lt kh1.out.hc; obtain ⟨g', c', x', e, hx', -, hgl, -, hgc⟩ := kh1.out.node kj.out; injection e with e1 e2 e3; injection e1 with e1; injection e1 with e1; subst e1 e3; rw [kx.out] at hx'; injection hx' with hx'; subst hx'; have hgc1 := hgc 1 _ (by omega) rfl; clear hl hb)
    go_wp2_with (go_at_call 63; refine (kl2.out _ (kh.out.below kb.out)).mono ?_; rintro e w2 ⟨k2, y2, rfl, hl, hb⟩; have kb2 := Lib.hid hb; obtain ⟨rfl, rfl⟩ := rlook_root kr2.out hl; have kB := Lib.hid (kb.out.trans (kb2.out.mono kb.out.size)); clear hl hb)
    go_ret
    exact RefPost.same kh.out kf.out rfl kB.out
  | err c2 =>
    have kr2 := Lib.hid hr2
    have kf := Lib.hid (show renameRes l clock y1 q2 = (c2, l, clock) by unfold renameRes; rw [kr.out]; simp [hr2])
    clear h hw hr hj hx hxn hr2 hn hs
    go_enter Tryz.func44, Tryz.ntmps44
    go_upto_region 10 with (go_at_call 63; refine (kl.out).mono ?_; rintro e w1 ⟨k, y, rfl, hl, hb⟩; have kb := Lib.hid hb; obtain ⟨j', rfl, rfl, hj', -, -⟩ := rlook_node kr.out hl; obtain rfl := st_index kw.out.rising kj.out hj'; clear hj'; have kh1 := Lib.hid (kh.out.below kb.out); obtain ⟨f0, f1, f2, ff⟩ := cells3 kh1.out.hc; have hfl := heap_lt kh1.out.hc; obtain ⟨g', c', x', e, hx', -, hgl, -, hgc⟩ := kh1.out.node kj.out; injection e with e1 e2 e3; injection e1 with e1; injection e1 with e1; subst e1 e3; rw [kx.out] at hx'; injection hx' with hx'; subst hx'; have hgc1 := hgc 1 _ (by omega) rfl; clear hl hb)
    go_wp2_with (go_at_call 63; refine (kl2.out _ (kh.out.below kb.out)).mono ?_; rintro e w2 ⟨k2, y2, rfl, hl, hb⟩; have kb2 := Lib.hid hb; obtain ⟨rfl, rfl, hc⟩ := rlook_err kr2.out hl; obtain ⟨hc0, hc1⟩ := err_nz hc; have kB := Lib.hid (kb.out.trans (kb2.out.mono kb.out.size)); clear hl hb)
    go_ret
    exact RefPost.same kh.out kf.out rfl kB.out
  | node m =>
    have kr2 := Lib.hid hr2
    obtain ⟨j2, hk2, hk0, hk1⟩ := find_get (lookQ_find.2 m hr2)
    obtain ⟨g', c', x, e, hx2, hxn2, -⟩ := h.node hk2
    obtain ⟨z1, ⟨zd, zt, zdat⟩, z3⟩ := x
    obtain ⟨rfl, rfl⟩ : z1 = q2 ∧ m = ⟨zd, zt, zdat⟩ := by injection hxn2 with e1 e2; exact ⟨e1, e2.symm⟩
    clear e
    have kj2 := Lib.hid hk2
    have kx2 := Lib.hid hx2
    have hj22 := nat_ne2 j2
    have hj23 : ¬ ((j2 : Int) < 0) := by omega
    have hj24 : (0 : Int) ≤ (j2 : Int) := by omega
    cases zd with
    | true =>
      have kf := Lib.hid (show renameRes l clock y1 z1 = (12, l, clock) by unfold renameRes; rw [kr.out]; simp [hr2])
      clear h hw hr hj hx hxn hr2 hn hs hk2 hx2 hxn2
      go_enter Tryz.func44, Tryz.ntmps44
      go_upto_region 10 with (go_at_call 63; refine (kl.out).mono ?_; rintro e w1 ⟨k, y, rfl, hl, hb⟩; have kb := Lib.hid hb; obtain ⟨j', rfl, rfl, hj', -, -⟩ := rlook_node kr.out hl; obtain rfl := st_index kw.out.rising kj.out hj'; clear hj'; have kh1 := Lib.hid (kh.out.below kb.out); obtain ⟨f0, f1, f2, ff⟩ := cells3 kh1.out.hc; have hfl := heap_lt kh1.out.hc; obtain ⟨g', c', x', e, hx', -, hgl, -, hgc⟩ := kh1.out.node kj.out; injection e with e1 e2 e3; injection e1 with e1; injection e1 with e1; subst e1 e3; rw [kx.out] at hx'; injection hx' with hx'; subst hx'; have hgc1 := hgc 1 _ (by omega) rfl; clear hl hb)
      go_wp2_with (go_at_call 63; refine (kl2.out _ (kh.out.below kb.out)).mono ?_; rintro e w2 ⟨k2, y2, rfl, hl, hb⟩; have kb2 := Lib.hid hb; obtain ⟨j2', rfl, rfl, hj', -, -⟩ := rlook_node kr2.out hl; obtain rfl := st_index kw.out.rising kj2.out hj'; clear hj' f0 f1 f2 ff hfl hgc hgc1 hgl; have kh2 := Lib.hid (kh1.out.below kb2.out); obtain ⟨f0, f1, f2, ff⟩ := cells3 kh2.out.hc; have hfl := heap_lt kh2.out.hc; obtain ⟨g', c', x', e, hx', -, hgl, -, hgc⟩ := kh2.out.node kj2.out; injection e with e1 e2 e3; injection e1 with e1; injection e1 with e1; subst e1 e3; rw [kx2.out] at hx'; injection hx' with hx'; subst hx'; have hgc1 := hgc 1 _ (by omega) rfl; have kB := Lib.hid (kb.out.trans (kb2.out.mono kb.out.size)); clear hl hb)
      go_ret
      exact RefPost.same kh.out kf.out rfl kB.out
    | false =>
      obtain rfl : y1 = z1 := (hs _ hr2).resolve_left (by simp)
      have kf := Lib.hid (show renameRes l clock y1 y1 = (0, l, clock) by unfold renameRes; rw [kr.out]; simp [hr2])
      clear h hw hr hj hx hxn hr2 hn hs hk2 hx2 hxn2
      go_enter Tryz.func44, Tryz.ntmps44
      go_upto_region 10 with (go_at_call 63; refine (kl.out).mono ?_; rintro e w1 ⟨k, y, rfl, hl, hb⟩; have kb := Lib.hid hb; obtain ⟨j', rfl, rfl, hj', -, -⟩ := rlook_node kr.out hl; obtain rfl := st_index kw.out.rising kj.out hj'; clear hj'; have kh1 := Lib.hid (kh.out.below kb.out); obtain ⟨f0, f1, f2, ff⟩ := cells3 kh1.out.hc; have hfl := heap_lt kh1.out.hc; obtain ⟨g', c', x', e, hx', -, hgl, -, hgc⟩ := kh1.out.node kj.out; injection e with e1 e2 e3; injection e1 with e1; injection e1 with e1; subst e1 e3; rw [kx.out] at hx'; injection hx' with hx'; subst hx'; have hgc1 := hgc 1 _ (by omega) rfl; clear hl hb)
      go_wp2_with (go_at_call 63; refine (kl2.out _ (kh.out.below kb.out)).mono ?_; rintro e w2 ⟨k2, y2, rfl, hl, hb⟩; have kb2 := Lib.hid hb; obtain ⟨j2', rfl, rfl, hj', -, -⟩ := rlook_node kr2.out hl; obtain rfl := st_index kw.out.rising kj2.out hj'; clear hj' f0 f1 f2 ff hfl hgc hgc1 hgl; have kh2 := Lib.hid (kh1.out.below kb2.out); obtain ⟨f0, f1, f2, ff⟩ := cells3 kh2.out.hc; have hfl := heap_lt kh2.out.hc; obtain ⟨g', c', x', e, hx', -, hgl, -, hgc⟩ := kh2.out.node kj2.out; injection e with e1 e2 e3; injection e1 with e1; injection e1 with e1; subst e1 e3; rw [kx2.out] at hx'; injection hx' with hx'; subst hx'; have hgc1 := hgc 1 _ (by omega) rfl; have kB := Lib.hid (kb.out.trans (kb2.out.mono kb.out.size)); clear hl hb)
      go_ret
      exact RefPost.same kh.out kf.out rfl kB.out
set_option maxRecDepth 100000 in
set_option maxHeartbeats 8000000 in
theorem refRename_none (h : RefIn w fb fv L R l clock room) (hw : Wf l clock room) (hp : p.size ≤ 2147483647) (hq : clean p.data.toList = q) (hp2 : p2.size ≤ 2147483647) (hq2 : clean p2.data.toList = q2) (hr : lookQ l q = .node n) (hnd : n.dir = false) (hn : lookQ l q2 = .none) :
    Calls Tryz.prog 44 #[.pointer (some ⟨fb, 0, none⟩), .string p, .string p2] w fun e w' => RefPost w fb R room (renameP l clock q q2 n) e w' := by
  have kl := Lib.hid (reflook_calls h hw.rising hw.len p hp)
  rw [hq] at kl
  clear hq
  have kl2 := Lib.hid (fun (w1 : World) (h1 : RefIn w1 fb fv L R l clock room) => reflook_calls h1 hw.rising hw.len p2 hp2)
  rw [hq2] at kl2
  clear hq2
  have kh := Lib.hid h
  have kr := Lib.hid hr
  have kw := Lib.hid hw
  have hll := hw.len
  obtain ⟨j, hj, hj0, hj1⟩ := find_get (lookQ_find.2 n hr)
  obtain ⟨g, c, x, rfl, hx, hxn, -⟩ := h.node hj
  obtain ⟨y1, ⟨yd, yt, ydat⟩, y3⟩ := x
  obtain ⟨rfl, rfl⟩ : y1 = q ∧ n = ⟨yd, yt, ydat⟩ := by injection hxn with e1 e2; exact ⟨e1, e2.symm⟩
  obtain rfl : yd = false := hnd
  obtain ⟨da, dc, hda⟩ := (h.data _ (List.mem_of_getElem? hx)).form
  replace hda : y3 = .slice da ydat.length dc := hda
  subst hda
  have kj := Lib.hid hj
  have kx := Lib.hid hx
  have hj2 := nat_ne2 j
  have hj3 : ¬ ((j : Int) < 0) := by omega
  have hclk := hw.clk
  have hwc : IntKind.i64.wrap (clock + 1) = clock + 1 := IntWalk.i64_in _ (by omega)
  have kr2 := Lib.hid hn
  have kne := Lib.hid (show y1 ≠ q2 from fun e => by subst e; rw [hr] at hn; cases hn)
  have hne2 := mk_ne kne.out
  have kfn := Lib.hid (show find (delSt l y1) q2 = none by rw [find_del, if_neg (Ne.symm kne.out)]; exact lookQ_find.1 hn)
  clear h hw hr hj hx hxn hn
  go_enter Tryz.func44, Tryz.ntmps44
  go_upto_region 10 with (go_at_call 63; refine (kl.out).mono ?_; rintro e w1 ⟨k, y, rfl, hl, hb⟩; have kb := Lib.hid hb; obtain ⟨j', rfl, rfl, hj', -, -⟩ := rlook_node kr.out hl; obtain rfl := st_index kw.out.rising kj.out hj'; clear hj'; have kh1 := Lib.hid (kh.out.below kb.out); obtain ⟨f0, f1, f2, ff⟩ := cells3 kh1.out.hc; have hfl := heap_lt kh1.out.hc; obtain ⟨g', c', x', e, hx', -, hgl, -, hgc⟩ := kh1.out.node kj.out; injection e with e1 e2 e3; injection e1 with e1; injection e1 with e1; subst e1 e3; rw [kx.out] at hx'; injection hx' with hx'; subst hx'; have hgc1 := hgc 1 _ (by omega) rfl; clear hl hb)
  go_upto_region 19 with (go_at_call 63; refine (kl2.out _ (kh.out.below kb.out)).mono ?_; rintro e w2 ⟨k2, y2, rfl, hl, hb⟩; have kb2 := Lib.hid hb; obtain ⟨rfl, rfl⟩ := rlook_none kr2.out hl; clear f0 f1 f2 ff hfl hgc hgc1 hgl; have kh2 := Lib.hid (kh1.out.below kb2.out); obtain ⟨f0, f1, f2, ff⟩ := cells3 kh2.out.hc; have hfl := heap_lt kh2.out.hc; have kB := Lib.hid (kb.out.trans (kb2.out.mono kb.out.size)); clear hl hb)
  clear f0 f1 f2 ff hfl
  obtain ⟨f0, f1, f2, ff⟩ := cells3 kh2.out.hc
  have hfl := heap_lt kh2.out.hc
  obtain ⟨g', c', x', e, hx', -, hgl, -, hgc⟩ := kh2.out.node kj.out
  injection e with e1 e2 e3; injection e1 with e1; injection e1 with e1
  subst e1 e3
  rw [kx.out] at hx'; injection hx' with hx'; subst hx'
  have hgc0 : w2.cell? ⟨g, j * 4, none⟩ = some (.string (mk y1)) := hgc 0 _ (by omega) rfl
  have hgc1 := hgc 1 _ (by omega) rfl
  have hgc2 := hgc 2 _ (by omega) rfl
  have hgc3 := hgc 3 _ (by omega) rfl
  go_upto_region 21 with (fail)
  have kX2 := Lib.hid (heap_alloc_new w2 (.cells #[.string (mk q2), .bool false, .int .i64 yt, .slice da ydat.length dc] 54))
  have kW2 := Lib.hid (below_al (o := .cells #[.string (mk q2), .bool false, .int .i64 yt, .slice da ydat.length dc] 54) (Below.refl w2.heap.size w2))
  have hz2 : w2.heap.size < (w2.alloc (.cells #[.string (mk q2), .bool false, .int .i64 yt, .slice da ydat.length dc] 54)).heap.size := by simp
  clear f0 f1 f2 ff hfl hgc hgc0 hgc1 hgc2 hgc3 hgl
  generalize w2.alloc (.cells #[.string (mk q2), .bool false, .int .i64 yt, .slice da ydat.length dc] 54) = W at *
  generalize hxb : w2.heap.size = xb at *
  have kxb := Lib.hid hxb
  clear hxb
  have kW := Lib.hid (kh2.out.below (w' := W) (by rw [kxb.out]; exact kW2.out))
  have kBW := Lib.hid (kB.out.trans ((show Below w2.heap.size w2 W by rw [kxb.out]; exact kW2.out).mono kB.out.size))
  have hxl := Lib.hid (show ∀ k, R k → k < xb from fun k hk => by rw [← kxb.out]; exact kh2.out.lt k hk)
  have kdrop := Lib.hid (refdrop_calls kW.out (by omega) j (by omega))
  rw [← del_at kw.out.rising kj.out] at kdrop
  have kda := Lib.hid (kW.out.data _ (List.mem_of_getElem? kx.out))
  go_upto_region 24 with (go_at_call 65; refine (kdrop.out).mono ?_; rintro e w4 ⟨rfl, fv4, L4, h2, hk2, hs2⟩; have kh4 := Lib.hid h2; have kk4 := Lib.hid hk2; have ks4 := Lib.hid (hs2 _ _ kda.out); clear h2 hk2 hs2)
  have kK := Lib.hid (show Kept R W w4 from kk4.out)
  have kRR := Lib.hid (show ∀ k, Plus R W.heap.size w4.heap.size k → R k ∨ W.heap.size ≤ k from fun k hk => hk.imp id (fun h => h.1))
  have hfd := kfn.out
  have hrs := rising_del y1 kw.out.rising
  have hle := del_len l y1
  have keq := Lib.hid (show putSt (delSt l y1) q2 ⟨false, yt, ydat⟩ = delSt (putSt l q2 ⟨false, yt, ydat⟩) y1 from rename_eq' kw.out.rising kne.out (lookQ_find.1 kr2.out))
  have kX4 := Lib.hid ((kK.out.block xb (heap_lt kX2.out) (fun h => Nat.lt_irrefl _ (hxl.out xb h))).trans kX2.out)
  obtain ⟨n0, n1, n2, n3, -⟩ := cells4 kX4.out
  have hnl := heap_lt kX4.out
  have kput := Lib.hid (refput_calls (p := q2) (dat := ydat) (d := false) (t := yt) kh4.out hrs (by omega) hfd ks4.out)
  clear hfd hrs hle
  go_upto_region 25 with (go_at_call 64; refine (kput.out).mono ?_; rintro e w7 ⟨rfl, fv7, L7, h2, hk2⟩; have kh7 := Lib.hid h2; have kk7 := Lib.hid hk2; clear h2 hk2)
  clear n0 n1 n2 n3 hnl
  obtain ⟨f0, f1, f2, ff⟩ := cells3 kh7.out.hc
  have ff1 := ff 1
  have hfl := heap_lt kh7.out.hc
  have kt := Lib.hid (kh7.out.ticked 0 (clock + 1))
  clear ff
  go_wp2_with fail
  go_ret
  have h9 := kt.out.1
  rw [keq.out] at h9
  have hz := kBW.out.size
  have hz7 := kK.out.size
  refine RefPost.fin kh.out (Below.kept kBW.out ((kK.out.trans kk7.out kRR.out).trans kt.out.2 ?_)) h9 ?_ rfl
  · rintro k (h | h)
    · exact kRR.out k h
    · exact Or.inr (by omega)
  · rintro k (h | h)
    · exact (kRR.out k h).imp id (fun h => by omega)
    · exact Or.inr (by omega)
set_option maxRecDepth 100000 in
set_option maxHeartbeats 8000000 in
theorem refRename_node (h : RefIn w fb fv L R l clock room) (hw : Wf l clock room) (hp : p.size ≤ 2147483647) (hq : clean p.data.toList = q) (hp2 : p2.size ≤ 2147483647) (hq2 : clean p2.data.toList = q2) (hr : lookQ l q = .node n) (hnd : n.dir = false) {m : PN} (hn : lookQ l q2 = .node m) (hmd : m.dir = false) (hne : q ≠ q2) :
    Calls Tryz.prog 44 #[.pointer (some ⟨fb, 0, none⟩), .string p, .string p2] w fun e w' => RefPost w fb R room (renameP l clock q q2 n) e w' := by
  have kl := Lib.hid (reflook_calls h hw.rising hw.len p hp)
  rw [hq] at kl
  clear hq
  have kl2 := Lib.hid (fun (w1 : World) (h1 : RefIn w1 fb fv L R l clock room) => reflook_calls h1 hw.rising hw.len p2 hp2)
  rw [hq2] at kl2
  clear hq2
  have kh := Lib.hid h
  have kr := Lib.hid hr
  have kw := Lib.hid hw
  have hll := hw.len
  obtain ⟨j, hj, hj0, hj1⟩ := find_get (lookQ_find.2 n hr)
  obtain ⟨g, c, x, rfl, hx, hxn, -⟩ := h.node hj
  obtain ⟨y1, ⟨yd, yt, ydat⟩, y3⟩ := x
  obtain ⟨rfl, rfl⟩ : y1 = q ∧ n = ⟨yd, yt, ydat⟩ := by injection hxn with e1 e2; exact ⟨e1, e2.symm⟩
  obtain rfl : yd = false := hnd
  obtain ⟨da, dc, hda⟩ := (h.data _ (List.mem_of_getElem? hx)).form
  replace hda : y3 = .slice da ydat.length dc := hda
  subst hda
  have kj := Lib.hid hj
  have kx := Lib.hid hx
  have hj2 := nat_ne2 j
  have hj3 : ¬ ((j : Int) < 0) := by omega
  have hclk := hw.clk
  have hwc : IntKind.i64.wrap (clock + 1) = clock + 1 := IntWalk.i64_in _ (by omega)
  have kr2 := Lib.hid hn
  obtain ⟨j2, hk2, hk0, hk1⟩ := find_get (lookQ_find.2 m hn)
  obtain ⟨g', c', x, e, hx2, hxn2, -⟩ := h.node hk2
  obtain ⟨z1, ⟨zd, zt, zdat⟩, z3⟩ := x
  obtain ⟨rfl, rfl⟩ : z1 = q2 ∧ m = ⟨zd, zt, zdat⟩ := by injection hxn2 with e1 e2; exact ⟨e1, e2.symm⟩
  obtain rfl : zd = false := hmd
  clear e
  have kj2 := Lib.hid hk2
  have kx2 := Lib.hid hx2
  have hj22 := nat_ne2 j2
  have hj23 : ¬ ((j2 : Int) < 0) := by omega
  have hj24 : (0 : Int) ≤ (j2 : Int) := by omega
  have kne := Lib.hid hne
  have hne2 := mk_ne hne
  have kfm := Lib.hid (show find (delSt l y1) z1 = some ⟨false, zt, zdat⟩ by rw [find_del, if_neg (Ne.symm hne)]; exact lookQ_find.2 _ hn)
  clear h hw hr hj hx hxn hn hk2 hx2 hxn2 hne
  go_enter Tryz.func44, Tryz.ntmps44
  go_upto_region 10 with (go_at_call 63; refine (kl.out).mono ?_; rintro e w1 ⟨k, y, rfl, hl, hb⟩; have kb := Lib.hid hb; obtain ⟨j', rfl, rfl, hj', -, -⟩ := rlook_node kr.out hl; obtain rfl := st_index kw.out.rising kj.out hj'; clear hj'; have kh1 := Lib.hid (kh.out.below kb.out); obtain ⟨f0, f1, f2, ff⟩ := cells3 kh1.out.hc; have hfl := heap_lt kh1.out.hc; obtain ⟨g', c', x', e, hx', -, hgl, -, hgc⟩ := kh1.out.node kj.out; injection e with e1 e2 e3; injection e1 with e1; injection e1 with e1; subst e1 e3; rw [kx.out] at hx'; injection hx' with hx'; subst hx'; have hgc1 := hgc 1 _ (by omega) rfl; clear hl hb)
  go_upto_region 19 with (go_at_call 63; refine (kl2.out _ (kh.out.below kb.out)).mono ?_; rintro e w2 ⟨k2, y2, rfl, hl, hb⟩; have kb2 := Lib.hid hb; obtain ⟨j2', rfl, rfl, hj', -, -⟩ := rlook_node kr2.out hl; obtain rfl := st_index kw.out.rising kj2.out hj'; clear hj' f0 f1 f2 ff hfl hgc hgc1 hgl; have kh2 := Lib.hid (kh1.out.below kb2.out); obtain ⟨f0, f1, f2, ff⟩ := cells3 kh2.out.hc; have hfl := heap_lt kh2.out.hc; obtain ⟨g', c', x', e, hx', -, hgl, -, hgc⟩ := kh2.out.node kj2.out; injection e with e1 e2 e3; injection e1 with e1; injection e1 with e1; subst e1 e3; rw [kx2.out] at hx'; injection hx' with hx'; subst hx'; have hgc1 := hgc 1 _ (by omega) rfl; have kB := Lib.hid (kb.out.trans (kb2.out.mono kb.out.size)); clear hl hb)
  clear f0 f1 f2 ff hfl
  obtain ⟨f0, f1, f2, ff⟩ := cells3 kh2.out.hc
  have hfl := heap_lt kh2.out.hc
  obtain ⟨g', c', x', e, hx', -, hgl, -, hgc⟩ := kh2.out.node kj.out
  injection e with e1 e2 e3; injection e1 with e1; injection e1 with e1
  subst e1 e3
  rw [kx.out] at hx'; injection hx' with hx'; subst hx'
  have hgc0 : w2.cell? ⟨g, j * 4, none⟩ = some (.string (mk y1)) := hgc 0 _ (by omega) rfl
  have hgc1 := hgc 1 _ (by omega) rfl
  have hgc2 := hgc 2 _ (by omega) rfl
  have hgc3 := hgc 3 _ (by omega) rfl
  go_upto_region 21 with (fail)
  have kX2 := Lib.hid (heap_alloc_new w2 (.cells #[.string (mk z1), .bool false, .int .i64 yt, .slice da ydat.length dc] 54))
  have kW2 := Lib.hid (below_al (o := .cells #[.string (mk z1), .bool false, .int .i64 yt, .slice da ydat.length dc] 54) (Below.refl w2.heap.size w2))
  have hz2 : w2.heap.size < (w2.alloc (.cells #[.string (mk z1), .bool false, .int .i64 yt, .slice da ydat.length dc] 54)).heap.size := by simp
  clear f0 f1 f2 ff hfl hgc hgc0 hgc1 hgc2 hgc3 hgl
  generalize w2.alloc (.cells #[.string (mk z1), .bool false, .int .i64 yt, .slice da ydat.length dc] 54) = W at *
  generalize hxb : w2.heap.size = xb at *
  have kxb := Lib.hid hxb
  clear hxb
  have kW := Lib.hid (kh2.out.below (w' := W) (by rw [kxb.out]; exact kW2.out))
  have kBW := Lib.hid (kB.out.trans ((show Below w2.heap.size w2 W by rw [kxb.out]; exact kW2.out).mono kB.out.size))
  have hxl := Lib.hid (show ∀ k, R k → k < xb from fun k hk => by rw [← kxb.out]; exact kh2.out.lt k hk)
  have kdrop := Lib.hid (refdrop_calls kW.out (by omega) j (by omega))
  rw [← del_at kw.out.rising kj.out] at kdrop
  have kda := Lib.hid (kW.out.data _ (List.mem_of_getElem? kx.out))
  go_upto_region 23 with (go_at_call 65; refine (kdrop.out).mono ?_; rintro e w4 ⟨rfl, fv4, L4, h2, hk2, hs2⟩; have kh4 := Lib.hid h2; have kk4 := Lib.hid hk2; have ks4 := Lib.hid (hs2 _ _ kda.out); clear h2 hk2 hs2)
  obtain ⟨a4, c4, hf4⟩ := kh4.out.form
  subst hf4
  have hR4 := rising_del y1 kw.out.rising
  have hl4 := del_len l y1
  have kat := Lib.hid (refAt_calls (p := z1) kh4.out.hc kh4.out.tree hR4 (by omega))
  obtain ⟨j4, hj4⟩ := find_get kfm.out
  have kj4 := Lib.hid hj4
  have hdr := Lib.hid (refdrop_calls kh4.out (by omega) j4 (by omega))
  rw [← del_at hR4 hj4.1] at hdr
  clear hj4 kdrop
  go_upto_region 24 with (first | (go_at_call 31; refine (kat.out).mono ?_; rintro e w5 ⟨k5, rfl, hsk, rfl⟩; obtain rfl := at_is hR4 kj4.out.1 hsk; clear hsk) | (go_at_call 65; refine (hdr.out).mono ?_; rintro e w6 ⟨rfl, fv6, L6, h2, hk2, hs2⟩; have kh6 := Lib.hid h2; have kk6 := Lib.hid hk2; have ks6 := Lib.hid (hs2 _ _ ks4.out); clear h2 hk2 hs2))
  have kK := Lib.hid (show Kept R W w6 from kk4.out.trans kk6.out (fun k hk => hk.imp id (fun h => h.1)))
  have kRR := Lib.hid (show ∀ k, Plus (Plus R W.heap.size w4.heap.size) w4.heap.size w6.heap.size k → R k ∨ W.heap.size ≤ k from fun k hk => by
    have := kk4.out.size
    rcases hk with (h | h) | h
    · exact Or.inl h
    · exact Or.inr h.1
    · exact Or.inr (by omega))
  have hfd : find (delSt (delSt l y1) z1) z1 = none := by rw [find_del, if_pos rfl]
  have hrs := rising_del z1 (rising_del y1 kw.out.rising)
  have hle := del_len (delSt l y1) z1
  have keq := Lib.hid (show putSt (delSt (delSt l y1) z1) z1 ⟨false, yt, ydat⟩ = delSt (putSt l z1 ⟨false, yt, ydat⟩) y1 from rename_eq kw.out.rising kne.out)
  have kX4 := Lib.hid ((kK.out.block xb (heap_lt kX2.out) (fun h => Nat.lt_irrefl _ (hxl.out xb h))).trans kX2.out)
  obtain ⟨n0, n1, n2, n3, -⟩ := cells4 kX4.out
  have hnl := heap_lt kX4.out
  have kput := Lib.hid (refput_calls (p := z1) (dat := ydat) (d := false) (t := yt) kh6.out hrs (by omega) hfd ks6.out)
  clear hfd hrs hle
  go_upto_region 25 with (go_at_call 64; refine (kput.out).mono ?_; rintro e w7 ⟨rfl, fv7, L7, h2, hk2⟩; have kh7 := Lib.hid h2; have kk7 := Lib.hid hk2; clear h2 hk2)
  clear n0 n1 n2 n3 hnl
  obtain ⟨f0, f1, f2, ff⟩ := cells3 kh7.out.hc
  have ff1 := ff 1
  have hfl := heap_lt kh7.out.hc
  have kt := Lib.hid (kh7.out.ticked 0 (clock + 1))
  clear ff
  go_wp2_with fail
  go_ret
  have h9 := kt.out.1
  rw [keq.out] at h9
  have hz := kBW.out.size
  have hz7 := kK.out.size
  refine RefPost.fin kh.out (Below.kept kBW.out ((kK.out.trans kk7.out kRR.out).trans kt.out.2 ?_)) h9 ?_ rfl
  · rintro k (h | h)
    · exact kRR.out k h
    · exact Or.inr (by omega)
  · rintro k (h | h)
    · exact (kRR.out k h).imp id (fun h => by omega)
    · exact Or.inr (by omega)
theorem refRename_calls (h : RefIn w fb fv L R l clock room) (hw : Wf l clock room) (hp : p.size ≤ 2147483647) (hq : clean p.data.toList = q) (hp2 : p2.size ≤ 2147483647) (hq2 : clean p2.data.toList = q2) :
    Calls Tryz.prog 44 #[.pointer (some ⟨fb, 0, none⟩), .string p, .string p2] w fun e w' => RefPost w fb R room (renameRes l clock q q2) e w' := by
  by_cases hf : ∀ n, lookQ l q = .node n → n.dir = true
  · exact refRename_few h hw hp hq hf
  · obtain ⟨n, hr, hnd⟩ : ∃ n, lookQ l q = .node n ∧ n.dir = false := Classical.byContradiction fun hc => hf fun n hn => by
      cases hd : n.dir with
      | true => rfl
      | false => exact absurd ⟨n, hn, hd⟩ hc
    cases hn : lookQ l q2 with
    | root => exact refRename_second h hw hp hq hp2 hq2 hr hnd (by rw [hn]; exact LookR.noConfusion) (fun m e => by rw [hn] at e; cases e)
    | err c => exact refRename_second h hw hp hq hp2 hq2 hr hnd (by rw [hn]; exact LookR.noConfusion) (fun m e => by rw [hn] at e; cases e)
    | none =>
      have h1 : renameRes l clock q q2 = renameP l clock q q2 n := by unfold renameRes; rw [hr]; simp [hnd, hn]
      rw [h1]
      exact refRename_none h hw hp hq hp2 hq2 hr hnd hn
    | node m =>
      by_cases hs : m.dir = true ∨ q = q2
      · exact refRename_second h hw hp hq hp2 hq2 hr hnd (by rw [hn]; exact LookR.noConfusion) (fun m' e => by rw [hn] at e; cases e; exact hs)
      · have hmd : m.dir = false := by
          cases hd : m.dir with
          | true => exact absurd (Or.inl hd) hs
          | false => rfl
        have hne : q ≠ q2 := fun e => hs (Or.inr e)
        have h1 : renameRes l clock q q2 = renameP l clock q q2 n := by unfold renameRes; rw [hr]; simp [hnd, hn, hmd, hne]
        rw [h1]
        exact refRename_node h hw hp hq hp2 hq2 hr hnd hn hmd hne
end
end Go.Proofs.YtejofgdglpmlkaaGreatDoor
