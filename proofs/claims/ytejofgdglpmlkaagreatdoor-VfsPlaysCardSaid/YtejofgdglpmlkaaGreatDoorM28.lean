/-
  The reference's Read and Stat. Conditions: a tree that is right, texts of at most 2^31 bytes.
  errors.Is at a failure. Conditions: none.
  Read and Stat of a file system, at every path. Conditions: a tree that is right, texts of at most 2^31 bytes; the library's variable is laid.
  Stat of a file system, at every path. Conditions: a tree that is right, texts of at most 2^31 bytes; the library's variable is laid.
-/
import Derived.Test.YtejofgdglpmlkaaGreatDoorM27
import Derived.Test.YtejofgdglpmlkaaGreatDoorM24
import Derived.Test.YtejofgdglpmlkaaGreatDoorM20
import Derived.Lib.IfaceEq
import Derived.Test.YtejofgdglpmlkaaGreatDoorM21
import Derived.Test.YtejofgdglpmlkaaGreatDoorM15
namespace Go.Proofs.YtejofgdglpmlkaaGreatDoor
open Go.RowKit

section
variable {w w' w1 : World} {fb : Nat} {fv fv' : Value} {L L' : List NV} {R R' Tb : Nat → Prop} {l l' : St} {clock clock' room : Int} {p p2 : ByteArray} {q q2 : Bs} {n : PN}
set_option maxRecDepth 100000 in
set_option maxHeartbeats 4000000 in
theorem refRead_calls (h : RefIn w fb fv L R l clock room) (hw : Wf l clock room) (hp : p.size ≤ 2147483647) (hq : clean p.data.toList = q) :
    Calls Tryz.prog 47 #[.pointer (some ⟨fb, 0, none⟩), .string p] w fun e w' => ∃ v, e = .returned (.tuple #[v, .int .i64 (readP l q).2]) ∧ BytesAt w' v (readP l q).1 (fun k => w.heap.size ≤ k ∧ k < w'.heap.size) ∧ Below w.heap.size w w' := by
  have kl := Lib.hid (reflook_calls h hw.rising hw.len p hp)
  rw [hq] at kl
  clear hq
  have kh := Lib.hid h
  have kw := Lib.hid hw
  have hll := hw.len
  cases hr2 : lookQ l q with
  | root =>
    have kr := Lib.hid hr2
    have kf := Lib.hid (show readP l q = ([], 12) by unfold readP; rw [hr2])
    clear h hw hr2
    go_enter Tryz.func47, Tryz.ntmps47
    go_wp2_with (go_at_call 63; refine (kl.out).mono ?_; rintro e w1 ⟨k, y, rfl, hl, hb⟩; have kb := Lib.hid hb; obtain ⟨rfl, rfl⟩ := rlook_root kr.out hl; clear hl hb)
    go_ret2
    exact ⟨.slice none 0 0, by rw [kf.out]; rfl, by rw [kf.out]; exact BytesAt.nil _ _, kb.out⟩
  | err c =>
    have kr := Lib.hid hr2
    have kf := Lib.hid (show readP l q = ([], c) by unfold readP; rw [hr2])
    clear h hw hr2
    go_enter Tryz.func47, Tryz.ntmps47
    go_wp2_with (go_at_call 63; refine (kl.out).mono ?_; rintro e w1 ⟨k, y, rfl, hl, hb⟩; have kb := Lib.hid hb; obtain ⟨rfl, rfl, hc⟩ := rlook_err kr.out hl; obtain ⟨hc0, hc1⟩ := err_nz hc; clear hl hb)
    go_ret2
    exact ⟨.slice none 0 0, by rw [kf.out]; rfl, by rw [kf.out]; exact BytesAt.nil _ _, kb.out⟩
  | none =>
    have kr := Lib.hid hr2
    have kf := Lib.hid (show readP l q = ([], 10) by unfold readP; rw [hr2])
    clear h hw hr2
    go_enter Tryz.func47, Tryz.ntmps47
    go_wp2_with (go_at_call 63; refine (kl.out).mono ?_; rintro e w1 ⟨k, y, rfl, hl, hb⟩; have kb := Lib.hid hb; obtain ⟨rfl, rfl⟩ := rlook_none kr.out hl; clear hl hb)
    go_ret2
    exact ⟨.slice none 0 0, by rw [kf.out]; rfl, by rw [kf.out]; exact BytesAt.nil _ _, kb.out⟩
  | node n =>
    have kr := Lib.hid hr2
    obtain ⟨j, hj, hj0, hj1⟩ := find_get (lookQ_find.2 n hr2)
    obtain ⟨g, c, x, rfl, hx, hxn, -⟩ := h.node hj
    obtain ⟨y1, ⟨yd, yt, ydat⟩, y3⟩ := x
    obtain ⟨rfl, rfl⟩ : y1 = q ∧ n = ⟨yd, yt, ydat⟩ := by injection hxn with e1 e2; exact ⟨e1, e2.symm⟩
    obtain ⟨da, dc, hda⟩ := (h.data _ (List.mem_of_getElem? hx)).form
    replace hda : y3 = .slice da ydat.length dc := hda
    subst hda
    have kj := Lib.hid hj
    have kx := Lib.hid hx
    have hj2 := nat_ne2 j
    have hjm := nat_ne1 j
    have hj3 : ¬ ((j : Int) < 0) := by omega
    have hdl := (wf_data kw.out) _ (List.mem_of_getElem? hj)
    dsimp only at hdl
    cases yd with
    | true =>
      have kf := Lib.hid (show readP l y1 = ([], 12) by unfold readP; rw [hr2]; rfl)
      clear h hw hr2 hj hx hxn
      go_enter Tryz.func47, Tryz.ntmps47
      go_wp2_with (go_at_call 63; refine (kl.out).mono ?_; rintro e w1 ⟨k, y, rfl, hl, hb⟩; have kb := Lib.hid hb; obtain ⟨j', rfl, rfl, hj', -, -⟩ := rlook_node kr.out hl; obtain rfl := st_index kw.out.rising kj.out hj'; clear hj'; have kh1 := Lib.hid (kh.out.below kb.out); obtain ⟨f0, f1, f2, ff⟩ := cells3 kh1.out.hc; have hfl := heap_lt kh1.out.hc; obtain ⟨g', c', x', e, hx', -, hgl, -, hgc⟩ := kh1.out.node kj.out; injection e with e1 e2 e3; injection e1 with e1; injection e1 with e1; subst e1 e3; rw [kx.out] at hx'; injection hx' with hx'; subst hx'; have hgc1 := hgc 1 _ (by omega) rfl; clear hl hb)
      go_ret2
      exact ⟨.slice none 0 0, by rw [kf.out]; rfl, by rw [kf.out]; exact BytesAt.nil _ _, kb.out⟩
    | false =>
      have kf := Lib.hid (show readP l y1 = (ydat, 0) by unfold readP; rw [hr2]; rfl)
      clear h hw hr2 hj hx hxn
      go_enter Tryz.func47, Tryz.ntmps47
      go_wp2_with (first | (go_at_call 63; refine (kl.out).mono ?_; rintro e w1 ⟨k, y, rfl, hl, hb⟩; have kb := Lib.hid hb; obtain ⟨j', rfl, rfl, hj', -, -⟩ := rlook_node kr.out hl; obtain rfl := st_index kw.out.rising kj.out hj'; clear hj'; have kh1 := Lib.hid (kh.out.below kb.out); obtain ⟨f0, f1, f2, ff⟩ := cells3 kh1.out.hc; have hfl := heap_lt kh1.out.hc; obtain ⟨g', c', x', e, hx', -, hgl, -, hgc⟩ := kh1.out.node kj.out; injection e with e1 e2 e3; injection e1 with e1; injection e1 with e1; subst e1 e3; rw [kx.out] at hx'; injection hx' with hx'; subst hx'; have hgc1 := hgc 1 _ (by omega) rfl; have hgc3 := hgc 3 _ (by omega) rfl; have kda := Lib.hid (kh1.out.data _ (List.mem_of_getElem? kx.out)); clear hl hb) | (at_builtin; refine wpList_append_bytes _ rfl _ _ rfl w.heap.size (.slice none 0 0) [] rfl (World.ownsRow_nil _ _ _ _) (.slice da ydat.length dc) ydat _ rfl kda.out (by simp; omega) kb.out.size ?_; intro a5 c5 w5 ho5 hg5; rw [List.nil_append] at ho5; have k5 := Lib.hid ho5; have kB5 := Lib.hid (below_none kb.out (v := .slice none 0 0) hg5 (fun k e => by cases e)); clear ho5 hg5))
      go_ret2
      exact ⟨_, by rw [kf.out]; rfl, by rw [kf.out]; exact bytes_own k5.out, kB5.out⟩
/-- A stat's answer. -/
def statV (s : Int × Int × Int) : Value := .agg #[.int .i64 s.1, .int .i64 s.2.1, .int .i64 s.2.2]
set_option maxRecDepth 100000 in
set_option maxHeartbeats 8000000 in
theorem refStat_calls (h : RefIn w fb fv L R l clock room) (hw : Wf l clock room) (hp : p.size ≤ 2147483647) (hq : clean p.data.toList = q) :
    Calls Tryz.prog 50 #[.pointer (some ⟨fb, 0, none⟩), .string p] w fun e w' => e = .returned (statV (statP l q)) ∧ Below w.heap.size w w' := by
  have kB0 := Lib.hid (below_al (o := .cells #[.int .i64 0, .int .i64 0, .int .i64 0] 51) (Below.refl w.heap.size w))
  have kh0 := Lib.hid h
  have kh := Lib.hid (h.below kB0.out)
  have kl := Lib.hid (reflook_calls kh.out hw.rising hw.len p hp)
  rw [hq] at kl
  clear hq
  have kw := Lib.hid hw
  have hll := hw.len
  have kS := Lib.hid (show ∀ (w1 : World), Below (w.alloc (.cells #[.int .i64 0, .int .i64 0, .int .i64 0] 51)).heap.size (w.alloc (.cells #[.int .i64 0, .int .i64 0, .int .i64 0] 51)) w1 → Below w.heap.size w w1 from fun w1 hb => (below_al (Below.refl _ _)).trans (hb.mono (by simp)))
  have hwl : w.heap.size < (w.alloc (.cells #[.int .i64 0, .int .i64 0, .int .i64 0] 51)).heap.size := by simp
  have kwl := Lib.hid hwl
  clear hwl
  cases hr2 : lookQ l q with
  | root =>
    have kr := Lib.hid hr2
    have kf := Lib.hid (show statP l q = (2, 0, 0) by unfold statP; rw [hr2])
    clear h hw hr2
    go_enter Tryz.func50, Tryz.ntmps50
    go_wp2_with (go_at_call 63; refine (kl.out).mono ?_; rintro e w1 ⟨k, y, rfl, hl, hb⟩; have kb := Lib.hid hb; obtain ⟨rfl, rfl⟩ := rlook_root kr.out hl; obtain ⟨r0, r1, r2, ⟨rf0, rf1, rf2⟩, rl⟩ := stat_cells kb.out; clear hl hb)
    refine bodyPost_ret (v := .agg #[.int .i64 2, .int .i64 0, .int .i64 0]) (by simp [results, Tryz.results50, go_sem, r0, r1, r2]) rfl ⟨by rw [kf.out]; rfl, ?_⟩
    exact (((kS.out _ kb.out).setCell (Nat.le_refl _) _).setCell (Nat.le_refl _) _).setCell (Nat.le_refl _) _
  | err c =>
    have kr := Lib.hid hr2
    have kf := Lib.hid (show statP l q = (0, 0, 0) by unfold statP; rw [hr2])
    clear h hw hr2
    go_enter Tryz.func50, Tryz.ntmps50
    go_wp2_with (go_at_call 63; refine (kl.out).mono ?_; rintro e w1 ⟨k, y, rfl, hl, hb⟩; have kb := Lib.hid hb; obtain ⟨rfl, rfl, hc⟩ := rlook_err kr.out hl; obtain ⟨hc0, hc1⟩ := err_nz hc; obtain ⟨r0, r1, r2, ⟨rf0, rf1, rf2⟩, rl⟩ := stat_cells kb.out; clear hl hb)
    refine bodyPost_ret (v := .agg #[.int .i64 0, .int .i64 0, .int .i64 0]) (by simp [results, Tryz.results50, go_sem, r0, r1, r2]) rfl ⟨by rw [kf.out]; rfl, ?_⟩
    exact (((kS.out _ kb.out).setCell (Nat.le_refl _) _).setCell (Nat.le_refl _) _).setCell (Nat.le_refl _) _
  | none =>
    have kr := Lib.hid hr2
    have kf := Lib.hid (show statP l q = (0, 0, 0) by unfold statP; rw [hr2])
    clear h hw hr2
    go_enter Tryz.func50, Tryz.ntmps50
    go_wp2_with (go_at_call 63; refine (kl.out).mono ?_; rintro e w1 ⟨k, y, rfl, hl, hb⟩; have kb := Lib.hid hb; obtain ⟨rfl, rfl⟩ := rlook_none kr.out hl; obtain ⟨r0, r1, r2, ⟨rf0, rf1, rf2⟩, rl⟩ := stat_cells kb.out; clear hl hb)
    refine bodyPost_ret (v := .agg #[.int .i64 0, .int .i64 0, .int .i64 0]) (by simp [results, Tryz.results50, go_sem, r0, r1, r2]) rfl ⟨by rw [kf.out]; rfl, ?_⟩
    exact (((kS.out _ kb.out).setCell (Nat.le_refl _) _).setCell (Nat.le_refl _) _).setCell (Nat.le_refl _) _
  | node n =>
    have kr := Lib.hid hr2
    obtain ⟨j, hj, hj0, hj1⟩ := find_get (lookQ_find.2 n hr2)
    obtain ⟨g, c, x, rfl, hx, hxn, -⟩ := kh.out.node hj
    obtain ⟨y1, ⟨yd, yt, ydat⟩, y3⟩ := x
    obtain ⟨rfl, rfl⟩ : y1 = q ∧ n = ⟨yd, yt, ydat⟩ := by injection hxn with e1 e2; exact ⟨e1, e2.symm⟩
    obtain ⟨da, dc, hda⟩ := (kh.out.data _ (List.mem_of_getElem? hx)).form
    replace hda : y3 = .slice da ydat.length dc := hda
    subst hda
    have kj := Lib.hid hj
    have kx := Lib.hid hx
    have hj2 := nat_ne2 j
    have hjm := nat_ne1 j
    have hj3 : ¬ ((j : Int) < 0) := by omega
    have hdl := (wf_data kw.out) _ (List.mem_of_getElem? hj)
    dsimp only at hdl
    cases yd with
    | true =>
      have kf := Lib.hid (show statP l y1 = (2, yt, 0) by unfold statP; rw [hr2]; rfl)
      clear h hw hr2 hj hx hxn
      go_enter Tryz.func50, Tryz.ntmps50
      go_upto_region 7 with (go_at_call 63; refine (kl.out).mono ?_; rintro e w1 ⟨k, y, rfl, hl, hb⟩; have kb := Lib.hid hb; obtain ⟨j', rfl, rfl, hj', -, -⟩ := rlook_node kr.out hl; obtain rfl := st_index kw.out.rising kj.out hj'; clear hj'; have kh1 := Lib.hid (kh.out.below kb.out); obtain ⟨f0, f1, f2, ff⟩ := cells3 kh1.out.hc; have hfl := heap_lt kh1.out.hc; obtain ⟨g', c', x', e, hx', -, hgl, -, hgc⟩ := kh1.out.node kj.out; injection e with e1 e2 e3; injection e1 with e1; injection e1 with e1; subst e1 e3; rw [kx.out] at hx'; injection hx' with hx'; subst hx'; have hgc1 := hgc 1 _ (by omega) rfl; have hgc0 : w1.cell? ⟨g, j * 4, none⟩ = some (.string (mk y1)) := hgc 0 _ (by omega) rfl; have hgc2 := hgc 2 _ (by omega) rfl; have hgc3 := hgc 3 _ (by omega) rfl; obtain ⟨r0, r1, r2, ⟨rf0, rf1, rf2⟩, rl⟩ := stat_cells kb.out; clear hl hb)
      have kb2 := Lib.hid (kb.out.trans ((below_al (o := .cells #[.string (mk y1), .bool true, .int .i64 yt, .slice da ydat.length dc] 54) (Below.refl w1.heap.size w1)).mono kb.out.size))
      have kX := Lib.hid (heap_alloc_new w1 (.cells #[.string (mk y1), .bool true, .int .i64 yt, .slice da ydat.length dc] 54))
      clear f0 f1 f2 ff hfl hgc hgc0 hgc1 hgc2 hgc3 hgl r0 r1 r2 rf0 rf1 rf2 rl
      generalize w1.alloc (.cells #[.string (mk y1), .bool true, .int .i64 yt, .slice da ydat.length dc] 54) = W at *
      obtain ⟨r0, r1, r2, ⟨rf0, rf1, rf2⟩, rl⟩ := stat_cells kb2.out
      obtain ⟨n0, n1, n2, n3, -⟩ := cells4 kX.out
      have hnl := heap_lt kX.out
      go_wp2_with fail
      refine bodyPost_ret (v := .agg #[.int .i64 2, .int .i64 yt, .int .i64 0]) (by simp [results, Tryz.results50, go_sem, r0, r1, r2]) rfl ⟨by rw [kf.out]; rfl, ?_⟩
      exact (((kS.out _ kb2.out).setCell (Nat.le_refl _) _).setCell (Nat.le_refl _) _).setCell (Nat.le_refl _) _
    | false =>
      have kf := Lib.hid (show statP l y1 = (1, yt, (ydat.length : Int)) by unfold statP; rw [hr2]; rfl)
      clear h hw hr2 hj hx hxn
      go_enter Tryz.func50, Tryz.ntmps50
      go_upto_region 7 with (go_at_call 63; refine (kl.out).mono ?_; rintro e w1 ⟨k, y, rfl, hl, hb⟩; have kb := Lib.hid hb; obtain ⟨j', rfl, rfl, hj', -, -⟩ := rlook_node kr.out hl; obtain rfl := st_index kw.out.rising kj.out hj'; clear hj'; have kh1 := Lib.hid (kh.out.below kb.out); obtain ⟨f0, f1, f2, ff⟩ := cells3 kh1.out.hc; have hfl := heap_lt kh1.out.hc; obtain ⟨g', c', x', e, hx', -, hgl, -, hgc⟩ := kh1.out.node kj.out; injection e with e1 e2 e3; injection e1 with e1; injection e1 with e1; subst e1 e3; rw [kx.out] at hx'; injection hx' with hx'; subst hx'; have hgc1 := hgc 1 _ (by omega) rfl; have hgc0 : w1.cell? ⟨g, j * 4, none⟩ = some (.string (mk y1)) := hgc 0 _ (by omega) rfl; have hgc2 := hgc 2 _ (by omega) rfl; have hgc3 := hgc 3 _ (by omega) rfl; obtain ⟨r0, r1, r2, ⟨rf0, rf1, rf2⟩, rl⟩ := stat_cells kb.out; clear hl hb)
      have kb2 := Lib.hid (kb.out.trans ((below_al (o := .cells #[.string (mk y1), .bool false, .int .i64 yt, .slice da ydat.length dc] 54) (Below.refl w1.heap.size w1)).mono kb.out.size))
      have kX := Lib.hid (heap_alloc_new w1 (.cells #[.string (mk y1), .bool false, .int .i64 yt, .slice da ydat.length dc] 54))
      clear f0 f1 f2 ff hfl hgc hgc0 hgc1 hgc2 hgc3 hgl r0 r1 r2 rf0 rf1 rf2 rl
      generalize w1.alloc (.cells #[.string (mk y1), .bool false, .int .i64 yt, .slice da ydat.length dc] 54) = W at *
      obtain ⟨r0, r1, r2, ⟨rf0, rf1, rf2⟩, rl⟩ := stat_cells kb2.out
      obtain ⟨n0, n1, n2, n3, -⟩ := cells4 kX.out
      have hnl := heap_lt kX.out
      go_wp2_with fail
      refine bodyPost_ret (v := .agg #[.int .i64 1, .int .i64 yt, .int .i64 ydat.length]) (by simp [results, Tryz.results50, go_sem, r0, r1, r2]) rfl ⟨by rw [kf.out]; rfl, ?_⟩
      exact (((kS.out _ kb2.out).setCell (Nat.le_refl _) _).setCell (Nat.le_refl _) _).setCell (Nat.le_refl _) _
end
end Go.Proofs.YtejofgdglpmlkaaGreatDoor
namespace Go.Proofs.YtejofgdglpmlkaaGreatDoor
open Go.RowKit Go.Extern.Stop Go.Stop Go.Extern

theorem isComparableE (w : World) : ((ReflectliteType.method fun t => do Rtype.noPackHeld "Comparable" t; (fun a : TypeInfo => Value.bool a.comparable) <$> typeInfo t) #[.agg #[.pointer (some ⟨2, 29, none⟩)]]).run Tryz.prog w = .ok (.bool true) w := by kernel_rfl
theorem isMethodComparable (h : Value) (w : World) : (Go.method 304 122 (.agg #[h]) "Comparable").run Tryz.prog w = .ok (145, .agg #[h]) w := by kernel_rfl
theorem noIsF (v : Value) (xT : TypeId) (w : World) : (Instr.typeAssert (.iface 94 v) xT 124 true).run Tryz.prog w = .ok (.tuple #[.nilIface, .bool false]) w := run_typeAssert_lacksB Tryz.underlying124 (by kernel_rfl) (by kernel_rfl) v xT w
theorem noIsE (v : Value) (xT : TypeId) (w : World) : (Instr.typeAssert (.iface 29 v) xT 124 true).run Tryz.prog w = .ok (.tuple #[.nilIface, .bool false]) w := run_typeAssert_lacksB Tryz.underlying124 (by kernel_rfl) (by kernel_rfl) v xT w
theorem noUnwrapE (v : Value) (xT : TypeId) (w : World) : (Instr.typeAssert (.iface 29 v) xT 127 true).run Tryz.prog w = .ok (.tuple #[.nilIface, .bool false]) w := run_typeAssert_lacksB Tryz.underlying127 (by kernel_rfl) (by kernel_rfl) v xT w
theorem noUnwrapsE (v : Value) (xT : TypeId) (w : World) : (Instr.typeAssert (.iface 29 v) xT 129 true).run Tryz.prog w = .ok (.tuple #[.nilIface, .bool false]) w := run_typeAssert_lacksB Tryz.underlying129 (by kernel_rfl) (by kernel_rfl) v xT w
set_option maxRecDepth 100000 in
set_option maxHeartbeats 8000000 in
theorem isIn_calls (q : ByteArray) (e x : Int) (w : World) :
    Calls Tryz.prog 70 #[.iface 94 (.agg #[.string q, .iface 29 (.int .i64 e)]), .iface 29 (.int .i64 x), .bool true] w fun ev w' => (∃ b, ev = .returned (.bool b)) ∧ Below w.heap.size w w' := by
  have e1 := run_eql_iface_types (P := Tryz.prog) 94 29 (.agg #[.string q, .iface 29 (.int .i64 e)]) (.int .i64 x) Tryz.underlying70 (by decide)
  have mU := methodUnwrap
  have nF := noIsF
  have nE := noIsE
  have hU := hasUnwrapF
  have uE := noUnwrapE
  have vE := noUnwrapsE
  have e2 := fun w => Go.Lib.run_eql_iface_int (P := Tryz.prog) w (tx := 29) (k := .i64) e x Tryz.underlying70 (by kernel_rfl) Tryz.underlying29
  by_cases hex : e = x
  · subst hex
    have hb : (e == e) = true := beq_self_eq_true e
    go_enter Tryz.func70, Tryz.ntmps70
    go_wp2
    refine wp_loop_rounds 2 ?_
    rw [rounds_succ]
    go_wp2_with (go_at_call 139; refine (unwrap_calls q _ _).mono ?_; rintro e1 w1 ⟨rfl, hb1⟩; have kb1 := Lib.hid hb1; clear hb1)
    rw [rounds_succ]
    go_wp2
    go_ret
    exact ⟨⟨_, rfl⟩, kb1.out⟩
  · have hb : (e == x) = false := by rw [beq_eq_false_iff_ne]; exact hex
    go_enter Tryz.func70, Tryz.ntmps70
    go_wp2
    refine wp_loop_rounds 2 ?_
    rw [rounds_succ]
    go_wp2_with (go_at_call 139; refine (unwrap_calls q _ _).mono ?_; rintro e1 w1 ⟨rfl, hb1⟩; have kb1 := Lib.hid hb1; clear hb1)
    rw [rounds_succ]
    go_wp2
    go_ret
    exact ⟨⟨_, rfl⟩, kb1.out⟩
set_option maxRecDepth 100000 in
set_option maxHeartbeats 8000000 in
theorem is_calls (q : ByteArray) (e x : Int) (w : World) :
    Calls Tryz.prog 51 #[.iface 94 (.agg #[.string q, .iface 29 (.int .i64 e)]), .iface 29 (.int .i64 x)] w fun ev w' => (∃ b, ev = .returned (.bool b)) ∧ Below w.heap.size w w' := by
  have hT := @run_callFunc_extern Tryz.prog 69 _ ReflectliteType.typeOf Tryz.func69 (by kernel_rfl) (by kernel_rfl) (by kernel_rfl) (by kernel_rfl)
  have hC := @run_callFunc_extern Tryz.prog 145 _ (ReflectliteType.method fun t => do Rtype.noPackHeld "Comparable" t; pure (.bool (← typeInfo t).comparable)) Tryz.func145 (by kernel_rfl) (by kernel_rfl) (by kernel_rfl) (by kernel_rfl)
  have tE := typeOfE
  have cE := isComparableE
  have mC := isMethodComparable
  have kI := Lib.hid (isIn_calls q e x w)
  go_enter Tryz.func51, Tryz.ntmps51
  go_wp2_with (go_at_call 70; refine kI.out.mono ?_; rintro e1 w1 ⟨⟨b, rfl⟩, hb⟩; have kb := Lib.hid hb; clear hb)
  go_ret
  exact ⟨⟨_, rfl⟩, kb.out⟩
end Go.Proofs.YtejofgdglpmlkaaGreatDoor
namespace Go.Proofs.YtejofgdglpmlkaaGreatDoor
open Go.RowKit

theorem UBytes.trim {w : World} {a : Option Addr} {n c : Nat} {d : Bs} {S : Nat → Prop} (h : UBytes w (.slice a n c) d S) : UBytes w (.slice a n n) d S := by
  obtain ⟨⟨a', c', e, h1, h2, h3, h4⟩, h5⟩ := h
  injection e with e1 e2 e3
  subst e1 e2 e3
  refine ⟨⟨a, d.length, rfl, Nat.le_refl _, by omega, fun ha => by have := h3 ha; omega, h4⟩, fun b off n c e hn => ?_⟩
  injection e with e1 e2 e3
  subst e2 e3
  exact h5 b off _ _ (by rw [e1]) hn
theorem slice_caps {w : World} {a : Option Addr} {n c : Nat} {d : Bs} {S : Nat → Prop} (h : UBytes w (.slice a n c) d S) : (n : Int) ≤ (c : Int) ∧ (0 : Int) ≤ (n : Int) ∧ (c : Int) ≤ 9223372036854775807 := by
  obtain ⟨⟨a', c', e, h1, h2, h3, h4⟩, h5⟩ := h
  injection e with e1 e2 e3
  unfold maxLen at h2
  omega
section
variable {f mb : Nat} {N : Bs → Nat} {S Tb : Nat → Prop} {st : St} {clock room : Int} {p : ByteArray} {q bb : Bs} {w : World} {n : PN} {e0 : Int}
set_option maxRecDepth 100000 in
set_option maxHeartbeats 4000000 in
theorem read_calls (h : FsIn w f mb N S st clock room) (hw : Wf st clock room) (hp : p.size ≤ 2147483647) (hq : clean p.data.toList = q) (hlw : Laid w) :
    Calls Tryz.prog 46 #[.pointer (some ⟨f, 0, none⟩), .string p] w fun e w' => ∃ v, e = .returned (.tuple #[v, .int .i64 (readP st q).2]) ∧ UBytes w' v (readP st q).1 (fun k => w.heap.size ≤ k ∧ k < w'.heap.size) ∧ Below w.heap.size w w' := by
  have kub := Lib.hid (fun (W : World) (S : Nat → Prop) => (show UBytes W (.slice none 0 0) [] S from ⟨BytesAt.nil _ _, fun b off n c e hn => by injection e with e1; cases e1⟩))
  have kbad : ∀ e0, (lookQ st q = .err e0 ∨ lookQ st q = .none ∧ e0 = 10) → readP st q = ([], e0) → Calls Tryz.prog 46 #[.pointer (some ⟨f, 0, none⟩), .string p] w fun e w' => ∃ v, e = .returned (.tuple #[v, .int .i64 (readP st q).2]) ∧ UBytes w' v (readP st q).1 (fun k => w.heap.size ≤ k ∧ k < w'.heap.size) ∧ Below w.heap.size w w' := fun e0 hr hf => by
    have hL := Lib.hid (there_err w h hp hq hr)
    have klw := Lib.hid hlw
    have hl0 := hlw.lt
    have kf := Lib.hid hf
    generalize hQ : mk q = Q at *
    clear h hw hlw hq hr hf hQ
    go_enter Tryz.func46, Tryz.ntmps46
    go_wp2_with (first | (go_at_call 39; refine hL.out.mono ?_; rintro e w1 ⟨rfl, hb⟩; have kb := Lib.hid hb; clear hb) | (go_at_call 35; refine (number_calls Q e0 _ (klw.out.below hl0 (kb.out.mono (by omega)))).mono ?_; rintro e w2 ⟨rfl, hb⟩; have kb2 := Lib.hid hb; clear hb))
    go_ret2
    exact ⟨.slice none 0 0, by rw [kf.out]; rfl, by rw [kf.out]; exact kub.out _ _, kb.out.trans (kb2.out.mono kb.out.size)⟩
  cases hr : lookQ st q with
  | err e0 => exact kbad e0 (Or.inl hr) (by unfold readP; rw [hr])
  | none => exact kbad 10 (Or.inr ⟨hr, rfl⟩) (by unfold readP; rw [hr])
  | root =>
    have hL := Lib.hid (there_root w h hp hq hr)
    have kf := Lib.hid (show readP st q = ([], 12) by unfold readP; rw [hr])
    clear kbad h hw hlw hq hr
    go_enter Tryz.func46, Tryz.ntmps46
    go_wp2_with (first | (go_at_call 39; refine hL.out.mono ?_; rintro e w1 ⟨g, rfl, ⟨hg, hn⟩, hb⟩; have kb := Lib.hid hb; obtain ⟨n0, -, -, -⟩ := cells3 hn; have hnl := heap_lt hn; clear hb hn))
    go_ret2
    exact ⟨.slice none 0 0, by rw [kf.out]; rfl, by rw [kf.out]; exact kub.out _ _, kb.out⟩
  | node n =>
    have hL := Lib.hid (there_node w h hp hq hr)
    obtain ⟨nv, hnb, hnv⟩ := (h.node q n (lookQ_find.2 n hr)).2.2
    have knb := Lib.hid hnb
    obtain ⟨na, nc, hnvf⟩ := hnv.form
    subst hnvf
    have kS := Lib.hid h.lt
    have knv := Lib.hid hnv
    cases hd : n.dir with
    | true =>
      rw [hd] at knb
      have kf := Lib.hid (show readP st q = ([], 12) by unfold readP; rw [hr]; simp [hd])
      clear kbad h hw hlw hq hr hnb hnv hd
      go_enter Tryz.func46, Tryz.ntmps46
      go_wp2_with (first | (go_at_call 39; refine hL.out.mono ?_; rintro e w1 ⟨rfl, hb⟩; have kb := Lib.hid hb; have hnb1 := (hb.block _ (heap_lt knb.out)).trans knb.out; obtain ⟨n0, n1, n2, -⟩ := cells3 hnb1; have hnl := heap_lt hnb1; clear hb hnb1))
      go_ret2
      exact ⟨.slice none 0 0, by rw [kf.out]; rfl, by rw [kf.out]; exact kub.out _ _, kb.out⟩
    | false =>
      rw [hd] at knb
      have kf := Lib.hid (show readP st q = (n.data, 0) by unfold readP; rw [hr]; simp [hd])
      have hdl : n.data.length ≤ 65536 := (hw.node q n (lookQ_find.2 n hr)).2.2.2.2.1 hd
      clear kbad h hw hlw hq hr hnb hnv hd
      go_enter Tryz.func46, Tryz.ntmps46
      go_wp2_with (first | (go_at_call 39; refine hL.out.mono ?_; rintro e w1 ⟨rfl, hb⟩; have kb := Lib.hid hb; have hnb1 := (hb.block _ (heap_lt knb.out)).trans knb.out; obtain ⟨n0, n1, n2, -⟩ := cells3 hnb1; have hnl := heap_lt hnb1; have kda := Lib.hid (knv.out.of_heap (w' := w1) (fun k hk => hb.block k (kS.out k hk)) (fun _ h => h)); clear hb hnb1) | (at_builtin; refine wpList_append_bytes _ rfl _ _ rfl w.heap.size (.slice none 0 0) [] rfl (World.ownsRow_nil _ _ _ _) (.slice na n.data.length nc) n.data _ rfl kda.out (by simp; omega) kb.out.size ?_; intro a5 c5 w5 ho5 hg5; rw [List.nil_append] at ho5; have k5 := Lib.hid (ubytes_own ho5); have kB5 := Lib.hid (below_none kb.out (v := .slice none 0 0) hg5 (fun k e => by cases e)); obtain ⟨z1, z2, z3⟩ := slice_caps k5.out; clear ho5 hg5))
      go_ret2
      exact ⟨_, by rw [kf.out]; rfl, by rw [kf.out]; exact k5.out.trim, kB5.out⟩
end
end Go.Proofs.YtejofgdglpmlkaaGreatDoor
namespace Go.Proofs.YtejofgdglpmlkaaGreatDoor
open Go.RowKit

section
variable {f mb : Nat} {N : Bs → Nat} {S Tb : Nat → Prop} {st : St} {clock room : Int} {p : ByteArray} {q bb : Bs} {w : World} {n : PN} {e0 : Int}
set_option maxRecDepth 100000 in
set_option maxHeartbeats 8000000 in
theorem stat_calls (h : FsIn w f mb N S st clock room) (hp : p.size ≤ 2147483647) (hq : clean p.data.toList = q) :
    Calls Tryz.prog 27 #[.pointer (some ⟨f, 0, none⟩), .string p] w fun e w' => e = .returned (statV (statP st q)) ∧ Below w.heap.size w w' := by
  have hw0 := Lib.hid (h.below (below_al (o := .cells #[.int .i64 0, .int .i64 0, .int .i64 0] 51) (Below.refl _ _)))
  have kS := Lib.hid (show ∀ (w1 : World), Below (w.alloc (.cells #[.int .i64 0, .int .i64 0, .int .i64 0] 51)).heap.size (w.alloc (.cells #[.int .i64 0, .int .i64 0, .int .i64 0] 51)) w1 → Below w.heap.size w w1 from fun w1 hb => (below_al (Below.refl _ _)).trans (hb.mono (by simp)))
  have kbad : ∀ e0, (lookQ st q = .err e0 ∨ lookQ st q = .none ∧ e0 = 10) → statP st q = (0, 0, 0) → Calls Tryz.prog 27 #[.pointer (some ⟨f, 0, none⟩), .string p] w fun e w' => e = .returned (statV (statP st q)) ∧ Below w.heap.size w w' := fun e0 hr hf => by
    have hL := Lib.hid (there_err _ hw0.out hp hq hr)
    have kf := Lib.hid hf
    generalize hQ : mk q = Q at *
    clear h hq hr hf hQ
    go_enter Tryz.func27, Tryz.ntmps27
    go_wp2_with (first | (go_at_call 39; refine hL.out.mono ?_; rintro e w1 ⟨rfl, hb⟩; have kb := Lib.hid hb; clear hb) | (go_at_call 51; refine (is_calls Q e0 10 _).mono ?_; rintro e w2 ⟨⟨b, rfl⟩, hb⟩; have kb2 := Lib.hid (kb.out.trans (hb.mono kb.out.size)); clear hb; obtain ⟨r0, r1, r2, ⟨rf0, rf1, rf2⟩, rl⟩ := stat_cells kb2.out; cases b))
    all_goals go_wp2
    all_goals
      refine bodyPost_ret (v := .agg #[.int .i64 0, .int .i64 0, .int .i64 0]) (by simp [results, Tryz.results27, go_sem, r0, r1, r2]) rfl ⟨by rw [kf.out]; rfl, ?_⟩
      exact (((kS.out _ kb2.out).setCell (Nat.le_refl _) _).setCell (Nat.le_refl _) _).setCell (Nat.le_refl _) _
  cases hr : lookQ st q with
  | err e0 => exact kbad e0 (Or.inl hr) (by unfold statP; rw [hr])
  | none => exact kbad 10 (Or.inr ⟨hr, rfl⟩) (by unfold statP; rw [hr])
  | root =>
    have hL := Lib.hid (there_root _ hw0.out hp hq hr)
    have kf := Lib.hid (show statP st q = (2, 0, 0) by unfold statP; rw [hr])
    clear kbad h hq hr
    generalize mk q = Q at *
    go_enter Tryz.func27, Tryz.ntmps27
    go_wp2_with (first | (go_at_call 51; refine (errIs_nil 10 _).mono ?_; rintro e w2 ⟨rfl, rfl⟩) | (go_at_call 39; refine hL.out.mono ?_; rintro e w1 ⟨g, rfl, ⟨hg, hn⟩, hb⟩; have kb := Lib.hid hb; obtain ⟨n0, n1, -, -⟩ := cells3 hn; have hnl := heap_lt hn; clear hb hn; obtain ⟨r0, r1, r2, ⟨rf0, rf1, rf2⟩, rl⟩ := stat_cells kb.out))
    refine bodyPost_ret (v := .agg #[.int .i64 2, .int .i64 0, .int .i64 0]) (by simp [results, Tryz.results27, go_sem, r0, r1, r2]) rfl ⟨by rw [kf.out]; rfl, ?_⟩
    exact (((kS.out _ kb.out).setCell (Nat.le_refl _) _).setCell (Nat.le_refl _) _).setCell (Nat.le_refl _) _
  | node n =>
    cases hd : n.dir with
    | false =>
      have hf : statP st q = (1, n.time, (n.data.length : Int)) := by unfold statP; rw [hr]; simp [hd]
      rw [hf]
      exact stat_file h hp hq hr hd
    | true =>
      have kf := Lib.hid (show statP st q = (2, n.time, 0) by unfold statP; rw [hr]; simp [hd])
      have hL := Lib.hid (there_node _ hw0.out hp hq hr)
      obtain ⟨nv, hnb, hnv⟩ := (h.node q n (lookQ_find.2 n hr)).2.2
      rw [hd] at hnb
      have knb := Lib.hid hnb
      clear kbad h hq hr hnb hnv hd
      generalize mk q = Q at *
      go_enter Tryz.func27, Tryz.ntmps27
      go_wp2_with (first | (go_at_call 51; refine (errIs_nil 10 _).mono ?_; rintro e w2 ⟨rfl, rfl⟩) | (go_at_call 39; refine hL.out.mono ?_; rintro e w1 ⟨rfl, hb⟩; have kb := Lib.hid hb; clear hb; obtain ⟨r0, r1, r2, ⟨rf0, rf1, rf2⟩, rl⟩ := stat_cells kb.out; obtain ⟨n0, n1, n2, n3, nlt, nne⟩ := stat_node kb.out knb.out))
      refine bodyPost_ret (v := .agg #[.int .i64 2, .int .i64 n.time, .int .i64 0]) (by simp [results, Tryz.results27, go_sem, r0, r1, r2]) rfl ⟨by rw [kf.out]; rfl, ?_⟩
      exact (((kS.out _ kb.out).setCell (Nat.le_refl _) _).setCell (Nat.le_refl _) _).setCell (Nat.le_refl _) _
end
end Go.Proofs.YtejofgdglpmlkaaGreatDoor
