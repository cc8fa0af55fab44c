/-
  Tree of a file system. Conditions: at most 2^40 nodes.
-/
import Derived.Test.YtejofgdglpmlkaaGreatDoorM27
import Derived.Test.YtejofgdglpmlkaaGreatDoorM15
import Derived.Test.YtejofgdglpmlkaaGreatDoorM08
import Derived.Deep.DrawnRows
namespace Go.Proofs.YtejofgdglpmlkaaGreatDoor
open Go.RowKit
attribute [local go_sem ↓] Go.wp_at_zero Go.wp_at_succ

section
variable {f mb : Nat} {N : Bs → Nat} {S : Nat → Prop} {st : St} {clock room : Int} {w : World}
theorem PathsAt.form {B : Nat} {w : World} {v : Value} {l : List Bs} (h : PathsAt B w v l) : ∃ a c, v = .slice a l.length c := by obtain ⟨a, c, e, _⟩ := h; exact ⟨a, c, e⟩
theorem PathsAt.at {B : Nat} {w : World} {a : Option Addr} {n c : Nat} {l : List Bs} (h : PathsAt B w (.slice a n c) l) {k : Nat} {x : Bs} (hk : l[k]? = some x) : ∃ g, a = some ⟨g, 0, none⟩ ∧ B ≤ g ∧ g < w.heap.size ∧ w.cell? ⟨g, k, none⟩ = some (.string (mk x)) := by
  obtain ⟨a', c', e, h0⟩ := h
  injection e with e1 e2 e3
  subst e1
  obtain ⟨g, h1, h2, h3, h4⟩ := h0 (by have := (List.getElem?_eq_some_iff.1 hk).1; omega)
  exact ⟨g, h1, h2, h3, h4 k x hk⟩
/-- What Tree's loop keeps; w3: the world behind paths. -/
def TreeInv (w3 : World) (tb : Nat) (st : St) (clock room : Int) (k : Nat) (wr : World) : Prop :=
  Kept (· = tb) w3 wr ∧ ∃ nv L, wr.heap[tb]? = some (.cells #[nv, .int .i64 clock, .int .i64 room] 24 (0, 0)) ∧ L.map NV.nd = st.take k ∧ NodesOwn wr w3.heap.size nv L
theorem TreeInv.next {w3 wr w4 w6 w7 : World} {tb k : Nat} {nv row nv' : Value} {L : List NV} {x : Bs × PN} {cs : Array Value} (htb : tb < w3.heap.size) (hK : Kept (· = tb) w3 wr) (hc : wr.heap[tb]? = some (.cells #[nv, .int .i64 clock, .int .i64 room] 24 (0, 0))) (hL : L.map NV.nd = st.take k) (hN : NodesOwn wr w3.heap.size nv L) (hx : st[k]? = some x)
    (h4 : Below wr.heap.size wr w4) (h6 : NodesOwn w6 w3.heap.size nv' (L ++ [NV.make x.1 x.2 row])) (hg6 : (w4.alloc (.cells cs 54)).grownBy w6 nv.ownBlock) (e7 : w7 = w6.setCell ⟨tb, 0, none⟩ nv') : TreeInv w3 tb st clock room (k + 1) w7 := by
  have hnv := fun g hg => (hN.lt g hg).1
  have h40 := h4.size
  have far : ∀ j, j < wr.heap.size → j < w3.heap.size → w6.heap[j]? = wr.heap[j]? := fun j hj hj3 => by
    rw [hg6.block j (by simp; omega) (fun e => by have := hnv j e.symm; omega), heap_alloc_old _ _ (by omega), h4.block j hj]
  have hg7 := set_grown w6 tb 0 nv'
  have hkz := hK.size
  have h60 := hg6.size
  simp at h60
  subst e7
  refine ⟨⟨(hg6.os.trans h4.os).trans hK.os, (hg6.tape.trans h4.tape).trans hK.tape, (hg6.output.trans h4.output).trans hK.output, by have := hg7.size; omega, fun j hj hne => ?_⟩, nv', _, ?_, ?_, h6.grown hg7 (fun g e => by injection e with e; omega)⟩
  · rw [hg7.block j (by omega) (fun e => hne (by injection e)), far j (by omega) hj]
    exact hK.block j hj hne
  · have := set_heap (w := w6) (b := tb) ((far tb (by omega) htb).trans hc) 0 nv'
    exact this
  · rw [List.map_append, hL, take_more hx]; rfl
/-- A round of Tree's loop: the node that is copied. -/
structure TreeCtx (w3 wr : World) (tb nb : Nat) (st : St) (clock room : Int) (k : Nat) (nv : Value) (L : List NV) (x : Bs × PN) (dv : Value) : Prop where make ::
  htb : tb < w3.heap.size
  kept : Kept (· = tb) w3 wr
  hc : wr.heap[tb]? = some (.cells #[nv, .int .i64 clock, .int .i64 room] 24 (0, 0))
  hL : L.map NV.nd = st.take k
  hN : NodesOwn wr w3.heap.size nv L
  hx : st[k]? = some x
  hnb : wr.heap[nb]? = some (.cells #[.bool x.2.dir, .int .i64 x.2.time, dv] 61 (0, 0))
  hnl : nb < w3.heap.size
  hne : nb ≠ tb
/-- Behind the append of its bytes. -/
structure TreeApp (w3 wr : World) (tb nb : Nat) (st : St) (clock room : Int) (k : Nat) (nv : Value) (L : List NV) (x : Bs × PN) (dv : Value) (row : Value) (w4 : World) : Prop where make ::
  ctx : TreeCtx w3 wr tb nb st clock room k nv L x dv
  below : Below wr.heap.size wr w4
  own : w4.ownsRow wr.heap.size 5 1 row ([] ++ x.2.data).length (ucells ([] ++ x.2.data))
section
variable {w3 wr w4 w6 : World} {tb nb k : Nat} {nv dv row nv' : Value} {L : List NV} {x : Bs × PN}
def nodeObj (x : Bs × PN) (row : Value) : Obj := .cells #[.string (mk x.1), .bool x.2.dir, .int .i64 x.2.time, row] 54
theorem tree_app (hT : TreeCtx w3 wr tb nb st clock room k nv L x dv) (hg : wr.drew.grownBy w4 (Value.slice none 0 0).ownBlock) (ho : w4.ownsRow wr.drew.heap.size 5 1 row ([] ++ x.2.data).length (ucells ([] ++ x.2.data))) : TreeApp w3 wr tb nb st clock room k nv L x dv row w4 :=
  ⟨hT, ⟨hg.os, hg.tape, hg.output, hg.size, fun j hj => hg.block j hj (by simp [Value.ownBlock])⟩, ho⟩
theorem TreeApp.far (h : TreeApp w3 wr tb nb st clock room k nv L x dv row w4) {b : Nat} {o : Obj} (hb : wr.heap[b]? = some o) : w4.heap[b]? = some o ∧ (w4.alloc (nodeObj x row)).heap[b]? = some o := by
  have h4 := (h.below.block b (heap_lt hb)).trans hb
  exact ⟨h4, (heap_alloc_old _ _ (heap_lt h4)).trans h4⟩
theorem TreeApp.far6 (h : TreeApp w3 wr tb nb st clock room k nv L x dv row w4) (hg6 : (w4.alloc (nodeObj x row)).grownBy w6 nv.ownBlock) {b : Nat} {o : Obj} (hb : wr.heap[b]? = some o) (hb3 : b < w3.heap.size) : w6.heap[b]? = some o := by
  have h5 := (h.far hb).2
  exact (hg6.block b (heap_lt h5) (fun e => by have := (h.ctx.hN.lt b e.symm).1; omega)).trans h5
theorem node_held {W : World} (h : W.heap[nb]? = some (.cells #[.bool x.2.dir, .int .i64 x.2.time, dv] 61 (0, 0))) : W.cell? ⟨nb, 0, none⟩ = some (.bool x.2.dir) ∧ W.cell? ⟨nb, 1, none⟩ = some (.int .i64 x.2.time) ∧ W.cell? ⟨nb, 2, none⟩ = some dv := by
  obtain ⟨a, b, c, _⟩ := cells3 h; exact ⟨a, b, c⟩
theorem TreeApp.held (h : TreeApp w3 wr tb nb st clock room k nv L x dv row w4) : w4.cell? ⟨nb, 0, none⟩ = some (.bool x.2.dir) ∧ w4.cell? ⟨nb, 1, none⟩ = some (.int .i64 x.2.time) ∧ w4.cell? ⟨nb, 2, none⟩ = some dv := node_held (h.far h.ctx.hnb).1
theorem TreeApp.held5 (h : TreeApp w3 wr tb nb st clock room k nv L x dv row w4) : (w4.alloc (nodeObj x row)).cell? ⟨nb, 0, none⟩ = some (.bool x.2.dir) ∧ (w4.alloc (nodeObj x row)).cell? ⟨nb, 1, none⟩ = some (.int .i64 x.2.time) ∧ (w4.alloc (nodeObj x row)).cell? ⟨nb, 2, none⟩ = some dv := node_held (h.far h.ctx.hnb).2
theorem TreeApp.held6 (h : TreeApp w3 wr tb nb st clock room k nv L x dv row w4) (hg6 : (w4.alloc (nodeObj x row)).grownBy w6 nv.ownBlock) : w6.cell? ⟨nb, 0, none⟩ = some (.bool x.2.dir) ∧ w6.cell? ⟨nb, 1, none⟩ = some (.int .i64 x.2.time) ∧ w6.cell? ⟨nb, 2, none⟩ = some dv := node_held (h.far6 hg6 h.ctx.hnb h.ctx.hnl)
theorem TreeApp.held7 (h : TreeApp w3 wr tb nb st clock room k nv L x dv row w4) (hg6 : (w4.alloc (nodeObj x row)).grownBy w6 nv.ownBlock) {v : Value} : (w6.setCell ⟨tb, 0, none⟩ v).cell? ⟨nb, 0, none⟩ = some (.bool x.2.dir) ∧ (w6.setCell ⟨tb, 0, none⟩ v).cell? ⟨nb, 1, none⟩ = some (.int .i64 x.2.time) ∧ (w6.setCell ⟨tb, 0, none⟩ v).cell? ⟨nb, 2, none⟩ = some dv := by
  have h6 := h.far6 hg6 h.ctx.hnb h.ctx.hnl
  exact node_held (((set_grown w6 tb 0 v).block nb (heap_lt h6) (fun e => h.ctx.hne (by injection e))).trans h6)
theorem TreeApp.tcells (h : TreeApp w3 wr tb nb st clock room k nv L x dv row w4) : w4.heap[tb]? = some (.cells #[nv, .int .i64 clock, .int .i64 room] 24 (0, 0)) := (h.far h.ctx.hc).1
theorem TreeApp.tcells5 (h : TreeApp w3 wr tb nb st clock room k nv L x dv row w4) : (w4.alloc (nodeObj x row)).heap[tb]? = some (.cells #[nv, .int .i64 clock, .int .i64 room] 24 (0, 0)) := (h.far h.ctx.hc).2
theorem TreeApp.tcells6 (h : TreeApp w3 wr tb nb st clock room k nv L x dv row w4) (hg6 : (w4.alloc (nodeObj x row)).grownBy w6 nv.ownBlock) : w6.heap[tb]? = some (.cells #[nv, .int .i64 clock, .int .i64 room] 24 (0, 0)) := h.far6 hg6 h.ctx.hc h.ctx.htb
theorem TreeApp.base (h : TreeApp w3 wr tb nb st clock room k nv L x dv row w4) : w3.heap.size ≤ (w4.alloc (nodeObj x row)).heap.size := by have := h.ctx.kept.size; have := h.below.size; simp; omega
theorem TreeApp.nodes5 (h : TreeApp w3 wr tb nb st clock room k nv L x dv row w4) : NodesOwn (w4.alloc (nodeObj x row)) w3.heap.size nv L := by
  have hg4 : wr.grownBy w4 none := ⟨h.below.os, h.below.tape, h.below.output, h.below.size, fun j hj _ => h.below.block j hj⟩
  exact (h.ctx.hN.grown hg4 (fun _ e => by cases e)).grown (row := none) (World.grownBy_alloc _ _ _) (fun _ e => by cases e)
theorem TreeApp.bytes5 (h : TreeApp w3 wr tb nb st clock room k nv L x dv row w4) : UBytes (w4.alloc (nodeObj x row)) (NV.make x.1 x.2 row).dv (NV.make x.1 x.2 row).n.data (fun j => w3.heap.size ≤ j ∧ j < (w4.alloc (nodeObj x row)).heap.size ∧ nv.ownBlock ≠ some j) :=
  (ubytes_own h.own).of_heap (fun j hj => heap_alloc_old _ _ hj.2) (fun j hj => ⟨Nat.le_trans h.ctx.kept.size hj.1, by simp; omega, fun e => by have := (h.ctx.hN.lt j e).2; omega⟩)
theorem TreeApp.src (h : TreeApp w3 wr tb nb st clock room k nv L x dv row w4) : ∀ j u, (NV.make x.1 x.2 row).cells[j]? = some u → (w4.alloc (nodeObj x row)).cell? ((⟨w4.heap.size, 0, none⟩ : Addr).add j) = some u := by
  have := h.own
  intro j u hu
  exact cells_new w4 (NV.make x.1 x.2 row).cells 54 j u hu
theorem TreeApp.next (h : TreeApp w3 wr tb nb st clock room k nv L x dv row w4) (h6 : NodesOwn w6 w3.heap.size nv' (L ++ [NV.make x.1 x.2 row])) (hg6 : (w4.alloc (nodeObj x row)).grownBy w6 nv.ownBlock) : TreeInv w3 tb st clock room (k + 1) (w6.setCell ⟨tb, 0, none⟩ nv') :=
  TreeInv.next h.ctx.htb h.ctx.kept h.ctx.hc h.ctx.hL h.ctx.hN h.ctx.hx h.below h6 hg6 rfl
end
theorem treeG_cells {w0 w3 : World} {c0 : Value} (h0 : w0.heap[w.heap.size + 1]? = some (.cells #[.slice none 0 0, .int .i64 clock, .int .i64 room] 24 (0, 0))) (hr : w0.heap[w.heap.size]? = some (.cells #[c0, .int .i64 0, .int .i64 0] 24 (0, 0))) (hb : Below w0.heap.size w0 w3) :
    w3.heap[w.heap.size + 1]? = some (.cells #[.slice none 0 0, .int .i64 clock, .int .i64 room] 24 (0, 0)) ∧ w3.heap[w.heap.size]? = some (.cells #[c0, .int .i64 0, .int .i64 0] 24 (0, 0)) :=
  ⟨(hb.block _ (heap_lt h0)).trans h0, (hb.block _ (heap_lt hr)).trans hr⟩
set_option maxRecDepth 100000 in
set_option maxHeartbeats 8000000 in
theorem tree_calls (h : FsIn w f mb N S st clock room) (hwt : wt st ≤ 1099511627775) : Calls Tryz.prog 14 #[.pointer (some ⟨f, 0, none⟩)] w fun e w' => ∃ nv L, e = .returned (.agg #[nv, .int .i64 clock, .int .i64 room]) ∧ L.map NV.nd = st ∧ NodesOwn w' w.heap.size nv L ∧ Below w.heap.size w w' := by
  have kh := Lib.hid h
  have hlen : st.length ≤ 1099511627775 := by unfold wt at hwt; omega
  obtain ⟨-, hc1, hc2, -, -⟩ := cells4 h.cells
  have hfl := h.lt f h.sf
  clear h
  go_enter Tryz.func14, Tryz.ntmps14
  go_wp2_with fail
  go_region
  have kb0 := Lib.hid (show Below w.heap.size w (((w.alloc (.cells #[.slice none 0 0, .int .i64 0, .int .i64 0] 24)).alloc (.cells #[.slice none 0 0, .int .i64 clock, .int .i64 room] 24)).drew) from (below_al (below_al (Below.refl _ _))).trans ⟨rfl, rfl, rfl, Nat.le_refl _, fun _ _ => rfl⟩)
  have kt0 := Lib.hid (show ((w.alloc (.cells #[.slice none 0 0, .int .i64 0, .int .i64 0] 24)).alloc (.cells #[.slice none 0 0, .int .i64 clock, .int .i64 room] 24)).drew.heap[w.heap.size + 1]? = some (.cells #[.slice none 0 0, .int .i64 clock, .int .i64 room] 24 (0, 0)) from by
    have := heap_alloc_new (w.alloc (.cells #[.slice none 0 0, .int .i64 0, .int .i64 0] 24)) (.cells #[.slice none 0 0, .int .i64 clock, .int .i64 room] 24)
    have e : (w.alloc (.cells #[.slice none 0 0, .int .i64 0, .int .i64 0] 24)).heap.size = w.heap.size + 1 := by simp
    rw [e] at this
    exact this)
  have kr0 := Lib.hid (show ((w.alloc (.cells #[.slice none 0 0, .int .i64 0, .int .i64 0] 24)).alloc (.cells #[.slice none 0 0, .int .i64 clock, .int .i64 room] 24)).drew.heap[w.heap.size]? = some (.cells #[.slice none 0 0, .int .i64 0, .int .i64 0] 24 (0, 0)) from (heap_alloc_old (w.alloc _) _ (by simp)).trans (heap_alloc_new w _))
  generalize ((w.alloc (.cells #[.slice none 0 0, .int .i64 0, .int .i64 0] 24)).alloc (.cells #[.slice none 0 0, .int .i64 clock, .int .i64 room] 24)).drew = w0 at *
  have hP := Lib.hid (paths_calls (kh.out.below kb0.out) hlen)
  clear hc1 hc2 hfl
  go_wp2_with (go_at_call 33; refine hP.out.mono ?_; rintro e w3 ⟨pv, rfl, hpv, hb⟩; have kb3 := Lib.hid hb; clear hb; obtain ⟨pa, pc, hpf⟩ := hpv.form; subst hpf; have kpv := Lib.hid hpv; clear hpv)
  have kB := Lib.hid (kb0.out.trans (kb3.out.mono kb0.out.size))
  obtain ⟨ht3, hr3⟩ := treeG_cells kt0.out kr0.out kb3.out
  have htb0 := heap_lt kt0.out
  have htb3 := heap_lt ht3
  have kt3 := Lib.hid ht3
  have kr3 := Lib.hid hr3
  have kh3 := Lib.hid (kh.out.below kB.out)
  clear ht3 hr3 kt0 kr0 kb3 kb0 hP
  go_loopw [19] (fun iv wr => ∃ k : Nat, k ≤ st.length ∧ iv = .int .i64 k ∧ TreeInv w3 (w.heap.size + 1) st clock room k wr) (fun iv _ => st.length - (intOf iv).toNat)
  case atStart => exact ⟨0, Nat.zero_le _, rfl, Kept.refl _ _, _, [], kt3.out, rfl, NodesOwn.nil _ _⟩
  case round =>
    obtain ⟨k, hk, rfl, hI⟩ := hrel
    have kI := Lib.hid hI
    clear hI
    by_cases hlt : k < st.length
    · obtain ⟨x, hx⟩ : ∃ x, st[k]? = some x := ⟨_, List.getElem?_eq_getElem hlt⟩
      have kx := Lib.hid hx
      obtain ⟨hKt, nv, L, htc, hLm, hN⟩ := kI.out
      obtain ⟨na, nc, hnf⟩ := hN.form
      subst hnf
      have hLl : L.length = k := by have := congrArg List.length hLm; simp at this; omega
      have kLl := Lib.hid hLl
      clear hLl
      have kF := Lib.hid (kh3.out.other hKt (fun j hj e => by have := kh.out.lt j hj; omega))
      have hfind := find_of_mem kh.out.rising (p := x.1) (n := x.2) (List.mem_of_getElem? hx)
      obtain ⟨hxl, hNS, dv, hnb, hdv⟩ := kF.out.node x.1 x.2 hfind
      have hnl := kh.out.lt _ hNS
      obtain ⟨da, dc, hdf⟩ := hdv.form
      subst hdf
      have h3z := kB.out.size
      have kT := Lib.hid (TreeCtx.make (nb := N x.1) htb3 hKt htc hLm hN hx hnb (by omega) (by omega))
      have kdb := Lib.hid (hdv.of_heap (w' := wr.drew) (fun _ _ => rfl) (fun _ h => h))
      have hdl := find_len kh.out.rising hfind
      obtain ⟨g, hga, hgB, hgl, hpc3⟩ := kpv.out.at (k := k) (x := x.1) (by rw [List.getElem?_map, hx]; rfl)
      subst hga
      have hpc : wr.cell? ⟨g, k, none⟩ = some (.string (mk x.1)) := (World.cell?_of_block (a := ⟨g, k, none⟩) (hKt.block g hgl (by omega))).trans hpc3
      have hlk := kF.out.map.look (mk x.1) (by rw [mk_size]; unfold maxLen; omega)
      have hpa : ptrAt st N (mk x.1).data.toList = .pointer (some ⟨N x.1, 0, none⟩) := by rw [mk_list]; unfold ptrAt; rw [hfind]
      rw [hpa] at hlk
      obtain ⟨e0, e1, e2⟩ := node_held hnb
      obtain ⟨t0, -, -, -⟩ := cells3 htc
      have hf0 := (cells4 kF.out.cells).1
      have kxl := Lib.hid hxl
      clear hx hKt htc hLm hN hfind hNS hnb hdv hpa hpc3 hxl
      go_wp2
      refine wp_region_held_drew (S := fun w' => w'.cell? ⟨N x.1, 0, none⟩ = some (.bool x.2.dir) ∧ w'.cell? ⟨N x.1, 1, none⟩ = some (.int .i64 x.2.time) ∧ w'.cell? ⟨N x.1, 2, none⟩ = some (.slice da x.2.data.length dc)) (by kernel_rfl) ⟨e0, e1, e2⟩ (fun hH0 => ?_)
      refine rtk 0 (some 29) ?_ rfl (fun w' hw => ?_) hH0 ?_
      rotate_left 1
      · obtain ⟨n0, n1, n2⟩ := hw; go_simp; first | done | with_reducible rfl
      try simp only [pz0, pz1, pz2, pz3]
      refine rtk 2 (some 31) ?_ rfl (fun w' hw => ?_) hH0 ?_
      rotate_left 1
      · obtain ⟨n0, n1, n2⟩ := hw; go_simp; first | done | with_reducible rfl
      try simp only [pz0, pz1, pz2, pz3]
      refine rtk 3 (some 32) ?_ rfl (fun w' hw => ?_) hH0 ?_
      rotate_left 1
      · obtain ⟨n0, n1, n2⟩ := hw; go_simp; first | done | with_reducible rfl
      try simp only [pz0, pz1, pz2, pz3]
      refine rtk 4 (some 33) ?_ rfl (fun w' hw => ?_) hH0 ?_
      rotate_left 1
      · obtain ⟨n0, n1, n2⟩ := hw; go_simp; first | done | with_reducible rfl
      try simp only [pz0, pz1, pz2, pz3]
      refine rtk 5 (some 34) ?_ rfl (fun w' hw => ?_) hH0 ?_
      rotate_left 1
      · obtain ⟨n0, n1, n2⟩ := hw; go_simp; first | done | with_reducible rfl
      try simp only [pz0, pz1, pz2, pz3]
      refine rtk 6 (some 35) ?_ rfl (fun w' hw => ?_) hH0 ?_
      rotate_left 1
      · obtain ⟨n0, n1, n2⟩ := hw; go_simp; first | done | with_reducible rfl
      try simp only [pz0, pz1, pz2, pz3]
      refine rtk 7 (some 36) ?_ rfl (fun w' hw => ?_) hH0 ?_
      rotate_left 1
      · obtain ⟨n0, n1, n2⟩ := hw; go_simp; first | done | with_reducible rfl
      try simp only [pz0, pz1, pz2, pz3]
      refine rtk 8 (some 37) ?_ rfl (fun w' hw => ?_) hH0 ?_
      rotate_left 1
      · obtain ⟨n0, n1, n2⟩ := hw; go_simp; first | done | with_reducible rfl
      try simp only [pz0, pz1, pz2, pz3]
      refine rtk 9 (some 38) ?_ rfl (fun w' hw => ?_) hH0 ?_
      rotate_left 1
      · obtain ⟨n0, n1, n2⟩ := hw; go_simp; first | done | with_reducible rfl
      try simp only [pz0, pz1, pz2, pz3]
      refine rtk 10 (some 39) ?_ rfl (fun w' hw => ?_) hH0 ?_
      rotate_left 1
      · obtain ⟨n0, n1, n2⟩ := hw; go_simp; first | done | with_reducible rfl
      try simp only [pz0, pz1, pz2, pz3]
      refine rtk 11 (some 40) ?_ rfl (fun w' hw => ?_) hH0 ?_
      rotate_left 1
      · obtain ⟨n0, n1, n2⟩ := hw; go_simp; first | done | with_reducible rfl
      try simp only [pz0, pz1, pz2, pz3]
      refine rtk 12 (some 41) ?_ rfl (fun w' hw => ?_) hH0 ?_
      rotate_left 1
      · obtain ⟨n0, n1, n2⟩ := hw; go_simp; first | done | with_reducible rfl
      try simp only [pz0, pz1, pz2, pz3]
      refine rtk 13 (some 42) ?_ rfl (fun w' hw => ?_) hH0 ?_
      rotate_left 1
      · obtain ⟨n0, n1, n2⟩ := hw; go_simp; first | done | with_reducible rfl
      try simp only [pz0, pz1, pz2, pz3]
      refine rtk 14 (some 43) ?_ rfl (fun w' hw => ?_) hH0 ?_
      rotate_left 1
      · obtain ⟨n0, n1, n2⟩ := hw; go_simp; first | done | with_reducible rfl
      try simp only [pz0, pz1, pz2, pz3]
      refine wpAnyH_all (rs := [1, 15]) (by kernel_rfl) (by simp) (AllReadyH.cons rfl (fun K hK => ?_) (AllReadyH.cons rfl (fun K hK => ?_) (AllReadyH.nil)))
      · rw [if_pos (by rfl)]
        go_simp
        refine hK.out _ _ (by exact hH0) (fun hH1 => ?_)
        clear hK K
        try simp only [pz0, pz1, pz2, pz3]
        refine wpAnyH_all (rs := [15]) (by kernel_rfl) (by simp) (AllReadyH.cons rfl (fun K hK => ?_) (AllReadyH.nil))
        refine step_append_bytes (by rfl) _ _ (by rfl) wr.drew.heap.size (.slice none 0 0) [] (by rfl) (World.ownsRow_nil _ _ _ _) (.slice da x.2.data.length dc) x.2.data S (by rfl) kdb.out (by simp; omega) (Nat.le_refl _) ?_
        intro a1 m1 c1 w4 hm1 ho hg
        have kP := Lib.hid (tree_app kT.out hg ho)
        have t4 := (cells3 kP.out.tcells).1
        refine hK.out _ _ kP.out.held (fun hH2 => ?_)
        clear hK K ho hg
        try simp only [pz0, pz1, pz2, pz3]
        refine rtk 16 (some 45) ?_ rfl (fun w' hw => ?_) hH2 ?_
        rotate_left 1
        · obtain ⟨n0, n1, n2⟩ := hw; go_simp; first | done | with_reducible rfl
        try simp only [pz0, pz1, pz2, pz3]
        refine wpAnyH_all (rs := [17]) (by kernel_rfl) (by simp) (AllReadyH.cons rfl (fun K hK => ?_) (AllReadyH.nil))
        rw [if_pos (by rfl)]
        go_simp
        have t5 : (w4.alloc (.cells #[.string (mk x.1), .bool x.2.dir, .int .i64 x.2.time, .slice a1 m1 c1] 54)).cell? ⟨w.heap.size + 1, 0, none⟩ = some (.slice na L.length nc) := (cells3 kP.out.tcells5).1
        refine hK.out _ _ kP.out.held5 (fun hH3 => ?_)
        clear hK K
        try simp only [pz0, pz1, pz2, pz3]
        refine wpAnyH_all (rs := [18]) (by kernel_rfl) (by simp) (AllReadyH.cons rfl (fun K hK => ?_) (AllReadyH.nil))
        refine step_append_node (by rfl) _ _ (by rfl) w3.heap.size (.slice na L.length nc) L (by rfl) kP.out.nodes5 (NV.make x.1 x.2 (.slice a1 m1 c1)) ⟨w4.heap.size, 0, none⟩ 1 (by rfl) kP.out.src kP.out.bytes5 (by have := kLl.out; omega) kP.out.base ?_
        intro a2 m2 c2 w6 hm2 h6 hg6
        have kQ := Lib.hid h6
        have kg6 := Lib.hid hg6
        obtain ⟨t60, t61, t62, t6f⟩ := cells3 (kP.out.tcells6 hg6)
        have t6f0 := t6f 0
        have hl6 := heap_lt (kP.out.tcells6 hg6)
        refine hK.out _ _ (kP.out.held6 hg6) (fun hH4 => ?_)
        clear hK K h6 hg6 t61 t62 t6f
        try simp only [pz0, pz1, pz2, pz3]
        refine rtk 19 (some 48) ?_ rfl (fun w' hw => ?_) hH4 ?_
        rotate_left 1
        · obtain ⟨n0, n1, n2⟩ := hw; go_simp; first | done | with_reducible rfl
        try simp only [pz0, pz1, pz2, pz3]
        refine wpAnyH_all (rs := [20]) (by kernel_rfl) (by simp) (AllReadyH.cons rfl (fun K hK => ?_) (AllReadyH.nil))
        rw [if_pos (by rfl)]
        go_simp
        refine hK.out _ _ (kP.out.held7 kg6.out) (fun hH5 => ?_)
        clear hK K
        refine wpAnyH_done (by kernel_rfl) ?_ _
        go_wp2_with fail
        exact ⟨⟨k + 1, by omega, by go_num, kP.out.next kQ.out kg6.out⟩, by simp [intOf]; omega⟩
      · refine step_append_bytes (by rfl) _ _ (by rfl) wr.drew.heap.size (.slice none 0 0) [] (by rfl) (World.ownsRow_nil _ _ _ _) (.slice da x.2.data.length dc) x.2.data S (by rfl) kdb.out (by simp; omega) (Nat.le_refl _) ?_
        intro a1 m1 c1 w4 hm1 ho hg
        have kP := Lib.hid (tree_app kT.out hg ho)
        have t4 := (cells3 kP.out.tcells).1
        refine hK.out _ _ kP.out.held (fun hH6 => ?_)
        clear hK K ho hg
        try simp only [pz0, pz1, pz2, pz3]
        refine rtk 16 (some 45) ?_ rfl (fun w' hw => ?_) hH6 ?_
        rotate_left 1
        · obtain ⟨n0, n1, n2⟩ := hw; go_simp; first | done | with_reducible rfl
        try simp only [pz0, pz1, pz2, pz3]
        refine wpAnyH_all (rs := [1, 17]) (by kernel_rfl) (by simp) (AllReadyH.cons rfl (fun K hK => ?_) (AllReadyH.cons rfl (fun K hK => ?_) (AllReadyH.nil)))
        · rw [if_pos (by rfl)]
          go_simp
          refine hK.out _ _ (by exact hH6) (fun hH7 => ?_)
          clear hK K
          try simp only [pz0, pz1, pz2, pz3]
          refine wpAnyH_all (rs := [17]) (by kernel_rfl) (by simp) (AllReadyH.cons rfl (fun K hK => ?_) (AllReadyH.nil))
          rw [if_pos (by rfl)]
          go_simp
          have t5 : (w4.alloc (.cells #[.string (mk x.1), .bool x.2.dir, .int .i64 x.2.time, .slice a1 m1 c1] 54)).cell? ⟨w.heap.size + 1, 0, none⟩ = some (.slice na L.length nc) := (cells3 kP.out.tcells5).1
          refine hK.out _ _ kP.out.held5 (fun hH8 => ?_)
          clear hK K
          try simp only [pz0, pz1, pz2, pz3]
          refine wpAnyH_all (rs := [18]) (by kernel_rfl) (by simp) (AllReadyH.cons rfl (fun K hK => ?_) (AllReadyH.nil))
          refine step_append_node (by rfl) _ _ (by rfl) w3.heap.size (.slice na L.length nc) L (by rfl) kP.out.nodes5 (NV.make x.1 x.2 (.slice a1 m1 c1)) ⟨w4.heap.size, 0, none⟩ 1 (by rfl) kP.out.src kP.out.bytes5 (by have := kLl.out; omega) kP.out.base ?_
          intro a2 m2 c2 w6 hm2 h6 hg6
          have kQ := Lib.hid h6
          have kg6 := Lib.hid hg6
          obtain ⟨t60, t61, t62, t6f⟩ := cells3 (kP.out.tcells6 hg6)
          have t6f0 := t6f 0
          have hl6 := heap_lt (kP.out.tcells6 hg6)
          refine hK.out _ _ (kP.out.held6 hg6) (fun hH9 => ?_)
          clear hK K h6 hg6 t61 t62 t6f
          try simp only [pz0, pz1, pz2, pz3]
          refine rtk 19 (some 48) ?_ rfl (fun w' hw => ?_) hH9 ?_
          rotate_left 1
          · obtain ⟨n0, n1, n2⟩ := hw; go_simp; first | done | with_reducible rfl
          try simp only [pz0, pz1, pz2, pz3]
          refine wpAnyH_all (rs := [20]) (by kernel_rfl) (by simp) (AllReadyH.cons rfl (fun K hK => ?_) (AllReadyH.nil))
          rw [if_pos (by rfl)]
          go_simp
          refine hK.out _ _ (kP.out.held7 kg6.out) (fun hH10 => ?_)
          clear hK K
          refine wpAnyH_done (by kernel_rfl) ?_ _
          go_wp2_with fail
          exact ⟨⟨k + 1, by omega, by go_num, kP.out.next kQ.out kg6.out⟩, by simp [intOf]; omega⟩
        · rw [if_pos (by rfl)]
          go_simp
          have t5 : (w4.alloc (.cells #[.string (mk x.1), .bool x.2.dir, .int .i64 x.2.time, .slice a1 m1 c1] 54)).cell? ⟨w.heap.size + 1, 0, none⟩ = some (.slice na L.length nc) := (cells3 kP.out.tcells5).1
          refine hK.out _ _ kP.out.held5 (fun hH11 => ?_)
          clear hK K
          try simp only [pz0, pz1, pz2, pz3]
          refine wpAnyH_all (rs := [1]) (by kernel_rfl) (by simp) (AllReadyH.cons rfl (fun K hK => ?_) (AllReadyH.nil))
          rw [if_pos (by rfl)]
          go_simp
          refine hK.out _ _ (by exact hH11) (fun hH12 => ?_)
          clear hK K
          try simp only [pz0, pz1, pz2, pz3]
          refine wpAnyH_all (rs := [18]) (by kernel_rfl) (by simp) (AllReadyH.cons rfl (fun K hK => ?_) (AllReadyH.nil))
          refine step_append_node (by rfl) _ _ (by rfl) w3.heap.size (.slice na L.length nc) L (by rfl) kP.out.nodes5 (NV.make x.1 x.2 (.slice a1 m1 c1)) ⟨w4.heap.size, 0, none⟩ 1 (by rfl) kP.out.src kP.out.bytes5 (by have := kLl.out; omega) kP.out.base ?_
          intro a2 m2 c2 w6 hm2 h6 hg6
          have kQ := Lib.hid h6
          have kg6 := Lib.hid hg6
          obtain ⟨t60, t61, t62, t6f⟩ := cells3 (kP.out.tcells6 hg6)
          have t6f0 := t6f 0
          have hl6 := heap_lt (kP.out.tcells6 hg6)
          refine hK.out _ _ (kP.out.held6 hg6) (fun hH13 => ?_)
          clear hK K h6 hg6 t61 t62 t6f
          try simp only [pz0, pz1, pz2, pz3]
          refine rtk 19 (some 48) ?_ rfl (fun w' hw => ?_) hH13 ?_
          rotate_left 1
          · obtain ⟨n0, n1, n2⟩ := hw; go_simp; first | done | with_reducible rfl
          try simp only [pz0, pz1, pz2, pz3]
          refine wpAnyH_all (rs := [20]) (by kernel_rfl) (by simp) (AllReadyH.cons rfl (fun K hK => ?_) (AllReadyH.nil))
          rw [if_pos (by rfl)]
          go_simp
          refine hK.out _ _ (kP.out.held7 kg6.out) (fun hH14 => ?_)
          clear hK K
          refine wpAnyH_done (by kernel_rfl) ?_ _
          go_wp2_with fail
          exact ⟨⟨k + 1, by omega, by go_num, kP.out.next kQ.out kg6.out⟩, by simp [intOf]; omega⟩
    · have hkl : k = st.length := by omega
      subst hkl
      obtain ⟨hKt, nv, L, htc, hLm, hN⟩ := kI.out
      rw [List.take_length] at hLm
      obtain ⟨na, nc, hnf⟩ := hN.form
      subst hnf
      have hrw := (hKt.block w.heap.size (by omega) (by omega)).trans kr3.out
      obtain ⟨r0, r1, r2, rf⟩ := cells3 hrw
      have rf0 := rf 0
      have rf1 := rf 1
      have rf2 := rf 2
      clear rf
      obtain ⟨t0, t1, t2, -⟩ := cells3 htc
      have krw := Lib.hid hrw
      have hrl := heap_lt hrw
      have kK := Lib.hid hKt
      have kN := Lib.hid hN
      have kLm := Lib.hid hLm
      clear hKt htc hLm hN hrw
      go_wp2_with fail
      refine bodyPost_ret (v := .agg #[.slice na L.length nc, .int .i64 clock, .int .i64 room]) (by simp [results, Tryz.results14, go_sem, r0, r1, r2]) rfl ⟨_, L, rfl, kLm.out, ?_, ?_⟩
      · exact (((kN.out.grown (set_grown _ _ _ _) (fun g e => by injection e with e; omega)).grown (set_grown _ _ _ _) (fun g e => by injection e with e; omega)).grown (set_grown _ _ _ _) (fun g e => by injection e with e; omega)).base (by omega)
      · have hb : Below w.heap.size w wr := kB.out.trans ⟨kK.out.os, kK.out.tape, kK.out.output, kK.out.size, fun j hj => kK.out.block j (by have := kB.out.size; omega) (by omega)⟩
        exact ((hb.setCell (Nat.le_refl _) _).setCell (Nat.le_refl _) _).setCell (Nat.le_refl _) _
end
end Go.Proofs.YtejofgdglpmlkaaGreatDoor
