/-
  The reference's Tree. Conditions: a tree that is right.
  Big of a tree. Conditions: texts of at most 2^47 bytes, at most 2^42 nodes.
  Calls handed in, in memory; Much of them. Conditions: texts of at most 2^47 bytes, at most 2^42 calls.
-/
import Derived.Test.YtejofgdglpmlkaaGreatDoorM33
import Derived.Test.YtejofgdglpmlkaaGreatDoorM34
import Derived.Test.YtejofgdglpmlkaaGreatDoorM08
namespace Go.Proofs.YtejofgdglpmlkaaGreatDoor
open Go.RowKit

section
variable {w w3 wr w6 : World} {tb nb k : Nat} {l : St} {clock room : Int} {nv row dv : Value} {L : List NV} {x : Bs × PN}
theorem tnode_bytes (hK : Kept (· = tb) w3 wr) (hc : wr.heap[tb]? = some (.cells #[nv, .int .i64 clock, .int .i64 room] 24 (0, 0))) (hN : NodesOwn wr w3.heap.size nv L)
    (ho : w6.ownsRow (wr.alloc (nodeObj x dv)).heap.size 5 1 row x.2.data.length (ucells x.2.data)) (hg : (wr.alloc (nodeObj x dv)).grownBy w6 (Value.slice none 0 0).ownBlock) :
    Below wr.heap.size wr (w6.setCell ⟨wr.heap.size, 3, none⟩ row) ∧ (w6.setCell ⟨wr.heap.size, 3, none⟩ row).heap[wr.heap.size]? = some (nodeObj x row) ∧ (w6.setCell ⟨wr.heap.size, 3, none⟩ row).heap[tb]? = some (.cells #[nv, .int .i64 clock, .int .i64 room] 24 (0, 0)) ∧
    NodesOwn (w6.setCell ⟨wr.heap.size, 3, none⟩ row) w3.heap.size nv L ∧ UBytes (w6.setCell ⟨wr.heap.size, 3, none⟩ row) row x.2.data (fun j => w3.heap.size ≤ j ∧ j < (w6.setCell ⟨wr.heap.size, 3, none⟩ row).heap.size ∧ nv.ownBlock ≠ some j) := by
  have hz := hg.size
  have hz0 : (wr.alloc (nodeObj x dv)).heap.size = wr.heap.size + 1 := by simp
  have far : ∀ j, j < wr.heap.size + 1 → w6.heap[j]? = (wr.alloc (nodeObj x dv)).heap[j]? := fun j hj => hg.block j (by omega) (by simp [Value.ownBlock])
  have hs := set_grown w6 wr.heap.size 3 row
  have hsz : (w6.setCell ⟨wr.heap.size, 3, none⟩ row).heap.size = w6.heap.size := by simp
  have hX6 : w6.heap[wr.heap.size]? = some (nodeObj x dv) := (far _ (by omega)).trans (heap_alloc_new _ _)
  have hB : Below wr.heap.size wr (w6.setCell ⟨wr.heap.size, 3, none⟩ row) := ⟨hs.os.trans hg.os, hs.tape.trans hg.tape, hs.output.trans hg.output, by omega, fun j hj => (hs.block j (by omega) (fun e => by injection e with e; omega)).trans ((far j (by omega)).trans (heap_alloc_old _ _ hj))⟩
  have hlt := fun g hg => (hN.lt g hg).2
  have hkz := hK.size
  refine ⟨hB, ?_, (hB.block _ (heap_lt hc)).trans hc, hN.grown ⟨hB.os, hB.tape, hB.output, hB.size, fun j hj _ => hB.block j hj⟩ (row := none) (fun g e => by cases e), (ubytes_own ho).of_heap (fun j hj => hs.block j hj.2 (fun e => by injection e with e; omega)) (fun j hj => ⟨by omega, by omega, fun e => by have := hlt j e; omega⟩)⟩
  have := set_heap (w := w6) (b := wr.heap.size) hX6 3 row
  simpa [nodeObj] using this
end
section
variable {w w' w1 : World} {fb : Nat} {fv fv' : Value} {L L' : List NV} {R R' Tb : Nat → Prop} {l l' : St} {clock clock' room : Int}
set_option maxRecDepth 100000 in
set_option maxHeartbeats 8000000 in
theorem refTree_calls (h : RefIn w fb fv L R l clock room) (hw : Wf l clock room) :
    Calls Tryz.prog 25 #[.pointer (some ⟨fb, 0, none⟩)] w fun e w' => ∃ nv L', e = .returned (.agg #[nv, .int .i64 clock, .int .i64 room]) ∧ L'.map NV.nd = l ∧ NodesOwn w' w.heap.size nv L' ∧ Below w.heap.size w w' := by
  have hll := hw.len
  have kw := Lib.hid hw
  obtain ⟨fa, fc, hfv⟩ := h.form
  subst hfv
  have kh := Lib.hid h
  obtain ⟨f0, f1, f2, -⟩ := cells3 h.hc
  have hfl := heap_lt h.hc
  clear h hw
  go_enter Tryz.func25, Tryz.ntmps25
  go_wp2_with fail
  go_region
  have kb0 := Lib.hid (show Below w.heap.size w (((w.alloc (.cells #[.slice none 0 0, .int .i64 0, .int .i64 0] 24)).alloc (.cells #[.slice none 0 0, .int .i64 clock, .int .i64 room] 24)).drew) from (below_al (below_al (Below.refl _ _))).trans ⟨rfl, rfl, rfl, Nat.le_refl _, fun _ _ => rfl⟩)
  have kt0 := Lib.hid (show ((w.alloc (.cells #[.slice none 0 0, .int .i64 0, .int .i64 0] 24)).alloc (.cells #[.slice none 0 0, .int .i64 clock, .int .i64 room] 24)).drew.heap[w.heap.size + 1]? = some (.cells #[.slice none 0 0, .int .i64 clock, .int .i64 room] 24 (0, 0)) from by
    have := heap_alloc_new (w.alloc (.cells #[.slice none 0 0, .int .i64 0, .int .i64 0] 24)) (.cells #[.slice none 0 0, .int .i64 clock, .int .i64 room] 24)
    have e : (w.alloc (.cells #[.slice none 0 0, .int .i64 0, .int .i64 0] 24)).heap.size = w.heap.size + 1 := by simp
    rw [e] at this
    exact this)
  have kr0 := Lib.hid (show ((w.alloc (.cells #[.slice none 0 0, .int .i64 0, .int .i64 0] 24)).alloc (.cells #[.slice none 0 0, .int .i64 clock, .int .i64 room] 24)).drew.heap[w.heap.size]? = some (.cells #[.slice none 0 0, .int .i64 0, .int .i64 0] 24 (0, 0)) from (heap_alloc_old (w.alloc _) _ (by simp)).trans (heap_alloc_new w _))
  generalize ((w.alloc (.cells #[.slice none 0 0, .int .i64 0, .int .i64 0] 24)).alloc (.cells #[.slice none 0 0, .int .i64 clock, .int .i64 room] 24)).drew = w3 at *
  have htb := heap_lt kt0.out
  have kh3 := Lib.hid (kh.out.below kb0.out)
  clear f0 f1 f2 hfl
  go_wp2_with fail
  go_loopw [4, 5] (fun iv _ wr => ∃ k : Nat, k ≤ l.length ∧ iv = .int .i64 k ∧ TreeInv w3 (w.heap.size + 1) l clock room k wr) (fun iv _ _ => l.length - (intOf iv).toNat)
  case atStart => exact ⟨0, Nat.zero_le _, rfl, Kept.refl _ _, _, [], kt0.out, rfl, NodesOwn.nil _ _⟩
  case round =>
    obtain ⟨k, hk, rfl, hI⟩ := hrel
    have kI := Lib.hid hI
    clear hI
    obtain ⟨hKt, nv, L2, htc, hLm, hN⟩ := kI.out
    have kF := Lib.hid (kh3.out.other (T := (· = w.heap.size + 1)) hKt (fun j hj e => by have := kh.out.lt j hj; omega))
    obtain ⟨f0, f1, f2, -⟩ := cells3 kF.out.hc
    have hfl := heap_lt kF.out.hc
    by_cases hlt : k < l.length
    · obtain ⟨x, hx⟩ : ∃ x, l[k]? = some x := ⟨_, List.getElem?_eq_getElem hlt⟩
      have kx := Lib.hid hx
      obtain ⟨na, nc, hnf⟩ := hN.form
      subst hnf
      have kLl := Lib.hid (show L2.length = k by have := congrArg List.length hLm; simp at this; omega)
      have kKt := Lib.hid hKt
      have ktc := Lib.hid htc
      have kLm := Lib.hid hLm
      have kN := Lib.hid hN
      obtain ⟨bb, off, dv, hta, -, hbl, hc0, hc1, hc2, hc3, hdv⟩ := kF.out.tree.at hx
      obtain ⟨da, dc, hdf⟩ := hdv.form
      subst hta hdf
      have kdv := Lib.hid (hdv.of_heap (w' := wr.alloc (nodeObj x (.slice da x.2.data.length dc))) (fun j hj => heap_alloc_old _ _ (kF.out.lt j hj)) (fun _ h => h))
      have hdl := wf_data kw.out x (List.mem_of_getElem? hx)
      have z1 : (k : Int) < (l.length : Int) := by omega
      have z2 : (0 : Int) ≤ (k : Int) := by omega
      clear hx hKt htc hLm hN hdv
      go_upto_region 6 with (fail)
      have kX1 := Lib.hid (heap_alloc_new wr (nodeObj x (.slice da x.2.data.length dc)))
      obtain ⟨n0, n1, n2, n3, -⟩ := cells4 kX1.out
      have hnl := heap_lt kX1.out
      clear f0 f1 f2 hfl hc0 hc1 hc2 hc3 hbl
      go_upto_region 7 with (at_builtin; go_loud (refine wpList_append_bytes _ rfl _ _ rfl (wr.alloc (nodeObj x (.slice da x.2.data.length dc))).heap.size (.slice none 0 0) [] rfl (World.ownsRow_nil _ _ _ _) (.slice da x.2.data.length dc) x.2.data _ rfl kdv.out (by simp; omega) (Nat.le_refl _) ?_; intro a6 c6 w6 ho6 hg6; rw [List.nil_append] at ho6; have kR := Lib.hid (tnode_bytes (row := .slice a6 x.2.data.length c6) kKt.out ktc.out kN.out ho6 hg6); have kX6 := Lib.hid ((hg6.block wr.heap.size (heap_lt kX1.out) (by simp [Value.ownBlock])).trans kX1.out); obtain ⟨-, -, -, q63, hf6⟩ := cells4 kX6.out; have hf63 := hf6 3; have hl6 := heap_lt kX6.out; clear ho6 hg6 hf6))
      clear n0 n1 n2 n3 hnl q63 hf63 hl6 kX6 kX1
      generalize hW7 : w6.setCell ⟨wr.heap.size, 3, none⟩ (.slice a6 x.2.data.length c6) = W at *
      clear hW7
      obtain ⟨hB7, hX7, hT7, hN7, hU7⟩ := kR.out
      have kB7 := Lib.hid hB7
      have kN7 := Lib.hid hN7
      have kT7 := Lib.hid hT7
      have kX7 := Lib.hid hX7
      have hz7 := hB7.size
      have hz3 := kKt.out.size
      have kNa := Lib.hid (kN7.out.grown (row := none) (World.grownBy_alloc W (nodeObj x (.slice a6 x.2.data.length c6)) _) (fun g e => by cases e))
      have kUa := Lib.hid (show UBytes (W.alloc (nodeObj x (.slice a6 x.2.data.length c6))) (NV.make x.1 x.2 (.slice a6 x.2.data.length c6)).dv (NV.make x.1 x.2 (.slice a6 x.2.data.length c6)).n.data (fun j => w3.heap.size ≤ j ∧ j < (W.alloc (nodeObj x (.slice a6 x.2.data.length c6))).heap.size ∧ (Value.slice na L2.length nc).ownBlock ≠ some j) from hU7.of_heap (fun j hj => heap_alloc_old _ _ hj.2.1) (fun j hj => ⟨hj.1, by simp; omega, hj.2.2⟩))
      have kCa := Lib.hid (fun j u (hu : (NV.make x.1 x.2 (.slice a6 x.2.data.length c6)).cells[j]? = some u) => cells_new W (NV.make x.1 x.2 (.slice a6 x.2.data.length c6)).cells 54 j u hu)
      obtain ⟨n0, n1, n2, n3, -⟩ := cells4 hX7
      obtain ⟨t0, t1, t2, -⟩ := cells3 hT7
      have hnl := heap_lt hX7
      have htl := heap_lt hT7
      clear hB7 hX7 hT7 hN7 hU7 kR
      go_wp2_with (at_builtin; go_loud (refine wpList_append_node _ rfl _ _ rfl w3.heap.size (.slice na L2.length nc) L2 rfl kNa.out (NV.make x.1 x.2 (.slice a6 x.2.data.length c6)) ⟨W.heap.size, 0, none⟩ 1 rfl kCa.out kUa.out (by have := kLl.out; omega) (Nat.le_trans (show w3.heap.size ≤ W.heap.size by omega) (below_al (Below.refl _ _)).size) ?_; intro a8 c8 w8 h8 hg8 hat8; have k8 := Lib.hid h8; have kg8 := Lib.hid hg8; have kT8 := Lib.hid ((hg8.block _ (heap_lt ((heap_alloc_old W (nodeObj x (.slice a6 x.2.data.length c6)) htl).trans kT7.out)) (fun e => by have := (kN.out.lt _ e.symm).1; omega)).trans ((heap_alloc_old W (nodeObj x (.slice a6 x.2.data.length c6)) htl).trans kT7.out)); obtain ⟨s0, s1, s2, sf⟩ := cells3 kT8.out; have sf0 := sf 0; have hl8 := heap_lt kT8.out; clear h8 hg8 hat8 sf))
      exact ⟨⟨k + 1, by omega, by go_num, TreeInv.next htb kKt.out ktc.out kLm.out kN.out kx.out kB7.out k8.out kg8.out rfl⟩, by simp [intOf]; omega⟩
    · have hkl : k = l.length := by omega
      subst hkl
      rw [List.take_length] at hLm
      obtain ⟨na, nc, hnf⟩ := hN.form
      subst hnf
      have hrw := (hKt.block w.heap.size (by omega) (by omega)).trans kr0.out
      obtain ⟨r0, r1, r2, rf⟩ := cells3 hrw
      have rf0 := rf 0
      have rf1 := rf 1
      have rf2 := rf 2
      clear rf
      obtain ⟨t0, t1, t2, -⟩ := cells3 htc
      have hrl := heap_lt hrw
      have htl := heap_lt htc
      have kK := Lib.hid hKt
      have kN := Lib.hid hN
      have kLm := Lib.hid hLm
      clear hKt htc hLm hN hrw
      go_wp2_with fail
      refine bodyPost_ret (v := .agg #[.slice na L2.length nc, .int .i64 clock, .int .i64 room]) (by simp [results, Tryz.results25, go_sem, r0, r1, r2]) rfl ⟨_, L2, rfl, kLm.out, ?_, ?_⟩
      · exact (((kN.out.grown (set_grown _ _ _ _) (fun g e => by injection e with e; omega)).grown (set_grown _ _ _ _) (fun g e => by injection e with e; omega)).grown (set_grown _ _ _ _) (fun g e => by injection e with e; omega)).base (by omega)
      · have hb : Below w.heap.size w wr := kb0.out.trans ⟨kK.out.os, kK.out.tape, kK.out.output, kK.out.size, fun j hj => kK.out.block j (by have := kb0.out.size; omega) (by omega)⟩
        exact ((hb.setCell (Nat.le_refl _) _).setCell (Nat.le_refl _) _).setCell (Nat.le_refl _) _
end
end Go.Proofs.YtejofgdglpmlkaaGreatDoor
namespace Go.Proofs.YtejofgdglpmlkaaGreatDoor
open Go.RowKit

/-- What a tree's nodes, paths and bytes come to. -/
def totB : St → Nat
  | [] => 0
  | x :: r => 1 + x.1.length + x.2.data.length + totB r
theorem totB_append : ∀ (a b : St), totB (a ++ b) = totB a + totB b
  | [], b => by simp [totB]
  | x :: a, b => by rw [List.cons_append, totB, totB, totB_append a b]; omega
theorem totB_take {l : St} {k : Nat} {x : Bs × PN} (h : l[k]? = some x) : totB (l.take (k + 1)) = totB (l.take k) + (1 + x.1.length + x.2.data.length) := by
  rw [take_more h, totB_append]; simp [totB]
def bigB (l : St) : Prop := 300000 < totB l ∨ 1100 < l.length
section
variable {l : St} {clock room : Int} {nv : Value} {T : Nat → Prop} {w : World}
set_option maxRecDepth 100000 in
set_option maxHeartbeats 4000000 in
theorem big_calls (ht : TreeAt w nv l T) (hT : ∀ k, T k → k < w.heap.size) (hp : ∀ x ∈ l, x.1.length ≤ 140737488355328 ∧ x.2.data.length ≤ 140737488355328) (hl : l.length ≤ 4398046511104) :
    Calls Tryz.prog 7 #[.agg #[nv, .int .i64 clock, .int .i64 room]] w fun e w' => ∃ b : Bool, e = .returned (.bool b) ∧ (b = false → totB l ≤ 300000 ∧ l.length ≤ 1100) ∧ Below w.heap.size w w' := by
  obtain ⟨ta, tc, hnv⟩ := ht.form
  subst hnv
  have kt := Lib.hid ht
  have kT := Lib.hid hT
  have kp := Lib.hid hp
  clear ht hT hp
  go_enter Tryz.func7, Tryz.ntmps7
  go_wp2
  have kB1 := Lib.hid (show BoxT w (w.alloc (.cells #[.slice ta l.length tc, .int .i64 clock, .int .i64 room] 24 (0, 0))) (.slice ta l.length tc) clock room from ⟨heap_alloc_new _ _, below_al (Below.refl _ _)⟩)
  go_loopw [3, 4] (fun mv iv wr => ∃ k : Nat, k ≤ l.length ∧ iv = .int .i64 k ∧ mv = .int .i64 (totB (l.take k) : Nat) ∧ totB (l.take k) ≤ 400000000000000 ∧ BoxT w wr (.slice ta l.length tc) clock room) (fun _ iv _ => l.length - (intOf iv).toNat)
  case atStart => exact ⟨0, Nat.zero_le _, rfl, rfl, by simp [totB], kB1.out⟩
  case round =>
    obtain ⟨k, hk, rfl, rfl, htot, hB⟩ := hrel
    have kB := Lib.hid hB
    obtain ⟨hb0, -, -⟩ := hB.cell
    have hbl0 := heap_lt hB.1
    clear hB
    by_cases hlt : k < l.length
    · by_cases hsm : totB (l.take k) ≤ 300000
      · obtain ⟨x, hx⟩ : ∃ x, l[k]? = some x := ⟨_, List.getElem?_eq_getElem hlt⟩
        have kx := Lib.hid hx
        obtain ⟨b, off, dv, hta, hTb, hbl, hc0, hc1, hc2, hc3, hdv⟩ := (kt.out.of_heap (w' := wr) (T' := T) (fun j hj => kB.out.2.block j (kT.out j hj)) (fun _ h => h)).at hx
        obtain ⟨da, dc, hdf⟩ := hdv.form
        subst hta hdf
        clear hTb hdv hx hc1 hc2
        have hpx := kp.out x (List.mem_of_getElem? kx.out)
        have hms : (mk x.1).size = x.1.length := mk_size x.1
        have htk := totB_take kx.out
        generalize totB (l.take k) = t0 at *
        have s1 : IntKind.i64.wrap ((t0 : Int) + 1) = (t0 : Int) + 1 := IntWalk.i64_in _ (by omega)
        have s2 : IntKind.i64.wrap ((t0 : Int) + 1 + x.1.length) = (t0 : Int) + 1 + x.1.length := IntWalk.i64_in _ (by omega)
        have s3 : IntKind.i64.wrap ((t0 : Int) + 1 + x.1.length + x.2.data.length) = (t0 : Int) + 1 + x.1.length + x.2.data.length := IntWalk.i64_in _ (by omega)
        go_wp2_with fail
        go_quiet (fail)
        go_wp2
        clear s1 s2 s3
        exact ⟨⟨k + 1, by omega, by go_num, by rw [htk]; congr 1; omega, by rw [htk]; omega, kB.out.below (below_drewN' (Below.refl _ _) nq)⟩, by simp [intOf]; omega⟩
      · go_wp2
        go_ret
        exact ⟨true, rfl, (fun h => by cases h), kB.out.2⟩
    · have hkl : k = l.length := by omega
      subst hkl
      rw [List.take_length] at *
      by_cases hsm : totB l ≤ 300000
      · by_cases hln : l.length ≤ 1100
        · go_wp2
          go_ret
          exact ⟨_, rfl, fun _ => ⟨hsm, hln⟩, kB.out.2⟩
        · go_wp2
          go_ret
          exact ⟨_, rfl, (fun h => by simp at h; omega), kB.out.2⟩
      · go_wp2
        go_ret
        first | exact ⟨rfl, kB.out.2⟩ | exact ⟨true, rfl, (fun h => by cases h), kB.out.2⟩
end
end Go.Proofs.YtejofgdglpmlkaaGreatDoor
namespace Go.Proofs.YtejofgdglpmlkaaGreatDoor
open Go.RowKit

/-- A call: its kind, its paths, its bytes. -/
structure OpD where make ::
  kind : Int
  p : Bs
  q : Bs
  b : Bs
def OpsAt (w : World) (v : Value) (l : List OpD) (T : Nat → Prop) : Prop :=
  ∃ a c, v = .slice a l.length c ∧ l.length ≤ c ∧ c ≤ maxLen ∧ (a = none → c = 0) ∧ (0 < l.length → ∃ b off, a = some ⟨b, off, none⟩ ∧ T b ∧ b < w.heap.size ∧
    ∀ (k : Nat) (x : OpD), l[k]? = some x → ∃ dv, w.cell? ⟨b, off + k * 4, none⟩ = some (.int .i64 x.kind) ∧ w.cell? ⟨b, off + k * 4 + 1, none⟩ = some (.string (mk x.p)) ∧ w.cell? ⟨b, off + k * 4 + 2, none⟩ = some (.string (mk x.q)) ∧ w.cell? ⟨b, off + k * 4 + 3, none⟩ = some dv ∧ BytesAt w dv x.b T)
theorem OpsAt.nil (w : World) (T : Nat → Prop) : OpsAt w (.slice none 0 0) [] T := ⟨none, 0, rfl, Nat.le_refl _, Nat.zero_le _, fun _ => rfl, fun h => absurd h (Nat.lt_irrefl _)⟩
theorem OpsAt.of_heap {w w' : World} {v : Value} {l : List OpD} {T T' : Nat → Prop} (h : OpsAt w v l T) (he : ∀ k, T k → w'.heap[k]? = w.heap[k]?) (hT : ∀ k, T k → T' k) : OpsAt w' v l T' := by
  obtain ⟨a, c, h1, h2, h3, h3', h4⟩ := h
  refine ⟨a, c, h1, h2, h3, h3', fun h0 => ?_⟩
  obtain ⟨b, off, e1, e2, e3, e4⟩ := h4 h0
  refine ⟨b, off, e1, hT _ e2, lt_of_heap e3 (he b e2), fun k x hk => ?_⟩
  obtain ⟨dv, g0, g1, g2, g3, g4⟩ := e4 k x hk
  have hc : ∀ o, w'.cell? ⟨b, o, none⟩ = w.cell? ⟨b, o, none⟩ := fun o => World.cell?_of_block (a := ⟨b, o, none⟩) (he b e2)
  exact ⟨dv, (hc _).trans g0, (hc _).trans g1, (hc _).trans g2, (hc _).trans g3, g4.of_heap he hT⟩
theorem OpsAt.form {w : World} {v : Value} {l : List OpD} {T : Nat → Prop} (h : OpsAt w v l T) : ∃ a c, v = .slice a l.length c := by
  obtain ⟨a, c, h1, _⟩ := h; exact ⟨a, c, h1⟩
theorem OpsAt.at {w : World} {a : Option Addr} {n c : Nat} {l : List OpD} {T : Nat → Prop} (h : OpsAt w (.slice a n c) l T) {k : Nat} {x : OpD} (hk : l[k]? = some x) :
    ∃ b off dv, a = some ⟨b, off, none⟩ ∧ T b ∧ b < w.heap.size ∧ w.cell? ⟨b, off + k * 4, none⟩ = some (.int .i64 x.kind) ∧ w.cell? ⟨b, off + k * 4 + 1, none⟩ = some (.string (mk x.p)) ∧ w.cell? ⟨b, off + k * 4 + 2, none⟩ = some (.string (mk x.q)) ∧ w.cell? ⟨b, off + k * 4 + 3, none⟩ = some dv ∧ BytesAt w dv x.b T := by
  obtain ⟨a', c', h1, h2, h3, h3', h4⟩ := h
  injection h1 with e1 e2 e3
  subst e1
  obtain ⟨b, off, g1, g2, g3, g4⟩ := h4 (by have := (List.getElem?_eq_some_iff.1 hk).1; omega)
  obtain ⟨dv, g⟩ := g4 k x hk
  exact ⟨b, off, dv, g1, g2, g3, g⟩
def totO : List OpD → Nat
  | [] => 0
  | x :: r => 1 + x.p.length + x.q.length + x.b.length + totO r
theorem totO_append : ∀ (a b : List OpD), totO (a ++ b) = totO a + totO b
  | [], b => by simp [totO]
  | x :: a, b => by rw [List.cons_append, totO, totO, totO_append a b]; omega
theorem totO_take {l : List OpD} {k : Nat} {x : OpD} (h : l[k]? = some x) : totO (l.take (k + 1)) = totO (l.take k) + (1 + x.p.length + x.q.length + x.b.length) := by
  rw [take_more h, totO_append]; simp [totO]
theorem totO_mem {l : List OpD} {x : OpD} (h : x ∈ l) : 1 + x.p.length + x.q.length + x.b.length ≤ totO l := by
  induction l with
  | nil => cases h
  | cons y r ih =>
    rw [totO]
    rcases List.mem_cons.1 h with rfl | h
    · omega
    · have := ih h; omega
theorem totO_le (l : List OpD) (k : Nat) : totO (l.take k) ≤ totO l := by
  have := totO_append (l.take k) (l.drop k)
  rw [List.take_append_drop] at this
  omega
def muchB (l : List OpD) : Bool := decide (200000 < totO l) || decide (200 < l.length)
theorem muchB_not {l : List OpD} (h : muchB l = false) : totO l ≤ 200000 ∧ l.length ≤ 200 := by
  unfold muchB at h
  simp only [Bool.or_eq_false_iff, decide_eq_false_iff_not] at h
  omega
section
variable {l : List OpD} {v : Value} {T : Nat → Prop} {w : World}
set_option maxRecDepth 100000 in
set_option maxHeartbeats 4000000 in
theorem much_calls (ht : OpsAt w v l T) (hT : ∀ k, T k → k < w.heap.size) (hp : ∀ x ∈ l, x.p.length ≤ 140737488355328 ∧ x.q.length ≤ 140737488355328 ∧ x.b.length ≤ 140737488355328) (hl : l.length ≤ 4398046511104) :
    Calls Tryz.prog 16 #[v] w fun e w' => e = .returned (.bool (muchB l)) ∧ Below w.heap.size w w' := by
  obtain ⟨ta, tc, hnv⟩ := ht.form
  subst hnv
  have kt := Lib.hid ht
  have kT := Lib.hid hT
  have kp := Lib.hid hp
  clear ht hT hp
  go_enter Tryz.func16, Tryz.ntmps16
  go_wp2
  go_loopw [3, 4] (fun mv iv wr => ∃ k : Nat, k ≤ l.length ∧ iv = .int .i64 k ∧ mv = .int .i64 (totO (l.take k) : Nat) ∧ totO (l.take k) ≤ 600000000000000 ∧ Below w.heap.size w wr) (fun _ iv _ => l.length - (intOf iv).toNat)
  case atStart => exact ⟨0, Nat.zero_le _, rfl, rfl, by simp [totO], Below.refl _ _⟩
  case round =>
    obtain ⟨k, hk, rfl, rfl, htot, hB⟩ := hrel
    have kB := Lib.hid hB
    clear hB
    by_cases hlt : k < l.length
    · by_cases hsm : totO (l.take k) ≤ 200000
      · obtain ⟨x, hx⟩ : ∃ x, l[k]? = some x := ⟨_, List.getElem?_eq_getElem hlt⟩
        have kx := Lib.hid hx
        obtain ⟨b, off, dv, hta, hTb, hbl, hc0, hc1, hc2, hc3, hdv⟩ := (kt.out.of_heap (w' := wr) (T' := T) (fun j hj => kB.out.block j (kT.out j hj)) (fun _ h => h)).at hx
        obtain ⟨da, dc, hdf⟩ := hdv.form
        subst hta hdf
        clear hTb hdv hx hc0
        have hpx := kp.out x (List.mem_of_getElem? kx.out)
        have hms : (mk x.p).size = x.p.length := mk_size x.p
        have hms2 : (mk x.q).size = x.q.length := mk_size x.q
        have htk := totO_take kx.out
        generalize totO (l.take k) = t0 at *
        have s1 : IntKind.i64.wrap ((t0 : Int) + 1) = (t0 : Int) + 1 := IntWalk.i64_in _ (by omega)
        have s2 : IntKind.i64.wrap ((t0 : Int) + 1 + x.p.length) = (t0 : Int) + 1 + x.p.length := IntWalk.i64_in _ (by omega)
        have s3 : IntKind.i64.wrap ((t0 : Int) + 1 + x.p.length + x.q.length) = (t0 : Int) + 1 + x.p.length + x.q.length := IntWalk.i64_in _ (by omega)
        have s4 : IntKind.i64.wrap ((t0 : Int) + 1 + x.p.length + x.q.length + x.b.length) = (t0 : Int) + 1 + x.p.length + x.q.length + x.b.length := IntWalk.i64_in _ (by omega)
        go_wp2_with fail
        go_quiet (fail)
        go_wp2
        clear s1 s2 s3 s4
        exact ⟨⟨k + 1, by omega, by go_num, by rw [htk]; congr 1; omega, by rw [htk]; omega, kB.out.trans ((below_drewN' (Below.refl wr.heap.size wr) nq).mono kB.out.size)⟩, by simp [intOf]; omega⟩
      · have kf := Lib.hid (show muchB l = true by have := totO_le l k; unfold muchB; rw [decide_eq_true (by omega)]; rfl)
        go_wp2
        go_ret
        exact ⟨by rw [kf.out]; rfl, kB.out⟩
    · have hkl : k = l.length := by omega
      subst hkl
      rw [List.take_length] at *
      by_cases hsm : totO l ≤ 200000
      · by_cases hln : l.length ≤ 200
        · have kf := Lib.hid (show muchB l = false by unfold muchB; rw [decide_eq_false (by omega), decide_eq_false (by omega)]; rfl)
          go_wp2
          go_ret
          exact ⟨by rw [kf.out]; simp; omega, kB.out⟩
        · have kf := Lib.hid (show muchB l = true by unfold muchB; rw [decide_eq_true (show 200 < l.length by omega)]; simp)
          go_wp2
          go_ret
          exact ⟨by rw [kf.out]; simp; omega, kB.out⟩
      · have kf := Lib.hid (show muchB l = true by unfold muchB; rw [decide_eq_true (show 200000 < totO l by omega)]; rfl)
        go_wp2
        go_ret
        exact ⟨by rw [kf.out]; first | rfl | simp, kB.out⟩
end
end Go.Proofs.YtejofgdglpmlkaaGreatDoor
