/-
  Write's deferred function. Conditions: at most 2^45 bytes; a clock of at most 2^62.
-/
import Derived.Test.YtnnepcodghfcmaaGreatDoorVBytes
import Derived.Test.YtnnepcodghfcmaaGreatDoorVMkdir
import Derived.Defers
import Derived.Deep.DrawnRows
namespace Go.Proofs.YtnnepcodghfcmaaGreatDoor
open Go.RowKit
attribute [local go_sem ↓] Go.wp_at_zero Go.wp_at_succ

/-- What the deferred function has captured. -/
structure Caps (w : World) (S : Nat → Prop) (f b0 b1 b2 b3 b4 b5 : Nat) (dv bv : Value) (Q : ByteArray) (nodes more : Int) : Prop where
  h0 : w.heap[b0]? = some (.cells #[.pointer (some ⟨f, 0, none⟩)] 23 (0, 0))
  h1 : w.heap[b1]? = some (.cells #[dv] 39 (0, 0))
  h2 : w.heap[b2]? = some (.cells #[bv] 39 (0, 0))
  h3 : w.heap[b3]? = some (.cells #[.string Q] 9 (0, 0))
  h4 : w.heap[b4]? = some (.cells #[.int .i64 nodes] 3 (0, 0))
  h5 : w.heap[b5]? = some (.cells #[.int .i64 more] 3 (0, 0))
  n0 : ¬ S b0
  n1 : ¬ S b1
  n2 : ¬ S b2
  n3 : ¬ S b3
  n4 : ¬ S b4
  n5 : ¬ S b5
section
variable {f mb b0 b1 b2 b3 b4 b5 : Nat} {N : Bs → Nat} {S Tb : Nat → Prop} {st : St} {clock c0 room nodes more : Int} {dv bv : Value} {Q : ByteArray} {dat bb : Bs} {w W : World}
theorem Caps.keep (h : Caps w S f b0 b1 b2 b3 b4 b5 dv bv Q nodes more) (hK : Kept S w W) :
    W.cell? ⟨b0, 0, none⟩ = some (.pointer (some ⟨f, 0, none⟩)) ∧ W.cell? ⟨b1, 0, none⟩ = some dv ∧ W.cell? ⟨b2, 0, none⟩ = some bv ∧ W.cell? ⟨b3, 0, none⟩ = some (.string Q) ∧ W.cell? ⟨b4, 0, none⟩ = some (.int .i64 nodes) ∧ W.cell? ⟨b5, 0, none⟩ = some (.int .i64 more) :=
  ⟨(one_cell ((hK.block b0 (heap_lt h.h0) h.n0).trans h.h0)).1, (one_cell ((hK.block b1 (heap_lt h.h1) h.n1).trans h.h1)).1, (one_cell ((hK.block b2 (heap_lt h.h2) h.n2).trans h.h2)).1, (one_cell ((hK.block b3 (heap_lt h.h3) h.n3).trans h.h3)).1, (one_cell ((hK.block b4 (heap_lt h.h4) h.n4).trans h.h4)).1, (one_cell ((hK.block b5 (heap_lt h.h5) h.n5).trans h.h5)).1⟩
/-- What holds between the operations of the drawn statement. -/
structure WInv (w : World) (f mb : Nat) (N : Bs → Nat) (S : Nat → Prop) (st : St) (clock room : Int) (row : Value) (xs : Bs) (W : World) : Prop where
  fs : FsIn W f mb N S st clock room
  kept : Kept (· = f) w W
  own : W.ownsRow w.heap.size 5 1 row xs.length (ucells xs)
theorem WInv.change {W' : World} {row : Value} {xs : Bs} {c' : Int} (hf : f < w.heap.size) (h : WInv w f mb N S st clock room row xs W) (hg : W.grownBy W' (some f)) (hI : FsIn W' f mb N S st c' room) : WInv w f mb N S st c' room row xs W' :=
  ⟨hI, h.kept.trans (Kept.grown hg (S := (· = f)) (fun k e => by injection e with e; exact e.symm)) (fun k hk => Or.inl hk), h.own.kept hg (by
    by_cases hn : row.ownBlock = none
    · exact Or.inl hn
    · right; intro e; have := h.own.lt f e; omega)⟩
theorem WInv.append {W' : World} {row row' : Value} {xs ys : Bs} (h : WInv w f mb N S st clock room row xs W) (hg : W.grownBy W' row.ownBlock) (ho : W'.ownsRow w.heap.size 5 1 row' (xs ++ ys).length (ucells (xs ++ ys))) (hS : ∀ k, S k → k < w.heap.size) : WInv w f mb N S st clock room row' (xs ++ ys) W' :=
  ⟨h.fs.of_heap fun k hk => hg.block k (h.fs.lt k hk) (fun e => by have := (h.own.lt k e.symm).1; have := hS k hk; omega), h.kept.trans (Kept.grown hg (S := fun k => w.heap.size ≤ k) (fun k e => (h.own.lt k e).1)) (fun k hk => Or.inr hk), ho⟩
theorem WInv.drew {row : Value} {xs : Bs} (h : WInv w f mb N S st clock room row xs W) : WInv w f mb N S st clock room row xs W.drew := ⟨h.fs.of_heap fun _ _ => rfl, h.kept.drewN 1, h.own⟩
theorem WInv.src {row : Value} {xs : Bs} (hF : FsIn w f mb N S st clock room) {c' : Int} (h : WInv w f mb N S st c' room row xs W) (hd : BytesAt w dv dat S) : BytesAt W dv dat S :=
  hF.bytes_far hd (fun k hk h1 _ => h.kept.block k (hF.lt k hk) h1) (fun _ h => h) h.kept.size
theorem WInv.src' {row : Value} {xs : Bs} (hf : S f) (h : WInv w f mb N S st clock room row xs W) (hb : BytesAt w bv bb Tb) (hT : ∀ k, Tb k → ¬ S k ∧ k < w.heap.size) : BytesAt W bv bb Tb :=
  hb.of_heap (fun k hk => h.kept.block k (hT k hk).2 (fun e => (hT k hk).1 (e ▸ hf))) (fun _ h => h)
theorem WInv.caps {row : Value} {xs : Bs} (hF : S f) (hC : Caps w S f b0 b1 b2 b3 b4 b5 dv bv Q nodes more) (h : WInv w f mb N S st clock room row xs W) :
    W.cell? ⟨f, 0, none⟩ = some (.map (some mb)) ∧ W.cell? ⟨b0, 0, none⟩ = some (.pointer (some ⟨f, 0, none⟩)) ∧ W.cell? ⟨b1, 0, none⟩ = some dv ∧ W.cell? ⟨b2, 0, none⟩ = some bv ∧ W.cell? ⟨b3, 0, none⟩ = some (.string Q) :=
  ⟨(cells4 h.fs.cells).1, (hC.keep (h.kept.weaken (fun _ e => e ▸ hF))).1, (hC.keep (h.kept.weaken (fun _ e => e ▸ hF))).2.1, (hC.keep (h.kept.weaken (fun _ e => e ▸ hF))).2.2.1, (hC.keep (h.kept.weaken (fun _ e => e ▸ hF))).2.2.2.1⟩

/-- What is there behind the store into the map. -/
structure WFin (w : World) (f mb : Nat) (N : Bs → Nat) (S : Nat → Prop) (st : St) (clock room : Int) (row : Value) (xs : Bs) (Q : ByteArray) (W w6 : World) : Prop where
  inv : WInv w f mb N S st clock room row xs W
  map : MapAt w6 mb (fun p => if p = Q.data.toList then W.heap.size else N p) (putSt st Q.data.toList ⟨false, clock, xs⟩)
  grown : (W.alloc (.cells #[.bool false, .int .i64 clock, row] 57)).grownBy w6 (some mb)
set_option maxRecDepth 100000 in
theorem WInv.finish {row : Value} {xs : Bs} (h : WInv w f mb N S st clock room row xs W) (hF : FsIn w f mb N S st c0 room) (hC : Caps w S f b0 b1 b2 b3 b4 b5 dv bv Q nodes more) (hQ : Q.data.toList.length ≤ 1000) (hl : wt st ≤ 1099511627776) :
    ∃ w6, (Instr.mapUpdate 50 (.map (some mb)) (.string Q) (.pointer (some ⟨W.heap.size, 0, none⟩))).run Tryz.prog (W.alloc (.cells #[.bool false, .int .i64 clock, row] 57)) = .ok () w6 ∧ WFin w f mb N S st clock room row xs Q W w6 ∧
      w6.cell? ⟨f, 0, none⟩ = some (.map (some mb)) ∧ w6.cell? ⟨f, 3, none⟩ = some (.int .i64 (wt st)) ∧ w6.frozen? ⟨f, 3, none⟩ = false ∧ w6.cell? ⟨b0, 0, none⟩ = some (.pointer (some ⟨f, 0, none⟩)) ∧ w6.cell? ⟨b1, 0, none⟩ = some dv ∧ w6.cell? ⟨b2, 0, none⟩ = some bv ∧ w6.cell? ⟨b3, 0, none⟩ = some (.string Q) ∧ w6.cell? ⟨b4, 0, none⟩ = some (.int .i64 nodes) ∧ w6.cell? ⟨b5, 0, none⟩ = some (.int .i64 more) := by
  have hs : Q.size ≤ maxLen := by rw [Go.Lib.size_eq]; unfold maxLen; omega
  have hn : st.length < maxLen := by have : st.length ≤ wt st := by unfold wt; omega
                                     unfold maxLen; omega
  obtain ⟨w6, hrun, hm, hg, hsz⟩ := (h.fs.map.of_heap (w' := W.alloc (.cells #[.bool false, .int .i64 clock, row] 57)) (heap_alloc_old _ _ h.fs.map.lt)).put (nb := W.heap.size) h.fs.rising Q hs hn ⟨false, clock, xs⟩
  have hc := cells4 (put_cells h.fs hg)
  have hK : Kept S w w6 := ((h.kept.weaken (fun _ e => e ▸ hF.sf)).then (below_al (Below.refl _ _))).trans (Kept.grown hg (S := (· = mb)) (fun k e => by injection e with e; exact e.symm)) (fun k hk => Or.inl (hk ▸ hF.sm))
  obtain ⟨k0, k1, k2, k3, k4, k5⟩ := hC.keep hK
  exact ⟨w6, hrun, ⟨h, hm, hg⟩, hc.1, hc.2.2.2.1, hc.2.2.2.2 3, k0, k1, k2, k3, k4, k5⟩
theorem WFin.struct {row : Value} {xs : Bs} {w6 : World} (h : WFin w f mb N S st clock room row xs Q W w6) : w6.heap[f]? = some (.cells #[.map (some mb), .int .i64 clock, .int .i64 room, .int .i64 (wt st)] 52 (0, 0)) := put_cells h.inv.fs h.grown
theorem WFin.done {row : Value} {xs : Bs} {w6 w7 : World} (h : WFin w f mb N S st clock room row xs Q W w6) (hF : FsIn w f mb N S st c0 room) (hQ : Q.data.toList.length ≤ 1000) (hg7 : w6.grownBy w7 (some f))
    (hc : w7.heap[f]? = some (.cells #[.map (some mb), .int .i64 clock, .int .i64 room, .int .i64 (wt (putSt st Q.data.toList ⟨false, clock, xs⟩))] 52 (0, 0))) :
    ∃ N' S', FsIn w7 f mb N' S' (putSt st Q.data.toList ⟨false, clock, xs⟩) clock room ∧ (∀ k, S' k → S k ∨ w.heap.size ≤ k) ∧ Kept S w w7 := by
  have hb := (bytes_own h.inv.own).of_heap (w' := W.alloc (.cells #[.bool false, .int .i64 clock, row] 57)) (S' := Plus S w.heap.size (W.alloc (.cells #[.bool false, .int .i64 clock, row] 57)).heap.size) (fun k hk => heap_alloc_old _ _ hk.2) (fun k hk => Or.inr ⟨hk.1, by simp; omega⟩)
  have hp := h.inv.fs.put (q := Q.data.toList) (nd := ⟨false, clock, xs⟩) (nb := W.heap.size) (clock' := clock) (lo := w.heap.size) hQ (below_al (Below.refl _ _)) h.inv.kept.size (Nat.le_refl _) ⟨row, heap_alloc_new _ _, hb⟩ (by simp) h.map h.grown hg7 hc
  exact ⟨_, _, hp.1, fun k hk => hk.imp id (fun h => h.1), (h.inv.kept.weaken (fun _ e => e ▸ hF.sf)).trans hp.2 (fun k hk => Or.inl hk)⟩
set_option maxRecDepth 100000 in
set_option maxHeartbeats 8000000 in
theorem writed_calls (u : FrameMode) (hF : FsIn w f mb N S st clock room) (hC : Caps w S f b0 b1 b2 b3 b4 b5 dv bv Q nodes more) (hd : BytesAt w dv dat S) (hb : BytesAt w bv bb Tb) (hT : ∀ k, Tb k → ¬ S k ∧ k < w.heap.size)
    (hQ : Q.data.toList.length ≤ 1000) (hl : wt st ≤ 1099511627776) (h0 : 0 ≤ clock) (h1 : clock ≤ 4611686018427387904) (hdl : dat.length ≤ 65536) (hbl : bb.length ≤ 65536) (hn : 0 ≤ nodes ∧ nodes ≤ 1) (hm : -65536 ≤ more ∧ more ≤ 65536)
    (hw : ((wt st : Nat) : Int) + (nodes + more) = wt (putSt st Q.data.toList ⟨false, clock + 1, dat ++ bb⟩)) :
    CallsD Tryz.prog 17 #[.pointer (some ⟨b0, 0, none⟩), .pointer (some ⟨b1, 0, none⟩), .pointer (some ⟨b2, 0, none⟩), .pointer (some ⟨b3, 0, none⟩), .pointer (some ⟨b4, 0, none⟩), .pointer (some ⟨b5, 0, none⟩)] u w fun e u' w' => u' = u ∧ (e = .returned (.tuple #[]) ∧
      ∃ N' S', FsIn w' f mb N' S' (putSt st Q.data.toList ⟨false, clock + 1, dat ++ bb⟩) (clock + 1) room ∧ (∀ k, S' k → S k ∨ w.heap.size ≤ k) ∧ Kept S w w') := by
  obtain ⟨da, dc, hdv⟩ := hd.form
  obtain ⟨ba, bc, hbv⟩ := hb.form
  subst hdv hbv
  have kF := Lib.hid hF
  have kC := Lib.hid hC
  have kd := Lib.hid hd
  have kb := Lib.hid hb
  have kT := Lib.hid hT
  have kw := Lib.hid hw
  have kQ := Lib.hid hQ
  have J : WInv w f mb N S st clock room (.slice none 0 0) [] w.drew := WInv.drew ⟨hF, Kept.refl _ _, World.ownsRow_nil _ _ _ _⟩
  obtain ⟨c0, c1, c2, c3, c4⟩ := WInv.caps hF.sf hC J
  have kJ := Lib.hid J
  have hfl := hF.lt f hF.sf
  have hl0 := heap_lt hC.h0
  have hl1 := heap_lt hC.h1
  have hl2 := heap_lt hC.h2
  have hl3 := heap_lt hC.h3
  clear hF hC hd hb hT hw hQ J
  go_enter_d Tryz.func17, Tryz.ntmps17
  go_wp2_with fail
  go_region_held3 (fun w' => w'.cell? ⟨f, 0, none⟩ = some (.map (some mb)) ∧ w'.cell? ⟨b0, 0, none⟩ = some (.pointer (some ⟨f, 0, none⟩)) ∧ w'.cell? ⟨b1, 0, none⟩ = some (.slice da dat.length dc) ∧ w'.cell? ⟨b2, 0, none⟩ = some (.slice ba bb.length bc) ∧ w'.cell? ⟨b3, 0, none⟩ = some (.string Q))
    (first | exact ⟨d0, d3, d4, d5, d6⟩ | exact WInv.caps kF.out.sf kC.out kJ.out | go_keep)
    (first
      | (go_at_call 16
         refine (change_calls _ kJ.out.fs h0 h1).mono ?_
         rintro e w3 ⟨rfl, hg3, hs3, hI3⟩
         have kJ' := Lib.hid (kJ.out.change hfl hg3 hI3)
         clear kJ hg3 hs3 hI3
         have kJ := kJ'
         clear kJ'
         first
           | (obtain ⟨w6, hrun6, hfin, d0, d1, d2, d3, d4, d5, d6, d7, d8⟩ := WInv.finish (row := .slice a2 m2 c2) (xs := [] ++ dat ++ bb) kJ.out kF.out kC.out kQ.out hl
              have kfin := Lib.hid hfin
              clear hfin)
           | skip)
      | (refine step_append_bytes (by rfl) _ _ (by rfl) w.heap.size (.slice none 0 0) [] (by rfl) kJ.out.own (.slice da dat.length dc) dat S (by rfl) (WInv.src kF.out kJ.out kd.out) (by simp; omega) kJ.out.kept.size ?_
         intro a1 m1 c1 w4 hm1 ho hg
         have kJ' := Lib.hid (kJ.out.append hg ho kF.out.lt)
         clear kJ ho hg
         have kJ := kJ'
         clear kJ')
      | (refine step_append_bytes (by rfl) _ _ (by rfl) w.heap.size (.slice a1 m1 c1) ([] ++ dat) (by rfl) kJ.out.own (.slice ba bb.length bc) bb Tb (by rfl) (WInv.src' kF.out.sf kJ.out kb.out kT.out) (by simp; omega) kJ.out.kept.size ?_
         intro a2 m2 c2 w5 hm2 ho hg
         have kJ' := Lib.hid (kJ.out.append hg ho kF.out.lt)
         clear kJ ho hg
         have kJ := kJ'
         clear kJ'
         first
           | (obtain ⟨w6, hrun6, hfin, d0, d1, d2, d3, d4, d5, d6, d7, d8⟩ := WInv.finish (clock := clock + 1) (row := .slice a2 m2 c2) (xs := [] ++ dat ++ bb) kJ.out kF.out kC.out kQ.out hl
              have kfin := Lib.hid hfin
              clear hfin)
           | skip))
  go_wp2_with fail
  have hs1 : IntKind.i64.wrap (nodes + more) = nodes + more := IntWalk.i64_in _ (by omega)
  have hs2 : IntKind.i64.wrap ((wt st : Int) + (nodes + more)) = (wt st : Int) + (nodes + more) := IntWalk.i64_in _ (by omega)
  go_region
  go_end0
  refine ⟨rfl, ?_⟩
  have e1 : [] ++ dat ++ bb = dat ++ bb := rfl
  have hdone := kfin.out.done kF.out kQ.out (w7 := (w6.setCell ⟨f, 3, none⟩ (.int .i64 ((wt st : Int) + (nodes + more)))).drew) ⟨rfl, rfl, rfl, by simp, (set_grown w6 f 3 _).block⟩ (by
    rw [e1, ← kw.out]
    exact set_heap kfin.out.struct 3 (.int .i64 ((wt st : Int) + (nodes + more))))
  rw [e1] at hdone
  exact hdone
end
end Go.Proofs.YtnnepcodghfcmaaGreatDoor
