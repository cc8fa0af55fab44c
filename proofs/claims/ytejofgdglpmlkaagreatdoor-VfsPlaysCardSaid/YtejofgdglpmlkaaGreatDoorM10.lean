/-
  Write's deferred function. Conditions: at most 2^45 bytes; a clock of at most 2^62.
  Write. Conditions: texts of at most 2^31 bytes; a weight of at most 2^40; a clock of at most 2^62.
-/
import Derived.Test.YtejofgdglpmlkaaGreatDoorM09
import Derived.Test.YtejofgdglpmlkaaGreatDoorM07
import Derived.Defers
import Derived.Deep.DrawnRows
namespace Go.Proofs.YtejofgdglpmlkaaGreatDoor
open Go.RowKit
attribute [local go_sem ↓] Go.wp_at_zero Go.wp_at_succ

/-- What the deferred function has captured. -/
structure Caps (w : World) (S : Nat → Prop) (f b0 b1 b2 b3 b4 b5 : Nat) (dv bv : Value) (Q : ByteArray) (nodes more : Int) : Prop where
  h0 : w.heap[b0]? = some (.cells #[.pointer (some ⟨f, 0, none⟩)] 28 (0, 0))
  h1 : w.heap[b1]? = some (.cells #[dv] 41 (0, 0))
  h2 : w.heap[b2]? = some (.cells #[bv] 41 (0, 0))
  h3 : w.heap[b3]? = some (.cells #[.string Q] 9 (0, 0))
  h4 : w.heap[b4]? = some (.cells #[.int .i64 nodes] 3 (0, 0))
  h5 : w.heap[b5]? = some (.cells #[.int .i64 more] 3 (0, 0))
  n0 : ¬ S b0
  n1 : ¬ S b1
  n2 : ¬ S b2
  n3 : ¬ S b3
  n4 : ¬ S b4
  n5 : ¬ S b5
section
variable {f mb b0 b1 b2 b3 b4 b5 : Nat} {N : Bs → Nat} {S Tb : Nat → Prop} {st : St} {clock c0 room nodes more : Int} {dv bv : Value} {Q : ByteArray} {dat bb : Bs} {w W : World}
theorem Caps.keep (h : Caps w S f b0 b1 b2 b3 b4 b5 dv bv Q nodes more) (hK : Kept S w W) :
    W.cell? ⟨b0, 0, none⟩ = some (.pointer (some ⟨f, 0, none⟩)) ∧ W.cell? ⟨b1, 0, none⟩ = some dv ∧ W.cell? ⟨b2, 0, none⟩ = some bv ∧ W.cell? ⟨b3, 0, none⟩ = some (.string Q) ∧ W.cell? ⟨b4, 0, none⟩ = some (.int .i64 nodes) ∧ W.cell? ⟨b5, 0, none⟩ = some (.int .i64 more) :=
  ⟨(one_cell ((hK.block b0 (heap_lt h.h0) h.n0).trans h.h0)).1, (one_cell ((hK.block b1 (heap_lt h.h1) h.n1).trans h.h1)).1, (one_cell ((hK.block b2 (heap_lt h.h2) h.n2).trans h.h2)).1, (one_cell ((hK.block b3 (heap_lt h.h3) h.n3).trans h.h3)).1, (one_cell ((hK.block b4 (heap_lt h.h4) h.n4).trans h.h4)).1, (one_cell ((hK.block b5 (heap_lt h.h5) h.n5).trans h.h5)).1⟩
/-- What holds between the operations of the drawn statement. -/
structure WInv (w : World) (f mb : Nat) (N : Bs → Nat) (S : Nat → Prop) (st : St) (clock room : Int) (row : Value) (xs : Bs) (W : World) : Prop where
  fs : FsIn W f mb N S st clock room
  kept : Kept (· = f) w W
  own : W.ownsRow w.heap.size 5 1 row xs.length (ucells xs)
theorem WInv.change {W' : World} {row : Value} {xs : Bs} {c' : Int} (hf : f < w.heap.size) (h : WInv w f mb N S st clock room row xs W) (hg : W.grownBy W' (some f)) (hI : FsIn W' f mb N S st c' room) : WInv w f mb N S st c' room row xs W' :=
  ⟨hI, h.kept.trans (Kept.grown hg (S := (· = f)) (fun k e => by injection e with e; exact e.symm)) (fun k hk => Or.inl hk), h.own.kept hg (by
    by_cases hn : row.ownBlock = none
    · exact Or.inl hn
    · right; intro e; have := h.own.lt f e; omega)⟩
theorem WInv.append {W' : World} {row row' : Value} {xs ys : Bs} (h : WInv w f mb N S st clock room row xs W) (hg : W.grownBy W' row.ownBlock) (ho : W'.ownsRow w.heap.size 5 1 row' (xs ++ ys).length (ucells (xs ++ ys))) (hS : ∀ k, S k → k < w.heap.size) : WInv w f mb N S st clock room row' (xs ++ ys) W' :=
  ⟨h.fs.of_heap fun k hk => hg.block k (h.fs.lt k hk) (fun e => by have := (h.own.lt k e.symm).1; have := hS k hk; omega), h.kept.trans (Kept.grown hg (S := fun k => w.heap.size ≤ k) (fun k e => (h.own.lt k e).1)) (fun k hk => Or.inr hk), ho⟩
theorem WInv.drew {row : Value} {xs : Bs} (h : WInv w f mb N S st clock room row xs W) : WInv w f mb N S st clock room row xs W.drew := ⟨h.fs.of_heap fun _ _ => rfl, h.kept.drewN 1, h.own⟩
theorem WInv.src {row : Value} {xs : Bs} (hF : FsIn w f mb N S st clock room) {c' : Int} (h : WInv w f mb N S st c' room row xs W) (hd : BytesAt w dv dat S) : BytesAt W dv dat S :=
  hF.bytes_far hd (fun k hk h1 _ => h.kept.block k (hF.lt k hk) h1) (fun _ h => h) h.kept.size
theorem WInv.src' {row : Value} {xs : Bs} (hf : S f) (h : WInv w f mb N S st clock room row xs W) (hb : BytesAt w bv bb Tb) (hT : ∀ k, Tb k → ¬ S k ∧ k < w.heap.size) : BytesAt W bv bb Tb :=
  hb.of_heap (fun k hk => h.kept.block k (hT k hk).2 (fun e => (hT k hk).1 (e ▸ hf))) (fun _ h => h)
theorem WInv.caps {row : Value} {xs : Bs} (hF : S f) (hC : Caps w S f b0 b1 b2 b3 b4 b5 dv bv Q nodes more) (h : WInv w f mb N S st clock room row xs W) :
    W.cell? ⟨f, 0, none⟩ = some (.map (some mb)) ∧ W.cell? ⟨b0, 0, none⟩ = some (.pointer (some ⟨f, 0, none⟩)) ∧ W.cell? ⟨b1, 0, none⟩ = some dv ∧ W.cell? ⟨b2, 0, none⟩ = some bv ∧ W.cell? ⟨b3, 0, none⟩ = some (.string Q) :=
  ⟨(cells4 h.fs.cells).1, (hC.keep (h.kept.weaken (fun _ e => e ▸ hF))).1, (hC.keep (h.kept.weaken (fun _ e => e ▸ hF))).2.1, (hC.keep (h.kept.weaken (fun _ e => e ▸ hF))).2.2.1, (hC.keep (h.kept.weaken (fun _ e => e ▸ hF))).2.2.2.1⟩

/-- What is there behind the store into the map. -/
structure WFin (w : World) (f mb : Nat) (N : Bs → Nat) (S : Nat → Prop) (st : St) (clock room : Int) (row : Value) (xs : Bs) (Q : ByteArray) (W w6 : World) : Prop where
  inv : WInv w f mb N S st clock room row xs W
  map : MapAt w6 mb (fun p => if p = Q.data.toList then W.heap.size else N p) (putSt st Q.data.toList ⟨false, clock, xs⟩)
  grown : (W.alloc (.cells #[.bool false, .int .i64 clock, row] 61)).grownBy w6 (some mb)
set_option maxRecDepth 100000 in
theorem WInv.finish {row : Value} {xs : Bs} (h : WInv w f mb N S st clock room row xs W) (hF : FsIn w f mb N S st c0 room) (hC : Caps w S f b0 b1 b2 b3 b4 b5 dv bv Q nodes more) (hQ : Q.data.toList.length ≤ 1000) (hl : wt st ≤ 1099511627776) :
    ∃ w6, (Instr.mapUpdate 56 (.map (some mb)) (.string Q) (.pointer (some ⟨W.heap.size, 0, none⟩))).run Tryz.prog (W.alloc (.cells #[.bool false, .int .i64 clock, row] 61)) = .ok () w6 ∧ WFin w f mb N S st clock room row xs Q W w6 ∧
      w6.cell? ⟨f, 0, none⟩ = some (.map (some mb)) ∧ w6.cell? ⟨f, 3, none⟩ = some (.int .i64 (wt st)) ∧ w6.frozen? ⟨f, 3, none⟩ = false ∧ w6.cell? ⟨b0, 0, none⟩ = some (.pointer (some ⟨f, 0, none⟩)) ∧ w6.cell? ⟨b1, 0, none⟩ = some dv ∧ w6.cell? ⟨b2, 0, none⟩ = some bv ∧ w6.cell? ⟨b3, 0, none⟩ = some (.string Q) ∧ w6.cell? ⟨b4, 0, none⟩ = some (.int .i64 nodes) ∧ w6.cell? ⟨b5, 0, none⟩ = some (.int .i64 more) := by
  have hs : Q.size ≤ maxLen := by rw [Go.Lib.size_eq]; unfold maxLen; omega
  have hn : st.length < maxLen := by have : st.length ≤ wt st := by unfold wt; omega
                                     unfold maxLen; omega
  obtain ⟨w6, hrun, hm, hg, hsz⟩ := (h.fs.map.of_heap (w' := W.alloc (.cells #[.bool false, .int .i64 clock, row] 61)) (heap_alloc_old _ _ h.fs.map.lt)).put (nb := W.heap.size) h.fs.rising Q hs hn ⟨false, clock, xs⟩
  have hc := cells4 (put_cells h.fs hg)
  have hK : Kept S w w6 := ((h.kept.weaken (fun _ e => e ▸ hF.sf)).then (below_al (Below.refl _ _))).trans (Kept.grown hg (S := (· = mb)) (fun k e => by injection e with e; exact e.symm)) (fun k hk => Or.inl (hk ▸ hF.sm))
  obtain ⟨k0, k1, k2, k3, k4, k5⟩ := hC.keep hK
  exact ⟨w6, hrun, ⟨h, hm, hg⟩, hc.1, hc.2.2.2.1, hc.2.2.2.2 3, k0, k1, k2, k3, k4, k5⟩
theorem WFin.struct {row : Value} {xs : Bs} {w6 : World} (h : WFin w f mb N S st clock room row xs Q W w6) : w6.heap[f]? = some (.cells #[.map (some mb), .int .i64 clock, .int .i64 room, .int .i64 (wt st)] 58 (0, 0)) := put_cells h.inv.fs h.grown
theorem WFin.done {row : Value} {xs : Bs} {w6 w7 : World} (h : WFin w f mb N S st clock room row xs Q W w6) (hF : FsIn w f mb N S st c0 room) (hQ : Q.data.toList.length ≤ 1000) (hg7 : w6.grownBy w7 (some f))
    (hc : w7.heap[f]? = some (.cells #[.map (some mb), .int .i64 clock, .int .i64 room, .int .i64 (wt (putSt st Q.data.toList ⟨false, clock, xs⟩))] 58 (0, 0))) :
    ∃ N' S', FsIn w7 f mb N' S' (putSt st Q.data.toList ⟨false, clock, xs⟩) clock room ∧ (∀ k, S' k → S k ∨ w.heap.size ≤ k) ∧ Kept S w w7 := by
  have hb := (bytes_own h.inv.own).of_heap (w' := W.alloc (.cells #[.bool false, .int .i64 clock, row] 61)) (S' := Plus S w.heap.size (W.alloc (.cells #[.bool false, .int .i64 clock, row] 61)).heap.size) (fun k hk => heap_alloc_old _ _ hk.2) (fun k hk => Or.inr ⟨hk.1, by simp; omega⟩)
  have hp := h.inv.fs.put (q := Q.data.toList) (nd := ⟨false, clock, xs⟩) (nb := W.heap.size) (clock' := clock) (lo := w.heap.size) hQ (below_al (Below.refl _ _)) h.inv.kept.size (Nat.le_refl _) ⟨row, heap_alloc_new _ _, hb⟩ (by simp) h.map h.grown hg7 hc
  exact ⟨_, _, hp.1, fun k hk => hk.imp id (fun h => h.1), (h.inv.kept.weaken (fun _ e => e ▸ hF.sf)).trans hp.2 (fun k hk => Or.inl hk)⟩
set_option maxRecDepth 100000 in
set_option maxHeartbeats 8000000 in
theorem writed_calls (u : FrameMode) (hF : FsIn w f mb N S st clock room) (hC : Caps w S f b0 b1 b2 b3 b4 b5 dv bv Q nodes more) (hd : BytesAt w dv dat S) (hb : BytesAt w bv bb Tb) (hT : ∀ k, Tb k → ¬ S k ∧ k < w.heap.size)
    (hQ : Q.data.toList.length ≤ 1000) (hl : wt st ≤ 1099511627776) (h0 : 0 ≤ clock) (h1 : clock ≤ 4611686018427387904) (hdl : dat.length ≤ 65536) (hbl : bb.length ≤ 65536) (hn : 0 ≤ nodes ∧ nodes ≤ 1) (hm : -65536 ≤ more ∧ more ≤ 65536)
    (hw : ((wt st : Nat) : Int) + (nodes + more) = wt (putSt st Q.data.toList ⟨false, clock + 1, dat ++ bb⟩)) :
    CallsD Tryz.prog 37 #[.pointer (some ⟨b0, 0, none⟩), .pointer (some ⟨b1, 0, none⟩), .pointer (some ⟨b2, 0, none⟩), .pointer (some ⟨b3, 0, none⟩), .pointer (some ⟨b4, 0, none⟩), .pointer (some ⟨b5, 0, none⟩)] u w fun e u' w' => u' = u ∧ (e = .returned (.tuple #[]) ∧
      ∃ N' S', FsIn w' f mb N' S' (putSt st Q.data.toList ⟨false, clock + 1, dat ++ bb⟩) (clock + 1) room ∧ (∀ k, S' k → S k ∨ w.heap.size ≤ k) ∧ Kept S w w') := by
  obtain ⟨da, dc, hdv⟩ := hd.form
  obtain ⟨ba, bc, hbv⟩ := hb.form
  subst hdv hbv
  have kF := Lib.hid hF
  have kC := Lib.hid hC
  have kd := Lib.hid hd
  have kb := Lib.hid hb
  have kT := Lib.hid hT
  have kw := Lib.hid hw
  have kQ := Lib.hid hQ
  have J : WInv w f mb N S st clock room (.slice none 0 0) [] w.drew := WInv.drew ⟨hF, Kept.refl _ _, World.ownsRow_nil _ _ _ _⟩
  obtain ⟨c0, c1, c2, c3, c4⟩ := WInv.caps hF.sf hC J
  have kJ := Lib.hid J
  have hfl := hF.lt f hF.sf
  have hl0 := heap_lt hC.h0
  have hl1 := heap_lt hC.h1
  have hl2 := heap_lt hC.h2
  have hl3 := heap_lt hC.h3
  clear hF hC hd hb hT hw hQ J
  go_enter_d Tryz.func37, Tryz.ntmps37
  go_wp2_with fail
  go_region_held3 (fun w' => w'.cell? ⟨f, 0, none⟩ = some (.map (some mb)) ∧ w'.cell? ⟨b0, 0, none⟩ = some (.pointer (some ⟨f, 0, none⟩)) ∧ w'.cell? ⟨b1, 0, none⟩ = some (.slice da dat.length dc) ∧ w'.cell? ⟨b2, 0, none⟩ = some (.slice ba bb.length bc) ∧ w'.cell? ⟨b3, 0, none⟩ = some (.string Q))
    (first | exact ⟨d0, d3, d4, d5, d6⟩ | exact WInv.caps kF.out.sf kC.out kJ.out | go_keep)
    (first
      | (go_at_call 38
         refine (change_calls _ kJ.out.fs h0 h1).mono ?_
         rintro e w3 ⟨rfl, hg3, hs3, hI3⟩
         have kJ' := Lib.hid (kJ.out.change hfl hg3 hI3)
         clear kJ hg3 hs3 hI3
         have kJ := kJ'
         clear kJ'
         first
           | (obtain ⟨w6, hrun6, hfin, d0, d1, d2, d3, d4, d5, d6, d7, d8⟩ := WInv.finish (row := .slice a2 m2 c2) (xs := [] ++ dat ++ bb) kJ.out kF.out kC.out kQ.out hl
              have kfin := Lib.hid hfin
              clear hfin)
           | skip)
      | (refine step_append_bytes (by rfl) _ _ (by rfl) w.heap.size (.slice none 0 0) [] (by rfl) kJ.out.own (.slice da dat.length dc) dat S (by rfl) (WInv.src kF.out kJ.out kd.out) (by simp; omega) kJ.out.kept.size ?_
         intro a1 m1 c1 w4 hm1 ho hg
         have kJ' := Lib.hid (kJ.out.append hg ho kF.out.lt)
         clear kJ ho hg
         have kJ := kJ'
         clear kJ')
      | (refine step_append_bytes (by rfl) _ _ (by rfl) w.heap.size (.slice a1 m1 c1) ([] ++ dat) (by rfl) kJ.out.own (.slice ba bb.length bc) bb Tb (by rfl) (WInv.src' kF.out.sf kJ.out kb.out kT.out) (by simp; omega) kJ.out.kept.size ?_
         intro a2 m2 c2 w5 hm2 ho hg
         have kJ' := Lib.hid (kJ.out.append hg ho kF.out.lt)
         clear kJ ho hg
         have kJ := kJ'
         clear kJ'
         first
           | (obtain ⟨w6, hrun6, hfin, d0, d1, d2, d3, d4, d5, d6, d7, d8⟩ := WInv.finish (clock := clock + 1) (row := .slice a2 m2 c2) (xs := [] ++ dat ++ bb) kJ.out kF.out kC.out kQ.out hl
              have kfin := Lib.hid hfin
              clear hfin)
           | skip))
  go_wp2_with fail
  have hs1 : IntKind.i64.wrap (nodes + more) = nodes + more := IntWalk.i64_in _ (by omega)
  have hs2 : IntKind.i64.wrap ((wt st : Int) + (nodes + more)) = (wt st : Int) + (nodes + more) := IntWalk.i64_in _ (by omega)
  go_region
  go_end0
  refine ⟨rfl, ?_⟩
  have e1 : [] ++ dat ++ bb = dat ++ bb := rfl
  have hdone := kfin.out.done kF.out kQ.out (w7 := (w6.setCell ⟨f, 3, none⟩ (.int .i64 ((wt st : Int) + (nodes + more)))).drew) ⟨rfl, rfl, rfl, by simp, (set_grown w6 f 3 _).block⟩ (by
    rw [e1, ← kw.out]
    exact set_heap kfin.out.struct 3 (.int .i64 ((wt st : Int) + (nodes + more))))
  rw [e1] at hdone
  exact hdone
end
end Go.Proofs.YtejofgdglpmlkaaGreatDoor
namespace Go.Proofs.YtejofgdglpmlkaaGreatDoor
open Go.RowKit

def OpPost (w : World) (f : Nat) (S : Nat → Prop) (room : Int) (r : Int × St × Int) (e : Ending) (w' : World) : Prop :=
  e = .returned (.int .i64 r.1) ∧ ∃ S', FsAt w' f S' r.2.1 r.2.2 room ∧ (∀ k, S' k → S k ∨ w.heap.size ≤ k) ∧ Kept S w w'
def writeTail (st : St) (clock room : Int) (q dat bb : Bs) (nodes more : Int) : Int × St × Int :=
  if 65536 < dat.length + bb.length then (2, st, clock) else if fitsB st room nodes more = false then (15, st, clock) else (0, putSt st q ⟨false, clock + 1, dat ++ bb⟩, clock + 1)
section
variable {f mb : Nat} {N : Bs → Nat} {S Tb : Nat → Prop} {st : St} {clock room : Int} {p : ByteArray} {q bb : Bs} {bv : Value} {w : World} {add : Bool}
theorem OpPost.same {w w' : World} {f mb : Nat} {N : Bs → Nat} {S : Nat → Prop} {st : St} {clock room c : Int} {r : Int × St × Int} {e : Ending} (h : FsIn w f mb N S st clock room) (hr : r = (c, st, clock)) (he : e = .returned (.int .i64 c)) (hb : Below w.heap.size w w') : OpPost w f S room r e w' := by
  subst hr
  exact ⟨he, S, ⟨mb, N, h.below hb⟩, fun k hk => Or.inl hk, Kept.of_below hb⟩
theorem OpPost.done {w w1 w' : World} {f mb : Nat} {N' : Bs → Nat} {S S' : Nat → Prop} {st' : St} {clock' room : Int} {r : Int × St × Int} (hr : r = (0, st', clock')) (hb : Below w.heap.size w w1) (h : FsIn w' f mb N' S' st' clock' room) (hS : ∀ k, S' k → S k ∨ w1.heap.size ≤ k) (hK : Kept S w1 w') : OpPost w f S room r (.returned (.int .i64 0)) w' := by
  subst hr
  exact ⟨rfl, S', ⟨mb, N', h⟩, fun k hk => (hS k hk).imp id fun h => Nat.le_trans hb.size h, Below.kept hb hK⟩
/-- Write's variables, laid behind look. -/
def Boxed (w1 : World) (B : Nat) (Q : ByteArray) (dv : Value) (more nodes : Int) : World := (((w1.setCell ⟨B + 1, 0, none⟩ (.string Q)).alloc (.cells #[dv] 41)).alloc (.cells #[.int .i64 more] 3)).alloc (.cells #[.int .i64 nodes] 3)
theorem boxed_below {w w1 : World} {B : Nat} {Q : ByteArray} {dv : Value} {more nodes : Int} (h : Below w.heap.size w w1) (hB : w.heap.size ≤ B + 1) : Below w.heap.size w (Boxed w1 B Q dv more nodes) :=
  below_al (below_al (below_al (h.setCell hB _)))
theorem Caps.drewN {w : World} {S : Nat → Prop} {f b0 b1 b2 b3 b4 b5 : Nat} {dv bv : Value} {Q : ByteArray} {nodes more : Int} (h : Caps w S f b0 b1 b2 b3 b4 b5 dv bv Q nodes more) (n : Nat) : Caps (w.drewN n) S f b0 b1 b2 b3 b4 b5 dv bv Q nodes more :=
  ⟨h.h0, h.h1, h.h2, h.h3, h.h4, h.h5, h.n0, h.n1, h.n2, h.n3, h.n4, h.n5⟩
theorem boxed_caps {w1 : World} {S : Nat → Prop} {f B : Nat} {p Q : ByteArray} {dv bv : Value} {more nodes : Int} (e0 : w1.heap[B]? = some (.cells #[.pointer (some ⟨f, 0, none⟩)] 28 (0, 0))) (e1 : w1.heap[B + 1]? = some (.cells #[.string p] 9 (0, 0))) (e2 : w1.heap[B + 1 + 1]? = some (.cells #[bv] 41 (0, 0))) (hS : ∀ k, S k → k < B) :
    Caps (Boxed w1 B Q dv more nodes) S f B w1.heap.size (B + 1 + 1) (B + 1) (w1.heap.size + 1 + 1) (w1.heap.size + 1) dv bv Q nodes more := by
  have l2 := heap_lt e2
  have old : ∀ k, k < w1.heap.size → k ≠ B + 1 → (Boxed w1 B Q dv more nodes).heap[k]? = w1.heap[k]? := fun k hk hne => by
    unfold Boxed
    rw [heap_alloc_old _ _ (by simp; omega), heap_alloc_old _ _ (by simp; omega), heap_alloc_old _ _ (by simpa using hk), Below.heap_setCell _ _ _ _ (by simpa using hne)]
  refine ⟨(old _ (by omega) (by omega)).trans e0, ?_, (old _ l2 (by omega)).trans e2, ?_, ?_, ?_, fun h => ?_, fun h => ?_, fun h => ?_, fun h => ?_, fun h => ?_, fun h => ?_⟩
  · unfold Boxed
    rw [heap_alloc_old _ _ (by simp; omega), heap_alloc_old _ _ (by simp)]
    have := heap_alloc_new (w1.setCell ⟨B + 1, 0, none⟩ (.string Q)) (.cells #[dv] 41)
    simpa using this
  · unfold Boxed
    rw [heap_alloc_old _ _ (by simp; omega), heap_alloc_old _ _ (by simp; omega), heap_alloc_old _ _ (by simp; omega)]
    exact one_setCell e1
  · unfold Boxed
    have := heap_alloc_new (((w1.setCell ⟨B + 1, 0, none⟩ (.string Q)).alloc (.cells #[dv] 41)).alloc (.cells #[.int .i64 more] 3)) (.cells #[.int .i64 nodes] 3)
    simpa using this
  · unfold Boxed
    rw [heap_alloc_old _ _ (by simp)]
    have := heap_alloc_new ((w1.setCell ⟨B + 1, 0, none⟩ (.string Q)).alloc (.cells #[dv] 41)) (.cells #[.int .i64 more] 3)
    simpa using this
  all_goals (have := hS _ h; omega)
/-- The three boxes of Write's parameters. -/
def Box3 (w : World) (f : Nat) (p : ByteArray) (bv : Value) : World := ((w.alloc (.cells #[.pointer (some ⟨f, 0, none⟩)] 28)).alloc (.cells #[.string p] 9)).alloc (.cells #[bv] 41)
theorem box3 (w : World) (f : Nat) (p : ByteArray) (bv : Value) {w1 : World} (hb : Below (Box3 w f p bv).heap.size (Box3 w f p bv) w1) :
    w1.heap[w.heap.size]? = some (.cells #[.pointer (some ⟨f, 0, none⟩)] 28 (0, 0)) ∧ w1.heap[w.heap.size + 1]? = some (.cells #[.string p] 9 (0, 0)) ∧ w1.heap[w.heap.size + 1 + 1]? = some (.cells #[bv] 41 (0, 0)) ∧ w.heap.size + 2 < w1.heap.size ∧ Below w.heap.size w w1 := by
  have hs : (Box3 w f p bv).heap.size = w.heap.size + 3 := by simp [Box3]
  have hsz := hb.size
  refine ⟨(hb.block _ (by omega)).trans ?_, (hb.block _ (by omega)).trans ?_, (hb.block _ (by omega)).trans ?_, by omega, ?_⟩
  · unfold Box3
    rw [heap_alloc_old _ _ (by simp; omega), heap_alloc_old _ _ (by simp)]; exact heap_alloc_new w _
  · unfold Box3
    rw [heap_alloc_old _ _ (by simp)]
    have := heap_alloc_new (w.alloc (.cells #[.pointer (some ⟨f, 0, none⟩)] 28)) (.cells #[.string p] 9)
    simpa using this
  · unfold Box3
    have := heap_alloc_new ((w.alloc (.cells #[.pointer (some ⟨f, 0, none⟩)] 28)).alloc (.cells #[.string p] 9)) (.cells #[bv] 41)
    simpa using this
  · exact (show Below w.heap.size w (Box3 w f p bv) from below_al (below_al (below_al (Below.refl _ _)))).trans (hb.mono (by omega))
set_option maxRecDepth 100000 in
set_option maxHeartbeats 8000000 in
theorem write_none (h : FsIn w f mb N S st clock room) (hp : p.size ≤ 2147483647) (hq : clean p.data.toList = q) (hr : lookQ st q = .none) (hl : wt st ≤ 1099511627776) (h0 : 0 ≤ clock) (h1 : clock ≤ 4611686018427387904)
    (hb : BytesAt w bv bb Tb) (hT : ∀ k, Tb k → ¬ S k ∧ k < w.heap.size) (hbl : bb.length ≤ 70368744177664) :
    Calls Tryz.prog 17 #[.pointer (some ⟨f, 0, none⟩), .string p, bv, .bool add] w fun e w' => OpPost w f S room (writeTail st clock room q [] bb 1 bb.length) e w' := by
  obtain ⟨ba, bc, hbv⟩ := hb.form
  subst hbv
  have hW : Below w.heap.size w (Box3 w f p (.slice ba bb.length bc)) := below_al (below_al (below_al (Below.refl _ _)))
  have hL := Lib.hid (look_none _ (h.below hW) hp hq hr)
  have kh := Lib.hid h
  clear h
  have kHb := Lib.hid hb
  have kT := Lib.hid hT
  clear hb hT hW
  have hQe := mk_isEmpty (lookQ_valid (Or.inl hr)).2.1
  have kfind := Lib.hid (lookQ_find.1 hr)
  have kql := Lib.hid (valid_len (lookQ_valid (Or.inl hr)).1)
  generalize hQ : mk q = Q at *
  have kQ := Lib.hid hQ
  clear hQ
  by_cases hlong : 65536 < bb.length
  · have hpost := Lib.hid (show writeTail st clock room q [] bb 1 bb.length = (2, st, clock) by unfold writeTail; rw [if_pos (by simp; omega)])
    go_enter_defers Tryz.func17, Tryz.ntmps17
    go_wp2_with (go_at_call 34; refine hL.out.mono ?_; rintro e w1 ⟨rfl, hb⟩; have kb1 := Lib.hid hb; clear hb; obtain ⟨e0, e1, e2, hsz, hb1⟩ := box3 w f p (.slice ba bb.length bc) kb1.out; obtain ⟨c0, g0⟩ := one_cell e0; obtain ⟨c1, g1⟩ := one_cell e1; obtain ⟨c2, g2⟩ := one_cell e2; have n0 : w.heap.size < w1.heap.size := (by omega); have n1 : w.heap.size + 1 < w1.heap.size := (by omega); have n2 : w.heap.size + 1 + 1 < w1.heap.size := (by omega); have n3 : w.heap.size < w1.heap.size + 1 := (by omega); have n4 : w.heap.size + 1 < w1.heap.size + 1 + 1 := (by omega); clear hsz; have ke0 := Lib.hid e0; have ke1 := Lib.hid e1; have ke2 := Lib.hid e2; have kb := Lib.hid hb1; clear e0 e1 e2 hb1 g0 g2)
    refine ⟨_, results_tmp rfl _ _ _, ?_⟩
    exact OpPost.same kh.out (hpost.out) rfl (boxed_below kb.out (by omega))
  · have hshort : bb.length ≤ 65536 := by omega
    clear hlong
    cases hfit : fitsB st room 1 bb.length with
    | false =>
      have hpost := Lib.hid (show writeTail st clock room q [] bb 1 bb.length = (15, st, clock) by unfold writeTail; rw [if_neg (by simp; omega), if_pos hfit])
      go_enter_defers Tryz.func17, Tryz.ntmps17
      go_wp2_with (go_at_call 34; refine hL.out.mono ?_; rintro e w1 ⟨rfl, hb⟩; have kb1 := Lib.hid hb; clear hb; obtain ⟨e0, e1, e2, hsz, hb1⟩ := box3 w f p (.slice ba bb.length bc) kb1.out; obtain ⟨c0, g0⟩ := one_cell e0; obtain ⟨c1, g1⟩ := one_cell e1; obtain ⟨c2, g2⟩ := one_cell e2; have n0 : w.heap.size < w1.heap.size := (by omega); have n1 : w.heap.size + 1 < w1.heap.size := (by omega); have n2 : w.heap.size + 1 + 1 < w1.heap.size := (by omega); have n3 : w.heap.size < w1.heap.size + 1 := (by omega); have n4 : w.heap.size + 1 < w1.heap.size + 1 + 1 := (by omega); clear hsz; have ke0 := Lib.hid e0; have ke1 := Lib.hid e1; have ke2 := Lib.hid e2; have kb := Lib.hid hb1; clear e0 e1 e2 hb1 g0 g2)
      have hF := Lib.hid (fits_no 1 bb.length (Boxed w1 w.heap.size Q (.slice none 0 0) bb.length 1) (kh.out.below (boxed_below kb.out (by omega))) (by omega) (by omega) hl hfit)
      go_wp2_with (go_at_call 36; refine hF.out.mono ?_; rintro e w2 ⟨rfl, n2, rfl⟩)
      refine ⟨_, results_tmp rfl _ _ _, ?_⟩
      exact OpPost.same kh.out (hpost.out) rfl (below_drewN' (boxed_below kb.out (by omega)) _)
    | true =>
      have hpost := Lib.hid (show writeTail st clock room q [] bb 1 bb.length = (0, putSt st q ⟨false, clock + 1, [] ++ bb⟩, clock + 1) by unfold writeTail; rw [if_neg (by simp; omega), if_neg (by rw [hfit]; simp)])
      go_enter_defers Tryz.func17, Tryz.ntmps17
      go_wp2_with (go_at_call 34; refine hL.out.mono ?_; rintro e w1 ⟨rfl, hb⟩; have kb1 := Lib.hid hb; clear hb; obtain ⟨e0, e1, e2, hsz, hb1⟩ := box3 w f p (.slice ba bb.length bc) kb1.out; obtain ⟨c0, g0⟩ := one_cell e0; obtain ⟨c1, g1⟩ := one_cell e1; obtain ⟨c2, g2⟩ := one_cell e2; have n0 : w.heap.size < w1.heap.size := (by omega); have n1 : w.heap.size + 1 < w1.heap.size := (by omega); have n2 : w.heap.size + 1 + 1 < w1.heap.size := (by omega); have n3 : w.heap.size < w1.heap.size + 1 := (by omega); have n4 : w.heap.size + 1 < w1.heap.size + 1 + 1 := (by omega); clear hsz; have ke0 := Lib.hid e0; have ke1 := Lib.hid e1; have ke2 := Lib.hid e2; have kb := Lib.hid hb1; clear e0 e1 e2 hb1 g0 g2)
      have hF := Lib.hid (fits_yes 1 bb.length (Boxed w1 w.heap.size Q (.slice none 0 0) bb.length 1) (kh.out.below (boxed_below kb.out (by omega))) (by omega) (by omega) hl hfit)
      go_wp2_with (go_at_call 36; refine hF.out.mono ?_; rintro e w2 ⟨rfl, n2, rfl⟩)
      have hC := (boxed_caps (S := S) (Q := Q) (dv := .slice none 0 0) (more := bb.length) (nodes := 1) ke0.out ke1.out ke2.out (fun k hk => kh.out.lt k hk)).drewN n2
      have hI := (kh.out.below (boxed_below (Q := Q) (dv := .slice none 0 0) (more := bb.length) (nodes := 1) kb.out (by omega : w.heap.size ≤ w.heap.size + 1))).of_heap (w' := (Boxed w1 w.heap.size Q (.slice none 0 0) bb.length 1).drewN n2) (fun _ _ => rfl)
      have hB5 := below_drewN' (boxed_below (Q := Q) (dv := .slice none 0 0) (more := bb.length) (nodes := 1) kb.out (by omega : w.heap.size ≤ w.heap.size + 1)) n2
      have hbb := kHb.out.of_heap (w' := (Boxed w1 w.heap.size Q (.slice none 0 0) bb.length 1).drewN n2) (fun k hk => hB5.block k (kT.out k hk).2) (fun _ h => h)
      have hQq : Q.data.toList = q := by rw [← kQ.out, mk_list]
      have hwt : ((wt st : Nat) : Int) + (1 + (bb.length : Int)) = wt (putSt st Q.data.toList ⟨false, clock + 1, [] ++ bb⟩) := by
        rw [hQq, wt_new kh.out.rising kfind.out]; simp
      refine leaves_cons (f := 37) (args := #[.pointer (some ⟨w.heap.size, 0, none⟩), .pointer (some ⟨w1.heap.size, 0, none⟩), .pointer (some ⟨w.heap.size + 1 + 1, 0, none⟩), .pointer (some ⟨w.heap.size + 1, 0, none⟩), .pointer (some ⟨w1.heap.size + 1 + 1, 0, none⟩), .pointer (some ⟨w1.heap.size + 1, 0, none⟩)]) (by simp) (by simp [go_sem]) ?_
      refine (writed_calls .returning hI hC (BytesAt.nil _ _) hbb (fun k hk => ⟨(kT.out k hk).1, Nat.lt_of_lt_of_le (kT.out k hk).2 hB5.size⟩) (by rw [hQq]; exact kql.out) hl h0 h1 (by simp) hshort (by omega) (by omega) hwt).mono ?_
      rintro e u' w'' ⟨rfl, rfl, N', S', g1, g2, g3⟩
      refine ⟨_, results_tmp rfl _ _ _, ?_⟩
      rw [hQq] at g1
      exact OpPost.done hpost.out hB5 g1 g2 g3
end
end Go.Proofs.YtejofgdglpmlkaaGreatDoor
