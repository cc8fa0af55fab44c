/-
  Twin; the reference's file system when it is new. Conditions: a tree that is right.
  A tree that is not too big; a tree's box. Conditions: none.
-/
import Derived.Test.YtejofgdglpmlkaaGreatDoorM39
import Derived.Test.YtejofgdglpmlkaaGreatDoorM40
import Derived.Test.YtejofgdglpmlkaaGreatDoorM30
import Derived.Test.YtejofgdglpmlkaaGreatDoorM35
namespace Go.Proofs.YtejofgdglpmlkaaGreatDoor
open Go.RowKit

theorem RefIs.ref {w : World} {B : Nat} {v : Value} {l : St} {clock room : Int} (h : RefIs w B v l clock room) : ∃ fb, v = .pointer (some ⟨fb, 0, none⟩) ∧ RefAt w fb (fun k => B ≤ k ∧ k < w.heap.size) l clock room := by
  obtain ⟨fb, fv, L, rfl, hB, hl, hc, hL, hN⟩ := h
  refine ⟨fb, rfl, fv, L, hc, ⟨hB, hl⟩, hL, ?_, fun g hg => ?_, fun x hx => ?_, fun b hb => hb.2⟩
  · exact (hN.base (Nat.zero_le _)).1
  · have := hN.lt g hg
    exact ⟨⟨by omega, this.2⟩, by omega⟩
  · exact (hN.2 x hx).1.mono (fun j hj => ⟨⟨by omega, hj.2.1⟩, by omega, hj.2.2⟩)
section
variable {f mb : Nat} {N : Bs → Nat} {S : Nat → Prop} {st : St} {clock room : Int} {w : World}
theorem right_clock (h : rightP st clock room = 0) : clock ≤ 1099511627776 := by
  unfold rightP at h
  split at h
  · cases h
  split at h
  · cases h
  split at h
  · cases h
  rename_i g3
  unfold badArg at g3
  simp only [Bool.or_eq_true, decide_eq_true_eq, not_or, Int.not_lt] at g3
  omega
set_option maxRecDepth 100000 in
set_option maxHeartbeats 4000000 in
theorem twin_calls (h : FsIn w f mb N S st clock room) (hw : Wf st clock room) (h0 : rightP st clock room = 0) :
    Calls Tryz.prog 22 #[.pointer (some ⟨f, 0, none⟩)] w fun e w' => ∃ f2 S2, e = .returned (.pointer (some ⟨f2, 0, none⟩)) ∧ FsAt w' f2 S2 st clock room ∧ (∀ b, S2 b → w.heap.size ≤ b) ∧ Below w.heap.size w w' := by
  have kT := Lib.hid (tree_calls h (show wt st ≤ 1099511627775 by have h1 := hw.wt; have h2 := hw.rm; omega))
  have kp := Lib.hid (fun (x : Bs × PN) (hx : x ∈ st) => (show x.1.length ≤ 2147483647 by have := valid_len (hw.node x.1 x.2 (hw.mem hx)).1; omega))
  have kd := Lib.hid (wf_data hw)
  have k0 := Lib.hid h0
  clear h hw h0
  go_enter Tryz.func22, Tryz.ntmps22
  go_wp2_with (first | (go_at_call 14; refine kT.out.mono ?_; rintro e w1 ⟨nv, L, rfl, hL, hN, hb⟩; have kb := Lib.hid hb; obtain ⟨na, nc, hnf⟩ := hN.form; subst hnf; have htr := hN.tree; rw [hL] at htr; have kNew := Lib.hid (new_ok (clock := clock) (room := room) htr (fun k hk => hk.2) kp.out kd.out k0.out); clear hb hL hN htr) | (go_at_call 9; refine kNew.out.mono ?_; rintro e w2 ⟨f2, mb2, N2, S2, rfl, hF, hS, hb⟩; have kF2 := Lib.hid hF; have kS2 := Lib.hid hS; have kb2 := Lib.hid hb; clear hF hS hb))
  go_ret
  exact ⟨f2, S2, rfl, ⟨mb2, N2, kF2.out⟩, fun b hb => Nat.le_trans kb.out.size (kS2.out b hb), kb.out.trans (kb2.out.mono kb.out.size)⟩
end
end Go.Proofs.YtejofgdglpmlkaaGreatDoor
namespace Go.Proofs.YtejofgdglpmlkaaGreatDoor
open Go.RowKit

theorem totB_mem {l : St} {x : Bs × PN} (h : x ∈ l) : 1 + x.1.length + x.2.data.length ≤ totB l := by
  induction l with
  | nil => cases h
  | cons y r ih =>
    rw [totB]
    rcases List.mem_cons.1 h with rfl | h
    · omega
    · have := ih h; omega
theorem wt_small {l : St} (h : totB l ≤ 300000) (hl : l.length ≤ 1100) : wt l ≤ 1099511627775 := by
  have : ∀ l : St, bytesOf l ≤ totB l := by
    intro l
    induction l with
    | nil => simp [bytesOf, totB]
    | cons x r ih => unfold bytesOf at *; simp only [List.map_cons, List.sum_cons, totB]; omega
  have := this l
  unfold wt
  omega
/-- A tree's box, somewhere. -/
def TBox (b : Nat) (v : Value) (clock room : Int) (W : World) : Prop := W.heap[b]? = some (.cells #[v, .int .i64 clock, .int .i64 room] 24 (0, 0))
theorem TBox.cell {b : Nat} {v : Value} {clock room : Int} {W : World} (h : TBox b v clock room W) : W.cell? ⟨b, 0, none⟩ = some v ∧ W.cell? ⟨b, 1, none⟩ = some (.int .i64 clock) ∧ W.cell? ⟨b, 2, none⟩ = some (.int .i64 room) := by
  obtain ⟨a, b, c, -⟩ := cells3 h
  exact ⟨a, b, c⟩
theorem TBox.on {b : Nat} {v : Value} {clock room : Int} {W W' : World} (h : TBox b v clock room W) (hb : Below W.heap.size W W') : TBox b v clock room W' := (hb.block b (heap_lt h)).trans h
theorem TBox.kept {b : Nat} {v : Value} {clock room : Int} {W W' : World} {S : Nat → Prop} (h : TBox b v clock room W) (hk : Kept S W W') (hS : ¬ S b) : TBox b v clock room W' := (hk.block b (heap_lt h) hS).trans h
end Go.Proofs.YtejofgdglpmlkaaGreatDoor
