/-
  A file system that a call has made: New, Write, Mkdir of one's own. Conditions: texts of at most 2^31 bytes; a weight of at most 2^40; a clock of at most 2^62.
-/
import Derived.Test.YtnnepcodghfcmaaGreatDoorVNew
import Derived.Test.YtnnepcodghfcmaaGreatDoorVWrite4
import Derived.Lib.SmallJoins
namespace Go.Proofs.YtnnepcodghfcmaaGreatDoor
open Go.RowKit

theorem own_below {S : Nat → Prop} {w w1 w2 : World} (h : Below w.heap.size w w1) (hS : ∀ k, S k → w.heap.size ≤ k) (hK : Kept S w1 w2) : Below w.heap.size w w2 :=
  h.trans ⟨hK.os, hK.tape, hK.output, hK.size, fun k hk => hK.block k (Nat.lt_of_lt_of_le hk h.size) (fun hs => by have := hS k hs; omega)⟩
/-- A file system that a call has made: all its blocks are new. -/
def OwnFs (w : World) (f : Nat) (st : St) (clock room : Int) (w' : World) : Prop :=
  Below w.heap.size w w' ∧ ∃ mb N S, FsIn w' f mb N S st clock room ∧ ∀ k, S k → w.heap.size ≤ k
theorem OwnFs.post {w w1 w2 : World} {f : Nat} {S : Nat → Prop} {st' : St} {clock' room c : Int} {r : Int × St × Int} {e : Ending} (hr : r = (c, st', clock')) (hB : Below w.heap.size w w1) (hS : ∀ k, S k → w.heap.size ≤ k) (h : OpPost w1 f S room r e w2) : e = .returned (.int .i64 c) ∧ OwnFs w f st' clock' room w2 := by
  subst hr
  obtain ⟨he, S', ⟨mb', N', h1⟩, h2, h3⟩ := h
  exact ⟨he, own_below hB hS h3, mb', N', S', h1, fun k hk => (h2 k hk).elim (hS k) (fun h => Nat.le_trans hB.size h)⟩
theorem OwnFs.size {w w1 : World} {f : Nat} {st : St} {clock room : Int} (h : OwnFs w f st clock room w1) : w.heap.size ≤ w1.heap.size := h.1.size
theorem OwnFs.below {w w1 w2 : World} {f : Nat} {st : St} {clock room : Int} (h : OwnFs w f st clock room w1) (hb : Below w1.heap.size w1 w2) : OwnFs w f st clock room w2 := by
  obtain ⟨hB, mb, N, S, h1, h2⟩ := h
  exact ⟨hB.trans (hb.mono hB.size), mb, N, S, h1.below hb, h2⟩
/-- A write at a path that is not there, of a file system of one's own. -/
theorem own_write {w w0 w1 : World} {f : Nat} {st st' : St} {clock clock' room c : Int} {p : ByteArray} {q bb : Bs} {bv : Value} {Tb : Nat → Prop} {add : Bool} (hO : OwnFs w f st clock room w0) (h01 : Below w0.heap.size w0 w1) (hp : p.size ≤ 2147483647) (hq : clean p.data.toList = q) (hr : lookQ st q = .none) (hl : wt st ≤ 1099511627776) (h0 : 0 ≤ clock) (h1 : clock ≤ 4611686018427387904)
    (hb : BytesAt w1 bv bb Tb) (hT : ∀ k, Tb k → w0.heap.size ≤ k ∧ k < w1.heap.size) (hbl : bb.length ≤ 70368744177664) (hres : writeTail st clock room q [] bb 1 bb.length = (c, st', clock')) :
    Calls Tryz.prog 7 #[.pointer (some ⟨f, 0, none⟩), .string p, bv, .bool add] w1 fun e w' => e = .returned (.int .i64 c) ∧ OwnFs w f st' clock' room w' := by
  obtain ⟨hB, mb, N, S, hF, hS⟩ := hO
  exact (write_none (add := add) (hF.below h01) hp hq hr hl h0 h1 hb (fun k hk => ⟨fun hs => by have := hF.lt k hs; have := hT k hk; omega, (hT k hk).2⟩) hbl).mono fun _ _ h => OwnFs.post hres (hB.trans (h01.mono hB.size)) hS h
theorem own_new {w w1 : World} {nv : Value} {l : St} {T : Nat → Prop} {clock room : Int} (hB : Below w.heap.size w w1) (ht : TreeAt w1 nv l T) (hT : ∀ k, T k → k < w1.heap.size) (hp : ∀ x ∈ l, x.1.length ≤ 2147483647) (hd : ∀ x ∈ l, x.2.data.length ≤ 1099511627776) (h0 : rightP l clock room = 0) :
    Calls Tryz.prog 5 #[.agg #[nv, .int .i64 clock, .int .i64 room]] w1 fun e w' => ∃ f, e = .returned (.tuple #[.pointer (some ⟨f, 0, none⟩), .int .i64 0]) ∧ OwnFs w f l clock room w' :=
  (new_ok ht hT hp hd h0).mono fun _ _ ⟨f, mb, N, S, h1, h2, h3, h4⟩ => ⟨f, h1, hB.trans (h4.mono hB.size), mb, N, S, h2, fun k hk => Nat.le_trans hB.size (h3 k hk)⟩
section
variable {f mb : Nat} {N : Bs → Nat} {S : Nat → Prop} {st st' : St} {clock clock' room c : Int}
def mkdirP (st : St) (clock room : Int) (q : Bs) : Int × St × Int := if fitsB st room 1 0 = false then (15, st, clock) else (0, putSt st q ⟨true, clock + 1, []⟩, clock + 1)
set_option maxRecDepth 100000 in
set_option maxHeartbeats 4000000 in
theorem mkdir_full {p : ByteArray} {q : Bs} (w : World) (h : FsIn w f mb N S st clock room) (hp : p.size ≤ 2147483647) (hq : clean p.data.toList = q) (hr : lookQ st q = .none) (hl : wt st ≤ 1099511627776) (hfit : fitsB st room 1 0 = false) :
    Calls Tryz.prog 6 #[.pointer (some ⟨f, 0, none⟩), .string p] w fun e w' => e = .returned (.int .i64 15) ∧ Below w.heap.size w w' := by
  have hL := Lib.hid (look_none w h hp hq hr)
  obtain ⟨hv, hq0, -⟩ := lookQ_valid (Or.inl hr)
  have hqe := mk_isEmpty hq0
  have kh := Lib.hid h
  generalize mk q = Q at *
  clear h hq hr hv hq0
  go_enter Tryz.func6, Tryz.ntmps6
  go_wp2_with (go_at_call 13; refine hL.out.mono ?_; rintro e w1 ⟨rfl, hb⟩; have kb := Lib.hid hb; clear hb)
  have hF := Lib.hid (fits_no 1 0 w1 (kh.out.below kb.out) (by omega) (by omega) hl hfit)
  clear hfit
  go_wp2_with (go_at_call 15; refine hF.out.mono ?_; rintro e w2 ⟨rfl, n2, rfl⟩)
  go_ret
  exact ⟨rfl, below_drewN' kb.out n2⟩
theorem mkdir_none {p : ByteArray} {q : Bs} (w : World) (h : FsIn w f mb N S st clock room) (hp : p.size ≤ 2147483647) (hq : clean p.data.toList = q) (hr : lookQ st q = .none) (hl : wt st ≤ 1099511627776) (h0 : 0 ≤ clock) (h1 : clock ≤ 4611686018427387904) :
    Calls Tryz.prog 6 #[.pointer (some ⟨f, 0, none⟩), .string p] w fun e w' => OpPost w f S room (mkdirP st clock room q) e w' := by
  cases hfit : fitsB st room 1 0 with
  | true =>
    refine (mkdir_new w h hp hq hr hl h0 h1 hfit).mono ?_
    rintro e w' ⟨rfl, N', S', g1, g2, g3⟩
    exact OpPost.done (by unfold mkdirP; rw [if_neg (by simp [hfit])]) (Below.refl _ _) g1 g2 g3
  | false =>
    refine (mkdir_full w h hp hq hr hl hfit).mono ?_
    rintro e w' ⟨rfl, hb⟩
    exact OpPost.same h (by unfold mkdirP; rw [if_pos hfit]) rfl hb
theorem own_mkdir {w w1 : World} {p : ByteArray} {q : Bs} (hO : OwnFs w f st clock room w1) (hp : p.size ≤ 2147483647) (hq : clean p.data.toList = q) (hr : lookQ st q = .none) (hl : wt st ≤ 1099511627776) (h0 : 0 ≤ clock) (h1 : clock ≤ 4611686018427387904)
    (hres : mkdirP st clock room q = (c, st', clock')) :
    Calls Tryz.prog 6 #[.pointer (some ⟨f, 0, none⟩), .string p] w1 fun e w' => e = .returned (.int .i64 c) ∧ OwnFs w f st' clock' room w' := by
  obtain ⟨hB, mb, N, S, hF, hS⟩ := hO
  exact (mkdir_none w1 hF hp hq hr hl h0 h1).mono fun _ _ h => OwnFs.post hres hB hS h
end
end Go.Proofs.YtnnepcodghfcmaaGreatDoor
