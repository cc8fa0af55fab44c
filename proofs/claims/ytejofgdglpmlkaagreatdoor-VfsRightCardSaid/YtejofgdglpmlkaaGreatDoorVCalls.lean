/-
  Every call that changes a file system, at every path: what it answers, and leaves. Conditions: a tree that is right; the library's variable is laid.
-/
import Derived.Test.YtejofgdglpmlkaaGreatDoorVRename2
import Derived.Test.YtejofgdglpmlkaaGreatDoorVWrite4
namespace Go.Proofs.YtejofgdglpmlkaaGreatDoor
open Go.RowKit

def writeRes (st : St) (clock room : Int) (q b : Bs) (add : Bool) : Res := match lookQ st q with
  | .root => (12, st, clock)
  | .err e => (e, st, clock)
  | .none => writeTail st clock room q [] b 1 b.length
  | .node n => if n.dir = true then (12, st, clock) else if add = true then writeTail st clock room q n.data b 0 (b.length : Int) else writeTail st clock room q [] b 0 ((b.length : Int) - n.data.length)
def mkdirRes (st : St) (clock room : Int) (q : Bs) : Res := match lookQ st q with
  | .root => (13, st, clock)
  | .err e => (e, st, clock)
  | .none => newP st clock room q true
  | .node _ => (13, st, clock)
def removeRes (st : St) (clock : Int) (q : Bs) : Res := match lookQ st q with
  | .root => (12, st, clock)
  | .err e => (e, st, clock)
  | .none => (10, st, clock)
  | .node n => removeP st clock q n
def touchRes (st : St) (clock room : Int) (q : Bs) : Res := match lookQ st q with
  | .root => (0, st, clock)
  | .err e => (e, st, clock)
  | .none => newP st clock room q false
  | .node n => touchP st clock q n
def renameRes (st : St) (clock : Int) (p q : Bs) : Res := match lookQ st p with
  | .root => (12, st, clock)
  | .err e => (e, st, clock)
  | .none => (10, st, clock)
  | .node n => if n.dir = true then (12, st, clock) else match lookQ st q with
    | .root => (12, st, clock)
    | .err e => (e, st, clock)
    | .none => renameP st clock p q n
    | .node m => if m.dir = true then (12, st, clock) else if p = q then (0, st, clock) else renameP st clock p q n
section
variable {st : St} {clock room : Int}
theorem writeRes_step (q b : Bs) (add : Bool) : Step st clock room (writeRes st clock room q b add) := by
  unfold writeRes
  cases h : lookQ st q with
  | root => exact Step.stay rfl
  | err e => exact Step.stay rfl
  | none => exact write_step h
  | node n =>
    show Step st clock room (if n.dir = true then (12, st, clock) else if add = true then _ else _)
    split
    · exact Step.stay rfl
    · rename_i hd
      have hd' : n.dir = false := by simpa using hd
      split
      · exact add_step h hd'
      · exact over_step h hd'
theorem mkdirRes_step (q : Bs) : Step st clock room (mkdirRes st clock room q) := by
  unfold mkdirRes
  cases h : lookQ st q with
  | root => exact Step.stay rfl
  | err e => exact Step.stay rfl
  | none => exact new_step h
  | node n => exact Step.stay rfl
theorem removeRes_step (q : Bs) : Step st clock room (removeRes st clock q) := by
  unfold removeRes
  cases h : lookQ st q with
  | root => exact Step.stay rfl
  | err e => exact Step.stay rfl
  | none => exact Step.stay rfl
  | node n => exact remove_step h
theorem touchRes_step (q : Bs) : Step st clock room (touchRes st clock room q) := by
  unfold touchRes
  cases h : lookQ st q with
  | root => exact Step.stay rfl
  | err e => exact Step.stay rfl
  | none => exact new_step h
  | node n => exact touch_step h
theorem renameRes_step (p q : Bs) : Step st clock room (renameRes st clock p q) := by
  unfold renameRes
  cases h : lookQ st p with
  | root => exact Step.stay rfl
  | err e => exact Step.stay rfl
  | none => exact Step.stay rfl
  | node n =>
    show Step st clock room (if n.dir = true then (12, st, clock) else _)
    split
    · exact Step.stay rfl
    · rename_i hd
      have hd' : n.dir = false := by simpa using hd
      cases h2 : lookQ st q with
      | root => exact Step.stay rfl
      | err e => exact Step.stay rfl
      | none => exact rename_step h hd' (Or.inl h2) (fun e => by rw [e, h2] at h; cases h)
      | node m =>
        show Step st clock room (if m.dir = true then (12, st, clock) else if p = q then (0, st, clock) else renameP st clock p q n)
        split
        · exact Step.stay rfl
        · rename_i hm
          split
          · exact Step.stay rfl
          · rename_i hne
            exact rename_step h hd' (Or.inr ⟨m, h2, by simpa using hm⟩) hne
end
section
variable {f mb : Nat} {N : Bs → Nat} {S Tb : Nat → Prop} {st : St} {clock room : Int} {p p2 : ByteArray} {q q2 bb : Bs} {bv : Value} {w : World} {add : Bool}
theorem wf_small (h : Wf st clock room) : wt st ≤ 1099511627776 ∧ 0 ≤ clock ∧ clock ≤ 4611686018427387904 := by
  have := h.wt; have := h.rm; have := h.clk
  omega
theorem write_all (h : FsIn w f mb N S st clock room) (hw : Wf st clock room) (hp : p.size ≤ 2147483647) (hq : clean p.data.toList = q) (hb : BytesAt w bv bb Tb) (hT : ∀ k, Tb k → ¬ S k ∧ k < w.heap.size) (hbl : bb.length ≤ 70368744177664) (hlw : Laid w) :
    Calls Tryz.prog 17 #[.pointer (some ⟨f, 0, none⟩), .string p, bv, .bool add] w fun e w' => OpPost w f S room (writeRes st clock room q bb add) e w' := by
  obtain ⟨hl, h0, h1⟩ := wf_small hw
  unfold writeRes
  cases hr : lookQ st q with
  | root => exact write_root h hp hq hr hb hlw
  | err e => exact write_err h hp hq hr hb hlw
  | none => exact write_none h hp hq hr hl h0 h1 hb hT hbl
  | node n =>
    show Calls Tryz.prog 17 #[.pointer (some ⟨f, 0, none⟩), .string p, bv, .bool add] w fun e w' => OpPost w f S room (if n.dir = true then (12, st, clock) else if add = true then writeTail st clock room q n.data bb 0 (bb.length : Int) else writeTail st clock room q [] bb 0 ((bb.length : Int) - n.data.length)) e w'
    cases hd : n.dir with
    | true => rw [if_pos rfl]; exact write_dir h hp hq hr hd hb hlw
    | false =>
      rw [if_neg (by simp)]
      have hdl := (hw.node q n (lookQ_find.2 n hr)).2.2.2.2.1 hd
      cases add with
      | true => rw [if_pos rfl]; exact write_add h hp hq hr hd hdl hl h0 h1 hb hT hbl
      | false => rw [if_neg (by simp)]; exact write_over h hp hq hr hd hdl hl h0 h1 hb hT hbl
theorem mkdir_all (h : FsIn w f mb N S st clock room) (hw : Wf st clock room) (hp : p.size ≤ 2147483647) (hq : clean p.data.toList = q) (hlw : Laid w) :
    Calls Tryz.prog 18 #[.pointer (some ⟨f, 0, none⟩), .string p] w fun e w' => OpPost w f S room (mkdirRes st clock room q) e w' := by
  obtain ⟨hl, h0, h1⟩ := wf_small hw
  unfold mkdirRes
  cases hr : lookQ st q with
  | root => exact mkdir_root h hp hq hr hlw
  | err e => exact mkdir_err h hp hq hr hlw
  | none => exact mkdir_at w h hp hq hr hl h0 h1
  | node n => exact mkdir_node h hp hq hr hlw
theorem touch_all (h : FsIn w f mb N S st clock room) (hw : Wf st clock room) (hp : p.size ≤ 2147483647) (hq : clean p.data.toList = q) (hlw : Laid w) :
    Calls Tryz.prog 21 #[.pointer (some ⟨f, 0, none⟩), .string p] w fun e w' => OpPost w f S room (touchRes st clock room q) e w' := by
  obtain ⟨hl, h0, h1⟩ := wf_small hw
  unfold touchRes
  cases hr : lookQ st q with
  | root => exact touch_root h hp hq hr hlw
  | err e => exact touch_err h hp hq hr hlw
  | none => exact touch_none w h hp hq hr hl h0 h1
  | node n => exact touch_node h hp hq hr h0 h1
theorem remove_all (h : FsIn w f mb N S st clock room) (hw : Wf st clock room) (hp : p.size ≤ 2147483647) (hq : clean p.data.toList = q) (hlw : Laid w) :
    Calls Tryz.prog 19 #[.pointer (some ⟨f, 0, none⟩), .string p] w fun e w' => OpPost w f S room (removeRes st clock q) e w' := by
  obtain ⟨hl, h0, h1⟩ := wf_small hw
  unfold removeRes
  cases hr : lookQ st q with
  | root => exact remove_root h hp hq hr hlw
  | err e => exact remove_err h hp hq (Or.inl hr) hlw
  | none => exact remove_err h hp hq (Or.inr ⟨hr, rfl⟩) hlw
  | node n =>
    cases hd : n.dir with
    | true => exact remove_dir h hp hq hr hd hl h0 h1
    | false => exact remove_file h hp hq hr hd hl h0 h1
theorem rename_all (h : FsIn w f mb N S st clock room) (hw : Wf st clock room) (hp : p.size ≤ 2147483647) (hq : clean p.data.toList = q) (hp2 : p2.size ≤ 2147483647) (hq2 : clean p2.data.toList = q2) (hlw : Laid w) :
    Calls Tryz.prog 20 #[.pointer (some ⟨f, 0, none⟩), .string p, .string p2] w fun e w' => OpPost w f S room (renameRes st clock q q2) e w' := by
  obtain ⟨hl, h0, h1⟩ := wf_small hw
  unfold renameRes
  cases hr : lookQ st q with
  | root => exact rename_first h hp hq hr
  | err e => exact rename_err h hp hq (Or.inl hr) hlw
  | none => exact rename_err h hp hq (Or.inr ⟨hr, rfl⟩) hlw
  | node n =>
    cases hd : n.dir with
    | true =>
      show Calls Tryz.prog 20 #[.pointer (some ⟨f, 0, none⟩), .string p, .string p2] w fun e w' => OpPost w f S room (if n.dir = true then (12, st, clock) else _) e w'
      rw [if_pos hd]; exact rename_dir h hp hq hr hd
    | false =>
      show Calls Tryz.prog 20 #[.pointer (some ⟨f, 0, none⟩), .string p, .string p2] w fun e w' => OpPost w f S room (if n.dir = true then (12, st, clock) else _) e w'
      rw [if_neg (by rw [hd]; simp)]
      cases hr2 : lookQ st q2 with
      | root => exact rename_second h hp hq hr hd hp2 hq2 hr2
      | err e => exact rename_err2 h hp hq hr hd hp2 hq2 hr2 hlw
      | none => exact rename_new h hp hq hr hd hp2 hq2 hr2 hl h0 h1
      | node m =>
        show Calls Tryz.prog 20 #[.pointer (some ⟨f, 0, none⟩), .string p, .string p2] w fun e w' => OpPost w f S room (if m.dir = true then (12, st, clock) else if q = q2 then (0, st, clock) else renameP st clock q q2 n) e w'
        cases hmd : m.dir with
        | true => rw [if_pos rfl]; exact rename_dir2 h hp hq hr hd hp2 hq2 hr2 hmd
        | false =>
          rw [if_neg (by simp)]
          by_cases hne : q = q2
          · rw [if_pos hne]
            exact rename_same h hp hq hr hd hp2 (hq2.trans hne.symm)
          · rw [if_neg hne]
            exact rename_over h hp hq hr hd hp2 hq2 hr2 hmd hne hl h0 h1
end
end Go.Proofs.YtejofgdglpmlkaaGreatDoor
