/-
  there, change, fits of a file system. Conditions: texts of at most 2^31 bytes; a clock of at most 2^62.
-/
import Derived.Test.YtnnepcodghfcmaaGreatDoorVLook
import Derived.IntWalk
namespace Go.Proofs.YtnnepcodghfcmaaGreatDoor
open Go.RowKit

def thereR : LookR → LookR
  | .none => .err 10
  | r => r
theorem LookV.below {N : Bs → Nat} {B : Nat} {w w' : World} {q : Bs} {r : LookR} {pv ev : Value} (h : LookV N B w q r pv ev) (hb : Below w.heap.size w w') : LookV N B w' q r pv ev := by
  cases r with
  | err e => exact h
  | none => exact h
  | node n => exact h
  | root =>
    obtain ⟨⟨g, h1, h2, h3⟩, h4⟩ := h
    exact ⟨⟨g, h1, (hb.block g (heap_lt h2)).trans h2, h3⟩, h4⟩
theorem set_heap {w : World} {b : Nat} {cs : Array Value} {t : TypeId} (h : w.heap[b]? = some (.cells cs t (0, 0))) (o : Nat) (v : Value) : (w.setCell ⟨b, o, none⟩ v).heap[b]? = some (.cells (cs.setIfInBounds o v) t (0, 0)) := by
  unfold World.setCell
  simp only [Array.getElem?_modify, if_true]
  rw [h]; rfl
theorem set_grown (w : World) (b o : Nat) (v : Value) : w.grownBy (w.setCell ⟨b, o, none⟩ v) (some b) :=
  ⟨rfl, rfl, rfl, by simp, fun k _ hk => Below.heap_setCell _ _ _ _ (fun e => hk (by simp [e]))⟩
/-- The struct's own cells turn: the map and the nodes stay. -/
theorem FsIn.struct {f mb : Nat} {N : Bs → Nat} {S : Nat → Prop} {st : St} {clock clock' room : Int} {w w' : World} (h : FsIn w f mb N S st clock room) (hs : w'.heap[f]? = some (.cells #[.map (some mb), .int .i64 clock', .int .i64 room, .int .i64 (wt st)] 52 (0, 0))) (hg : w.grownBy w' (some f)) : FsIn w' f mb N S st clock' room := by
  have hne : ∀ k, S k → k ≠ f → w'.heap[k]? = w.heap[k]? := fun k hk hne => hg.block k (h.lt k hk) (fun e => hne (by injection e))
  have hmf : mb ≠ f := by
    intro e; obtain ⟨D, ⟨es, cl, hb, _⟩, _⟩ := h.map
    rw [e, h.cells] at hb; cases hb
  refine ⟨hs, h.sf, h.sm, h.map.of_heap (hne mb h.sm hmf), h.rising, fun p nd hf => ?_, h.inj, fun b hb => Nat.lt_of_lt_of_le (h.lt b hb) hg.size⟩
  obtain ⟨h1, h2, v, h3, h4⟩ := h.node p nd hf
  have hnf : N p ≠ f := by intro e; rw [e, h.cells] at h3; simp at h3
  refine ⟨h1, h2, v, (hne _ h2 hnf).trans h3, ?_⟩
  obtain ⟨a, c, g1, g2, g3, g4, g5⟩ := h4
  refine ⟨a, c, g1, g2, g3, g4, fun h0 => ?_⟩
  obtain ⟨b, off, e1, e2, e3, e4⟩ := g5 h0
  have hbf : b ≠ f := by
    intro e
    obtain ⟨x, hx⟩ : ∃ x, nd.data[0]? = some x := ⟨_, List.getElem?_eq_getElem h0⟩
    have := e4 0 x hx
    rw [e] at this
    obtain ⟨c0, c1, c2, c3, _⟩ := cells4 h.cells
    match off, this with
    | 0, this => rw [c0] at this; simp at this
    | 1, this => rw [c1] at this; simp at this
    | 2, this => rw [c2] at this; simp at this
    | 3, this => rw [c3] at this; simp at this
    | off + 4, this => simp [World.cell?, h.cells] at this
  exact ⟨b, off, e1, e2, Nat.lt_of_lt_of_le e3 hg.size, fun k x hk => (World.cell?_of_block (a := ⟨b, off + k, none⟩) (hne b e2 hbf)).trans (e4 k x hk)⟩

section
variable {f mb : Nat} {N : Bs → Nat} {S : Nat → Prop} {st : St} {clock room : Int}
theorem look_err {p : ByteArray} {q : Bs} {e0 : Int} (w : World) (h : FsIn w f mb N S st clock room) (hp : p.size ≤ 2147483647) (hq : clean p.data.toList = q) (hr : lookQ st q = .err e0) :
    Calls Tryz.prog 13 #[.pointer (some ⟨f, 0, none⟩), .string p] w fun e w' => e = .returned (.tuple #[.string (mk q), .pointer none, .iface 75 (.agg #[.string (mk q), .iface 24 (.int .i64 e0)])]) ∧ Below w.heap.size w w' := by
  refine (look_calls p w h hp).mono ?_
  rintro e w' ⟨pv, ev, rfl, hv, hb⟩
  rw [hq, hr] at hv
  obtain ⟨rfl, rfl⟩ := hv
  exact ⟨by rw [hq]; rfl, hb⟩
theorem look_none {p : ByteArray} {q : Bs} (w : World) (h : FsIn w f mb N S st clock room) (hp : p.size ≤ 2147483647) (hq : clean p.data.toList = q) (hr : lookQ st q = .none) :
    Calls Tryz.prog 13 #[.pointer (some ⟨f, 0, none⟩), .string p] w fun e w' => e = .returned (.tuple #[.string (mk q), .pointer none, .nilIface]) ∧ Below w.heap.size w w' := by
  refine (look_calls p w h hp).mono ?_
  rintro e w' ⟨pv, ev, rfl, hv, hb⟩
  rw [hq, hr] at hv
  obtain ⟨rfl, rfl⟩ := hv
  exact ⟨by rw [hq], hb⟩
theorem look_node {p : ByteArray} {q : Bs} {n : PN} (w : World) (h : FsIn w f mb N S st clock room) (hp : p.size ≤ 2147483647) (hq : clean p.data.toList = q) (hr : lookQ st q = .node n) :
    Calls Tryz.prog 13 #[.pointer (some ⟨f, 0, none⟩), .string p] w fun e w' => e = .returned (.tuple #[.string (mk q), .pointer (some ⟨N q, 0, none⟩), .nilIface]) ∧ Below w.heap.size w w' := by
  refine (look_calls p w h hp).mono ?_
  rintro e w' ⟨pv, ev, rfl, hv, hb⟩
  rw [hq, hr] at hv
  obtain ⟨rfl, rfl⟩ := hv
  exact ⟨by rw [hq], hb⟩
theorem look_root {p : ByteArray} {q : Bs} (w : World) (h : FsIn w f mb N S st clock room) (hp : p.size ≤ 2147483647) (hq : clean p.data.toList = q) (hr : lookQ st q = .root) :
    Calls Tryz.prog 13 #[.pointer (some ⟨f, 0, none⟩), .string p] w fun e w' => ∃ g, e = .returned (.tuple #[.string (mk q), .pointer (some ⟨g, 0, none⟩), .nilIface]) ∧ (w.heap.size ≤ g ∧ w'.heap[g]? = some (.cells #[.bool true, .int .i64 0, .slice none 0 0] 57 (0, 0))) ∧ Below w.heap.size w w' := by
  refine (look_calls p w h hp).mono ?_
  rintro e w' ⟨pv, ev, rfl, hv, hb⟩
  rw [hq, hr] at hv
  obtain ⟨⟨g, h1, h2, rfl⟩, rfl⟩ := hv
  exact ⟨g, by rw [hq], ⟨h1, h2⟩, hb⟩
set_option maxRecDepth 100000 in
set_option maxHeartbeats 2000000 in
theorem there_calls (p : ByteArray) (w : World) (h : FsIn w f mb N S st clock room) (hp : p.size ≤ 2147483647) :
    Calls Tryz.prog 66 #[.pointer (some ⟨f, 0, none⟩), .string p] w fun e w' => ∃ pv ev, e = .returned (.tuple #[.string (mk (clean p.data.toList)), pv, ev]) ∧ LookV N w.heap.size w' (clean p.data.toList) (thereR (lookQ st (clean p.data.toList))) pv ev ∧ Below w.heap.size w w' := by
  cases hr : lookQ st (clean p.data.toList) with
  | err e0 =>
    have hL := Lib.hid (look_err w h hp rfl hr)
    clear hr h
    go_enter Tryz.func66, Tryz.ntmps66
    go_wp2_with (go_at_call 13; refine hL.out.mono ?_; rintro e w1 ⟨rfl, hb⟩; have kb := Lib.hid hb; clear hb)
    go_ret3
    exact ⟨_, _, rfl, ⟨rfl, rfl⟩, kb.out⟩
  | none =>
    have hL := Lib.hid (look_none w h hp rfl hr)
    clear hr h
    go_enter Tryz.func66, Tryz.ntmps66
    go_wp2_with (go_at_call 13; refine hL.out.mono ?_; rintro e w1 ⟨rfl, hb⟩; have kb := Lib.hid hb; clear hb)
    go_ret3
    exact ⟨.pointer none, errV (clean p.data.toList) 10, rfl, ⟨rfl, rfl⟩, kb.out⟩
  | root =>
    have hL := Lib.hid (look_root w h hp rfl hr)
    clear hr h
    go_enter Tryz.func66, Tryz.ntmps66
    go_wp2_with (go_at_call 13; refine hL.out.mono ?_; rintro e w1 ⟨g, rfl, hg, hb⟩; have kb := Lib.hid hb; have kg := Lib.hid hg; clear hb hg)
    go_ret3
    exact ⟨_, _, rfl, ⟨⟨g, kg.out.1, kg.out.2, rfl⟩, rfl⟩, kb.out⟩
  | node n =>
    have hL := Lib.hid (look_node w h hp rfl hr)
    clear hr h
    go_enter Tryz.func66, Tryz.ntmps66
    go_wp2_with (go_at_call 13; refine hL.out.mono ?_; rintro e w1 ⟨rfl, hb⟩; have kb := Lib.hid hb; clear hb)
    go_ret3
    exact ⟨_, _, rfl, ⟨rfl, rfl⟩, kb.out⟩

theorem change_calls (w : World) (h : FsIn w f mb N S st clock room) (h0 : 0 ≤ clock) (h1 : clock ≤ 4611686018427387904) :
    Calls Tryz.prog 16 #[.pointer (some ⟨f, 0, none⟩)] w fun e w' => e = .returned (.int .i64 (clock + 1)) ∧ w.grownBy w' (some f) ∧ w'.heap.size = w.heap.size ∧ FsIn w' f mb N S st (clock + 1) room := by
  obtain ⟨c0, c1, c2, c3, cf⟩ := cells4 h.cells
  have hl := h.lt f h.sf
  have hf1 := cf 1
  have kh := Lib.hid h
  clear h c0 c2 c3 cf
  go_enter Tryz.func16, Tryz.ntmps16
  go_wp2
  go_ret
  have hs := set_heap kh.out.cells 1 (.int .i64 (clock + 1))
  have hg := set_grown w f 1 (.int .i64 (clock + 1))
  exact ⟨rfl, hg, by simp, kh.out.struct hs hg⟩

def fitsB (st : St) (room nodes bytes : Int) : Bool := decide ((st.length : Int) + nodes ≤ 1000) && decide ((wt st : Int) + nodes + bytes ≤ room)
set_option maxHeartbeats 1000000 in
theorem fits_calls (nodes bytes : Int) (w : World) (h : FsIn w f mb N S st clock room) (hn : 0 ≤ nodes ∧ nodes ≤ 1) (hb : -1099511627776 ≤ bytes ∧ bytes ≤ 1099511627776) (hl : wt st ≤ 1099511627776) :
    Calls Tryz.prog 15 #[.pointer (some ⟨f, 0, none⟩), .int .i64 nodes, .int .i64 bytes] w fun e w' => e = .returned (.bool (fitsB st room nodes bytes)) ∧ ∃ n, w' = w.drewN n := by
  obtain ⟨c0, c1, c2, c3, cf⟩ := cells4 h.cells
  have hfl := h.lt f h.sf
  have hlen := fun n ty => (h.map.of_heap (w' := w.drewN n) rfl).len ty
  have hll : st.length ≤ wt st := by unfold wt; omega
  have hw1 : IntKind.i64.wrap ((st.length : Int) + nodes) = (st.length : Int) + nodes := IntWalk.i64_in _ (by omega)
  have hw2 : IntKind.i64.wrap ((wt st : Int) + nodes) = (wt st : Int) + nodes := IntWalk.i64_in _ (by omega)
  have hw3 : IntKind.i64.wrap ((wt st : Int) + nodes + bytes) = (wt st : Int) + nodes + bytes := IntWalk.i64_in _ (by omega)
  have kh := Lib.hid h
  clear h c1 cf
  by_cases h1 : (st.length : Int) + nodes ≤ 1000
  · have hd : decide ((st.length : Int) + nodes ≤ 1000) = true := by simpa using h1
    have kd := Lib.hid hd
    go_enter Tryz.func15, Tryz.ntmps15
    go_wp2_with fail
    go_quiet (fail)
    go_wp2_with fail
    go_ret
    refine ⟨?_, _, rfl⟩
    unfold fitsB; rw [kd.out]; rfl
  · have hd : decide ((st.length : Int) + nodes ≤ 1000) = false := by simpa using h1
    have kd := Lib.hid hd
    clear h1
    go_enter Tryz.func15, Tryz.ntmps15
    go_wp2_with fail
    go_quiet (fail)
    go_wp2_with fail
    go_ret
    refine ⟨?_, _, rfl⟩
    unfold fitsB; rw [kd.out]; rfl
end
end Go.Proofs.YtnnepcodghfcmaaGreatDoor
