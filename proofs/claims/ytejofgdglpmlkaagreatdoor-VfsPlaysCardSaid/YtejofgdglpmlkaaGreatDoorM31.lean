/-
  Small's tree, num, alive. Conditions: none.
-/
import Derived.Test.YtejofgdglpmlkaaGreatDoorM30
import Derived.Test.YtejofgdglpmlkaaGreatDoorM22
import Derived.Test.YtejofgdglpmlkaaGreatDoorM11
import Derived.Test.YtejofgdglpmlkaaGreatDoorM27
import Derived.Lib.SlBytesConst
import Derived.Lib.SmallJoins
namespace Go.Proofs.YtejofgdglpmlkaaGreatDoor
open Go.RowKit

theorem num_calls (n : Int) (w : World) : Calls Tryz.prog 12 #[.int .i64 n] w fun e w' => e = .returned (.int .i64 n) ∧ w = w' := by
  go_enter Tryz.func12, Tryz.ntmps12
  go_wp2
  go_ret
  exact ⟨rfl, rfl⟩
def smallL : St := [([100], ⟨true, 1, []⟩), ([100, 47, 120], ⟨false, 2, [104, 105]⟩)]
theorem small_right : rightP smallL 5 10 = 0 := by decide
theorem cell_old2 {w : World} {o : Obj} {a : Addr} {v : Value} (h : w.cell? a = some v) : (w.alloc o).cell? a = some v := (World.cell?_alloc_lt _ _ _ (World.block_lt_of_cell? w a h)).trans h
theorem tree_two {w W : World} {t t' : TypeId} {fr fr' : Nat × Nat} (B : Nat) (hB : B = w.heap.size + 1 + 1) (h2 : W.heap[B]? = some (.cells #[.string ⟨#[100]⟩, .bool true, .int .i64 1, .slice none 0 0, .string ⟨#[100, 47, 120]⟩, .bool false, .int .i64 2, .slice (some ⟨w.heap.size + 1, 0, none⟩) 2 2] t fr))
    (h1 : W.heap[w.heap.size + 1]? = some (.cells #[.int .u8 104, .int .u8 105] t' fr')) (hl : W.heap.size = w.heap.size + 3) : TreeAt W (.slice (some ⟨B, 0, none⟩) 2 2) smallL (fun k => w.heap.size ≤ k ∧ k < W.heap.size) := by
  subst hB
  refine ⟨_, 2, rfl, Nat.le_refl _, by unfold maxLen; omega, (fun e => by cases e), fun _ => ⟨w.heap.size + 1 + 1, 0, rfl, ⟨by omega, by omega⟩, by omega, fun k x hk => ?_⟩⟩
  have hc := fun i => Go.Joins.cell_of_block h2 i
  match k, hk with
  | 0, hk =>
    injection hk with hk
    subst hk
    exact ⟨.slice none 0 0, hc 0, hc 1, hc 2, hc 3, BytesAt.nil _ _⟩
  | 1, hk =>
    injection hk with hk
    subst hk
    refine ⟨_, hc 4, hc 5, hc 6, hc 7, _, 2, rfl, Nat.le_refl _, by unfold maxLen; omega, (fun e => by cases e), fun _ => ⟨w.heap.size + 1, 0, rfl, ⟨by omega, by omega⟩, by omega, fun j y hj => ?_⟩⟩
    have hb := fun i => Go.Joins.cell_of_block h1 i
    match j, hj with
    | 0, hj => injection hj with hj; subst hj; exact hb 0
    | 1, hj => injection hj with hj; subst hj; exact hb 1
  | k + 2, hk => simp [smallL] at hk
set_option maxRecDepth 100000 in
theorem small_calls (w : World) : Calls Tryz.prog 26 #[] w fun e w' => ∃ nv, e = .returned (.agg #[nv, .int .i64 5, .int .i64 10]) ∧ TreeAt w' nv smallL (fun k => w.heap.size ≤ k ∧ k < w'.heap.size) ∧ Below w.heap.size w w' := by
  have hcv := fun (C : Array Value) (n c : Nat) => Go.Joins.run_convert_bytes_const_at (P := Tryz.prog) (w.alloc (Obj.cells #[Value.slice none 0 0, Value.int IntKind.i64 0, Value.int IntKind.i64 0] 24)) 41 5 C n c (w.heap.size + 1) (by simp) Tryz.underlying41 Tryz.underlying5
  go_enter Tryz.func26, Tryz.ntmps26
  go_wp2
  refine bodyPost_ret (v := .agg #[.slice (some ⟨w.heap.size + 1 + 1, 0, none⟩) 2 2, .int .i64 5, .int .i64 10]) (by simp [results, Tryz.results26, go_sem]) rfl ⟨_, rfl, ?_, below_al (below_al (below_al (Below.refl _ _)))⟩
  generalize hA : (Obj.cells #[.slice (some ⟨w.heap.size + 1 + 1, 0, none⟩) 2 2, .int .i64 5, .int .i64 10] 24) = A
  generalize hC : (Obj.cells #[.string ⟨#[100]⟩, .bool true, .int .i64 1, .slice none 0 0, .string ⟨#[100, 47, 120]⟩, .bool false, .int .i64 2, .slice (some ⟨w.heap.size + 1, 0, none⟩) 2 2] 54) = C
  have h2 : (((w.alloc A).alloc (.cells #[.int .u8 104, .int .u8 105] 5 (2, 3))).alloc C).heap[w.heap.size + 1 + 1]? = some C := by
    have := heap_alloc_new ((w.alloc A).alloc (.cells #[.int .u8 104, .int .u8 105] 5 (2, 3))) C
    simpa using this
  have h1 : (((w.alloc A).alloc (.cells #[.int .u8 104, .int .u8 105] 5 (2, 3))).alloc C).heap[w.heap.size + 1]? = some (.cells #[.int .u8 104, .int .u8 105] 5 (2, 3)) := by
    rw [heap_alloc_old _ _ (by simp)]
    have := heap_alloc_new (w.alloc A) (.cells #[.int .u8 104, .int .u8 105] 5 (2, 3))
    simpa using this
  subst hC
  have hl : (((w.alloc A).alloc (.cells #[.int .u8 104, .int .u8 105] 5 (2, 3))).alloc (Obj.cells #[.string ⟨#[100]⟩, .bool true, .int .i64 1, .slice none 0 0, .string ⟨#[100, 47, 120]⟩, .bool false, .int .i64 2, .slice (some ⟨w.heap.size + 1, 0, none⟩) 2 2] 54)).heap.size = w.heap.size + 3 := by simp
  exact tree_two _ rfl h2 h1 hl

def abcde : Bs := [97, 98, 99, 100, 101]
def dy : Bs := [100, 47, 121]
def smallP : St := putSt smallL dy ⟨false, 6, abcde⟩
set_option maxRecDepth 100000 in
theorem alive_facts : lookQ smallL dy = .none ∧ writeTail smallL 5 10 dy [] abcde 1 5 = (0, smallP, 6) ∧ lookQ smallP [122] = .none ∧ writeTail smallP 6 10 [122] [] [] 1 0 = (15, smallP, 6) ∧ lookQ smallP [100] = .node ⟨true, 1, []⟩ ∧ removeP smallP 6 [100] ⟨true, 1, []⟩ = (14, smallP, 6) ∧ lookQ smallP dy = .node ⟨false, 6, abcde⟩ :=
  ⟨by kernel_rfl, by kernel_rfl, by kernel_rfl, by kernel_rfl, by kernel_rfl, by kernel_rfl, by kernel_rfl⟩
theorem own_below {S : Nat → Prop} {w w1 w2 : World} (h : Below w.heap.size w w1) (hS : ∀ k, S k → w.heap.size ≤ k) (hK : Kept S w1 w2) : Below w.heap.size w w2 :=
  h.trans ⟨hK.os, hK.tape, hK.output, hK.size, fun k hk => hK.block k (Nat.lt_of_lt_of_le hk h.size) (fun hs => by have := hS k hs; omega)⟩
/-- A file system that a call has made: all its blocks are new. -/
def OwnFs (w : World) (f : Nat) (st : St) (clock room : Int) (w' : World) : Prop :=
  Below w.heap.size w w' ∧ ∃ mb N S, FsIn w' f mb N S st clock room ∧ ∀ k, S k → w.heap.size ≤ k
theorem OwnFs.post {w w1 w2 : World} {f : Nat} {S : Nat → Prop} {st' : St} {clock' room c : Int} {r : Int × St × Int} {e : Ending} (hr : r = (c, st', clock')) (hB : Below w.heap.size w w1) (hS : ∀ k, S k → w.heap.size ≤ k) (h : OpPost w1 f S room r e w2) : e = .returned (.int .i64 c) ∧ OwnFs w f st' clock' room w2 := by
  subst hr
  obtain ⟨he, S', ⟨mb', N', h1⟩, h2, h3⟩ := h
  exact ⟨he, own_below hB hS h3, mb', N', S', h1, fun k hk => (h2 k hk).elim (hS k) (fun h => Nat.le_trans hB.size h)⟩
theorem OwnFs.size {w w1 : World} {f : Nat} {st : St} {clock room : Int} (h : OwnFs w f st clock room w1) : w.heap.size ≤ w1.heap.size := h.1.size
theorem OwnFs.below {w w1 w2 : World} {f : Nat} {st : St} {clock room : Int} (h : OwnFs w f st clock room w1) (hb : Below w1.heap.size w1 w2) : OwnFs w f st clock room w2 := by
  obtain ⟨hB, mb, N, S, h1, h2⟩ := h
  exact ⟨hB.trans (hb.mono hB.size), mb, N, S, h1.below hb, h2⟩
/-- A write at a path that is not there, of a file system of one's own. -/
theorem own_write {w w0 w1 : World} {f : Nat} {st st' : St} {clock clock' room c : Int} {p : ByteArray} {q bb : Bs} {bv : Value} {Tb : Nat → Prop} {add : Bool} (hO : OwnFs w f st clock room w0) (h01 : Below w0.heap.size w0 w1) (hp : p.size ≤ 2147483647) (hq : clean p.data.toList = q) (hr : lookQ st q = .none) (hl : wt st ≤ 1099511627776) (h0 : 0 ≤ clock) (h1 : clock ≤ 4611686018427387904)
    (hb : BytesAt w1 bv bb Tb) (hT : ∀ k, Tb k → w0.heap.size ≤ k ∧ k < w1.heap.size) (hbl : bb.length ≤ 70368744177664) (hres : writeTail st clock room q [] bb 1 bb.length = (c, st', clock')) :
    Calls Tryz.prog 17 #[.pointer (some ⟨f, 0, none⟩), .string p, bv, .bool add] w1 fun e w' => e = .returned (.int .i64 c) ∧ OwnFs w f st' clock' room w' := by
  obtain ⟨hB, mb, N, S, hF, hS⟩ := hO
  exact (write_none (add := add) (hF.below h01) hp hq hr hl h0 h1 hb (fun k hk => ⟨fun hs => by have := hF.lt k hs; have := hT k hk; omega, (hT k hk).2⟩) hbl).mono fun _ _ h => OwnFs.post hres (hB.trans (h01.mono hB.size)) hS h
theorem own_remove {w w1 : World} {f : Nat} {st st' : St} {clock clock' room c : Int} {p : ByteArray} {q : Bs} {n : PN} (hO : OwnFs w f st clock room w1) (hp : p.size ≤ 2147483647) (hq : clean p.data.toList = q) (hr : lookQ st q = .node n) (hl : wt st ≤ 1099511627776) (h0 : 0 ≤ clock) (h1 : clock ≤ 4611686018427387904)
    (hres : removeP st clock q n = (c, st', clock')) :
    Calls Tryz.prog 19 #[.pointer (some ⟨f, 0, none⟩), .string p] w1 fun e w' => e = .returned (.int .i64 c) ∧ OwnFs w f st' clock' room w' := by
  obtain ⟨hB, mb, N, S, hF, hS⟩ := hO
  cases hd : n.dir with
  | true => exact (remove_dir hF hp hq hr hd hl h0 h1).mono fun _ _ h => OwnFs.post hres hB hS h
  | false => exact (remove_file hF hp hq hr hd hl h0 h1).mono fun _ _ h => OwnFs.post hres hB hS h
theorem own_stat {w w1 : World} {f : Nat} {st : St} {clock room : Int} {p : ByteArray} {q : Bs} {n : PN} (hO : OwnFs w f st clock room w1) (hp : p.size ≤ 2147483647) (hq : clean p.data.toList = q) (hr : lookQ st q = .node n) (hd : n.dir = false) :
    Calls Tryz.prog 27 #[.pointer (some ⟨f, 0, none⟩), .string p] w1 fun e w' => e = .returned (.agg #[.int .i64 1, .int .i64 n.time, .int .i64 n.data.length]) ∧ OwnFs w f st clock room w' := by
  have hO' := hO
  obtain ⟨hB, mb, N, S, hF, hS⟩ := hO
  exact (stat_file hF hp hq hr hd).mono fun _ _ h => ⟨h.1, hO'.below h.2⟩
theorem own_new {w w1 : World} {nv : Value} {l : St} {T : Nat → Prop} {clock room : Int} (hB : Below w.heap.size w w1) (ht : TreeAt w1 nv l T) (hT : ∀ k, T k → k < w1.heap.size) (hp : ∀ x ∈ l, x.1.length ≤ 2147483647) (hd : ∀ x ∈ l, x.2.data.length ≤ 1099511627776) (h0 : rightP l clock room = 0) :
    Calls Tryz.prog 9 #[.agg #[nv, .int .i64 clock, .int .i64 room]] w1 fun e w' => ∃ f, e = .returned (.tuple #[.pointer (some ⟨f, 0, none⟩), .int .i64 0]) ∧ OwnFs w f l clock room w' :=
  (new_ok ht hT hp hd h0).mono fun _ _ ⟨f, mb, N, S, h1, h2, h3, h4⟩ => ⟨f, h1, hB.trans (h4.mono hB.size), mb, N, S, h2, fun k hk => Nat.le_trans hB.size (h3 k hk)⟩
theorem bytes_block (w : World) (t : TypeId) (fr : Nat × Nat) (l : Bs) (cs : Array Value) (n : Nat) (hc : cs = (ucells l).toArray) (hn : n = l.length) (hm : n ≤ 1099511627776) : BytesAt (w.alloc (.cells cs t fr)) (.slice (some ⟨w.heap.size, 0, none⟩) n n) l (fun k => k = w.heap.size) := by
  subst hc hn
  refine ⟨_, _, rfl, Nat.le_refl _, by unfold maxLen; omega, (fun e => by cases e), fun _ => ⟨w.heap.size, 0, rfl, rfl, by simp, fun k x hk => ?_⟩⟩
  unfold World.cell?
  rw [heap_alloc_new]
  simp [ucells, hk]
set_option maxRecDepth 100000 in
set_option maxHeartbeats 4000000 in
theorem alive_calls (w : World) : Calls Tryz.prog 6 #[] w fun e w' => e = .returned (.bool true) ∧ Below w.heap.size w w' := by
  have hS := Lib.hid (small_calls w)
  have hF := Lib.hid alive_facts
  have hcv := fun (w : World) (C : Array Value) (n c : Nat) => Go.Lib.run_convert_bytes_const (P := Tryz.prog) w 41 5 C n c Tryz.underlying41 Tryz.underlying5
  go_enter Tryz.func6, Tryz.ntmps6
  go_wp2_with (first
    | (go_at_call 26; refine hS.out.mono ?_; rintro e w1 ⟨nv, rfl, ht, hb⟩; have kt := Lib.hid ht; have kb := Lib.hid hb; clear ht hb)
    | (go_at_call 9; refine (own_new (w := w) kb.out kt.out (fun _ hk => hk.2) (by decide) (by decide) small_right).mono ?_; rintro e w2 ⟨f, rfl, hO⟩; have kO := Lib.hid hO; clear hO)
    | (go_at_call 12; refine (num_calls _ _).mono ?_; rintro e wn ⟨rfl, rfl⟩)
    | (go_at_call_of 17 (Value.string ⟨#[122]⟩); refine (own_write (bb := []) (Tb := fun _ => False) kO3.out (Below.refl _ _) (by decide) (by kernel_rfl) hF.out.2.2.1 (by decide) (by decide) (by decide) (BytesAt.nil _ _) (fun k hk => hk.elim) (by decide) hF.out.2.2.2.1).mono ?_; rintro e w4 ⟨rfl, hO⟩; have kO4 := Lib.hid hO; clear hO)
    | (go_at_call 17; refine (own_write (w0 := w2) (bb := abcde) (Tb := fun k => k = w2.heap.size) kO.out (below_al (Below.refl _ _)) (by decide) (by kernel_rfl) hF.out.1 (by decide) (by decide) (by decide) (bytes_block w2 _ _ abcde _ _ rfl rfl (by decide)) (fun k hk => by subst hk; simp) (by decide) hF.out.2.1).mono ?_; rintro e w3 ⟨rfl, hO⟩; have kO3 := Lib.hid hO; clear hO)
    | (go_at_call 19; refine (own_remove kO4.out (by decide) (by kernel_rfl) hF.out.2.2.2.2.1 (by decide) (by decide) (by decide) hF.out.2.2.2.2.2.1).mono ?_; rintro e w5 ⟨rfl, hO⟩; have kO5 := Lib.hid hO; clear hO)
    | (go_at_call 27; refine (own_stat kO5.out (by decide) (by kernel_rfl) hF.out.2.2.2.2.2.2 rfl).mono ?_; rintro e w6 ⟨rfl, hO⟩; have kO6 := Lib.hid hO; clear hO))
  go_ret
  exact ⟨rfl, kO6.out.1⟩
end Go.Proofs.YtejofgdglpmlkaaGreatDoor
