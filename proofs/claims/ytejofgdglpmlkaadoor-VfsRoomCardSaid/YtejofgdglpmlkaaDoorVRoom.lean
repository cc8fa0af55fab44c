/-
  VfsRoom. Conditions: none.
-/
import Derived.Test.YtejofgdglpmlkaaDoorVTreeE
import Derived.Test.YtejofgdglpmlkaaDoorVWrite3
import Derived.Laws.OwnMore
import Derived.OwnWalk
namespace Go.Proofs.YtejofgdglpmlkaaDoor
open Go.RowKit

/-- A write behind a file, of a file system of one's own. -/
theorem own_add {w w0 w1 : World} {f : Nat} {st st' : St} {clock clock' room c : Int} {p : ByteArray} {q bb : Bs} {bv : Value} {n : PN} {Tb : Nat → Prop} (hO : OwnFs w f st clock room w0) (h01 : Below w0.heap.size w0 w1) (hp : p.size ≤ 2147483647) (hq : clean p.data.toList = q) (hr : lookQ st q = .node n) (hnd : n.dir = false) (hdl : n.data.length ≤ 65536) (hl : wt st ≤ 1099511627776) (h0 : 0 ≤ clock) (h1 : clock ≤ 4611686018427387904)
    (hb : BytesAt w1 bv bb Tb) (hT : ∀ k, Tb k → w0.heap.size ≤ k ∧ k < w1.heap.size) (hbl : bb.length ≤ 70368744177664) (hres : writeTail st clock room q n.data bb 0 bb.length = (c, st', clock')) :
    Calls Tryd.prog 9 #[.pointer (some ⟨f, 0, none⟩), .string p, bv, .bool true] w1 fun e w' => e = .returned (.int .i64 c) ∧ OwnFs w f st' clock' room w' := by
  obtain ⟨hB, mb, N, S, hF, hS⟩ := hO
  exact (write_add (hF.below h01) hp hq hr hnd hdl hl h0 h1 hb (fun k hk => ⟨fun hs => by have := hF.lt k hs; have := hT k hk; omega, (hT k hk).2⟩) hbl).mono fun _ _ h => OwnFs.post hres (hB.trans (h01.mono hB.size)) hS h
theorem own_tree {w w1 : World} {f : Nat} {clock room : Int} (hO : OwnFs w f [] clock room w1) :
    Calls Tryd.prog 11 #[.pointer (some ⟨f, 0, none⟩)] w1 fun e w' => e = .returned (.agg #[.slice none 0 0, .int .i64 clock, .int .i64 room]) ∧ OwnFs w f [] clock room w' := by
  have hO' := hO
  obtain ⟨hB, mb, N, S, hF, hS⟩ := hO
  exact (tree_empty hF).mono fun _ _ h => ⟨h.1, hO'.below h.2⟩
def zeros (n : Nat) : Bs := List.replicate n 0
theorem zeros_len (n : Nat) : (zeros n).length = n := by simp [zeros]
theorem zeros_cells (n : Nat) : (madeCells (Value.int .u8 0).cells (n * 1)).toList = ucells (zeros n) := by
  have : (Value.int .u8 0).cells = #[.int .u8 0] := rfl
  rw [this, toList_madeCells_one, Nat.mul_one]
  simp [ucells, zeros]
theorem zeros_own {w w' : World} {n : Nat} {v : Value} (h : w'.ownsRow w.heap.size 5 1 v n (madeCells (Value.int .u8 0).cells (n * 1)).toList) : BytesAt w' v (zeros n) (fun k => w.heap.size ≤ k ∧ k < w'.heap.size) := by
  rw [zeros_cells] at h
  have := bytes_own (l := zeros n) (B := w.heap.size) (w := w') (v := v) (by rw [zeros_len]; exact h)
  exact this
def roomA (F : Nat) : St := [([97], ⟨false, 1, zeros F⟩)]
def roomB (F : Nat) : St := [([97], ⟨false, 1, zeros F⟩), ([98], ⟨false, 2, []⟩)]
def roomC (F L : Nat) : St := [([97], ⟨false, 1, zeros F⟩), ([98], ⟨false, 3, zeros L⟩)]
theorem room_wt (F L : Nat) : wt [] = 0 ∧ wt (roomA F) = 1 + F ∧ wt (roomB F) = 2 + F ∧ wt (roomC F L) = 2 + F + L := by
  refine ⟨rfl, ?_, ?_, ?_⟩ <;> simp [wt, bytesOf, roomA, roomB, roomC, zeros] <;> omega
theorem room_looks (F L : Nat) : lookQ [] [97] = .none ∧ lookQ [] [98] = .none ∧ lookQ (roomA F) [98] = .none ∧ lookQ (roomA F) [97] = .node ⟨false, 1, zeros F⟩ ∧ lookQ (roomB F) [98] = .node ⟨false, 2, []⟩ ∧ lookQ (roomC F L) [98] = .node ⟨false, 3, zeros L⟩ :=
  ⟨by kernel_rfl, by kernel_rfl, by kernel_rfl, by kernel_rfl, by kernel_rfl, by kernel_rfl⟩
theorem room_a1 {F R : Nat} (hF : F ≤ 60000) (h : R < F + 1) : writeTail [] 0 R [97] [] (zeros F) 1 ((zeros F).length : Int) = (15, [], 0) := by
  unfold writeTail fitsB
  rw [zeros_len, if_neg (by simp; omega), if_pos (by simp [room_wt 0 0]; omega)]
theorem room_a2 {F R : Nat} (hF : F ≤ 60000) (h : F + 1 ≤ R) : writeTail [] 0 R [97] [] (zeros F) 1 ((zeros F).length : Int) = (0, roomA F, 1) := by
  unfold writeTail fitsB
  rw [zeros_len, if_neg (by simp; omega), if_neg (by simp [room_wt 0 0]; omega)]; rfl
theorem room_b1 {F R : Nat} (h : R < F + 2) : writeTail (roomA F) 1 R [98] [] [] 1 (([] : Bs).length : Int) = (15, roomA F, 1) := by
  unfold writeTail fitsB
  rw [if_neg (by simp), if_pos (by simp [room_wt F 0]; simp [roomA]; omega)]
theorem room_b2 {F R : Nat} (h : F + 2 ≤ R) : writeTail (roomA F) 1 R [98] [] [] 1 (([] : Bs).length : Int) = (0, roomB F, 2) := by
  unfold writeTail fitsB
  rw [if_neg (by simp), if_neg (by simp [room_wt F 0]; simp [roomA]; omega)]; rfl
theorem room_r {F : Nat} : removeP (roomA F) 1 [97] ⟨false, 1, zeros F⟩ = (0, [], 2) := rfl
theorem room_d {R : Nat} (h : 1 ≤ R) (hR : R ≤ 60000) : writeTail [] 2 R [98] [] (zeros (R - 1)) 1 ((zeros (R - 1)).length : Int) = (0, [([98], ⟨false, 3, zeros (R - 1)⟩)], 3) := by
  unfold writeTail fitsB
  rw [zeros_len, if_neg (by simp; omega), if_neg (by simp [room_wt 0 0]; omega)]; rfl
theorem room_c {F R L : Nat} (hL : L ≤ 60000) (h : F + 2 + L ≤ R) : writeTail (roomB F) 2 R [98] [] (zeros L) 0 ((zeros L).length : Int) = (0, roomC F L, 3) := by
  unfold writeTail fitsB
  rw [zeros_len, if_neg (by simp; omega), if_neg (by simp [room_wt F 0]; simp [roomB]; omega)]; rfl
theorem room_e {F R L : Nat} (hL : L ≤ 60000) (h : R < F + 3 + L) : writeTail (roomC F L) 3 R [98] (zeros L) [1] 0 (([1] : Bs).length : Int) = (15, roomC F L, 3) := by
  unfold writeTail fitsB
  rw [zeros_len, if_neg (by simp; omega), if_pos (by simp [room_wt F L]; simp [roomC]; omega)]
theorem room_new {R : Nat} (h : R ≤ 60000) : rightP [] 0 R = 0 := by
  unfold rightP badArg
  rw [if_neg (by simp), if_neg (by simp), if_neg (by simp; omega), if_neg (by simp [okFrom]), if_neg (by simp [room_wt 0 0])]
set_option maxRecDepth 100000 in
set_option maxHeartbeats 1600000 in
theorem room_calls (room first : Int) (w : World) : Calls Tryd.prog 4 #[.int .i64 room, .int .i64 first] w fun e w' => e = .returned (.bool true) ∧ Below w.heap.size w w' := by
  have hA := Lib.hid (alive_calls w)
  by_cases hz1_ : room < 2
  · go_enter Tryd.func4, Tryd.ntmps4
    go_wp2_with (go_at_call 5; refine hA.out.mono ?_; rintro e w1 ⟨rfl, hb⟩; have kb := Lib.hid hb; clear hb)
    go_ret
    exact ⟨rfl, kb.out⟩
  by_cases hz2_ : 60000 < room
  · go_enter Tryd.func4, Tryd.ntmps4
    go_wp2_with (go_at_call 5; refine hA.out.mono ?_; rintro e w1 ⟨rfl, hb⟩; have kb := Lib.hid hb; clear hb)
    go_ret
    exact ⟨rfl, kb.out⟩
  by_cases hz3_ : first < 0
  · go_enter Tryd.func4, Tryd.ntmps4
    go_wp2_with (go_at_call 5; refine hA.out.mono ?_; rintro e w1 ⟨rfl, hb⟩; have kb := Lib.hid hb; clear hb)
    go_ret
    exact ⟨rfl, kb.out⟩
  by_cases hz4_ : 60000 < first
  · go_enter Tryd.func4, Tryd.ntmps4
    go_wp2_with (go_at_call 5; refine hA.out.mono ?_; rintro e w1 ⟨rfl, hb⟩; have kb := Lib.hid hb; clear hb)
    go_ret
    exact ⟨rfl, kb.out⟩
  obtain ⟨R, rfl⟩ : ∃ R : Nat, room = R := ⟨room.toNat, by omega⟩
  obtain ⟨F, rfl⟩ : ∃ F : Nat, first = F := ⟨first.toNat, by omega⟩
  have hN := Lib.hid (room_new (R := R) (by omega))
  obtain ⟨i0, hi, hz0, hz1, hz2⟩ := info_parts infoByte
  by_cases hfull : R < F + 1
  · have hfd0 : ∀ (a b c : Value) (w : World), (Instr.field 29 (.agg #[a, b, c]) 0).run Tryd.prog w = .ok a w := fun a b c w => by kernel_rfl
    have kr := Lib.hid (room_a1 (R := R) (by omega) hfull)
    go_enter Tryd.func4, Tryd.ntmps4
    go_wp2_with (first
      | (go_at_call 5; refine hA.out.mono ?_; rintro e w1 ⟨rfl, hb⟩; have kb := Lib.hid hb; clear hb)
      | (go_at_call 6; refine (own_new (w := w) (T := fun _ => False) kb.out (TreeAt.nil _ _) (fun _ hk => hk.elim) (fun _ hx => by cases hx) (fun _ hx => by cases hx) hN.out).mono ?_; rintro e w2 ⟨f, rfl, hO⟩; have kO := Lib.hid hO; clear hO)
      | (go_at_call 10; refine (num_calls _ _).mono ?_; rintro e wn ⟨rfl, rfl⟩)
      | (at_make; refine wpList_make_full _ rfl _ _ 35 rfl w2.heap.size 5 i0 (.int .u8 0) 1 Tryd.underlying35 hi hz0 hz1 .i64 .i64 _ _ (F) rfl rfl (by omega) (by omega) (by rw [hz2]; omega) (by unfold maxLen; omega) (Nat.le_refl _) ?_; intro wm ho hg; have km := Lib.hid (zeros_own ho); have kbm := Lib.hid (show Below w2.heap.size w2 wm from ⟨hg.os, hg.tape, hg.output, hg.size, fun j hj => hg.block j hj (by simp)⟩); clear ho hg)
      | (go_at_call_of 9 (Value.string ⟨#[97]⟩); refine (own_write (add := false) (bb := zeros F) kO.out kbm.out (by decide) (by kernel_rfl) (room_looks F 0).1 (by rw [(room_wt F 0).1]; omega) (by omega) (by omega) km.out (fun _ hk => hk) (by rw [zeros_len]; omega) kr.out).mono ?_; rintro e w3 ⟨rfl, hO⟩; have kO3 := Lib.hid hO; clear hO)
      | (go_at_call 11; refine (own_tree kO3.out).mono ?_; rintro e w4 ⟨rfl, hO⟩; have kO4 := Lib.hid hO; clear hO))
    go_ret
    exact ⟨rfl, kO4.out.1⟩
  by_cases htight : R < F + 2
  · have kr := Lib.hid (room_a2 (F := F) (R := R) (by omega) (by omega))
    have kr2 := Lib.hid (room_b1 (F := F) (R := R) (by omega))
    have kr3 := Lib.hid (room_d (R := R) (by omega) (by omega))
    go_enter Tryd.func4, Tryd.ntmps4
    go_wp2_with (first
      | (go_at_call 5; refine hA.out.mono ?_; rintro e w1 ⟨rfl, hb⟩; have kb := Lib.hid hb; clear hb)
      | (go_at_call 6; refine (own_new (w := w) (T := fun _ => False) kb.out (TreeAt.nil _ _) (fun _ hk => hk.elim) (fun _ hx => by cases hx) (fun _ hx => by cases hx) hN.out).mono ?_; rintro e w2 ⟨f, rfl, hO⟩; have kO := Lib.hid hO; clear hO)
      | (go_at_call 10; refine (num_calls _ _).mono ?_; rintro e wn ⟨rfl, rfl⟩)
      | (at_make; refine wpList_make_full _ rfl _ _ 35 rfl w2.heap.size 5 i0 (.int .u8 0) 1 Tryd.underlying35 hi hz0 hz1 .i64 .i64 _ _ (F) rfl rfl (by omega) (by omega) (by rw [hz2]; omega) (by unfold maxLen; omega) (Nat.le_refl _) ?_; intro wm ho hg; have km := Lib.hid (zeros_own ho); have kbm := Lib.hid (show Below w2.heap.size w2 wm from ⟨hg.os, hg.tape, hg.output, hg.size, fun j hj => hg.block j hj (by simp)⟩); clear ho hg)
      | (go_at_call_of 9 (Value.string ⟨#[97]⟩); refine (own_write (add := false) (bb := zeros F) kO.out kbm.out (by decide) (by kernel_rfl) (room_looks F 0).1 (by rw [(room_wt F 0).1]; omega) (by omega) (by omega) km.out (fun _ hk => hk) (by rw [zeros_len]; omega) kr.out).mono ?_; rintro e w3 ⟨rfl, hO⟩; have kO3 := Lib.hid hO; clear hO)
      | (go_at_call_of 9 (Value.slice none 0 0); refine (own_write (add := false) (bb := []) (Tb := fun _ => False) kO3.out (Below.refl _ _) (by decide) (by kernel_rfl) (room_looks F 0).2.2.1 (by rw [(room_wt F 0).2.1]; omega) (by omega) (by omega) (BytesAt.nil _ _) (fun _ hk => hk.elim) (by decide) kr2.out).mono ?_; rintro e w4 ⟨rfl, hO⟩; have kO4 := Lib.hid hO; clear hO)
      | (go_at_call 12; refine (own_remove kO4.out (by decide) (by kernel_rfl) (room_looks F 0).2.2.2.1 (by rw [(room_wt F 0).2.1]; omega) (by omega) (by omega) room_r).mono ?_; rintro e w5 ⟨rfl, hO⟩; have kO5 := Lib.hid hO; clear hO)
      | (at_make; refine wpList_make_full _ rfl _ _ 35 rfl w5.heap.size 5 i0 (.int .u8 0) 1 Tryd.underlying35 hi hz0 hz1 .i64 .i64 _ _ (R - 1) rfl rfl (by omega) (by omega) (by rw [hz2]; omega) (by unfold maxLen; omega) (Nat.le_refl _) ?_; intro wm2 ho hg; have km2 := Lib.hid (zeros_own ho); have kbm2 := Lib.hid (show Below w5.heap.size w5 wm2 from ⟨hg.os, hg.tape, hg.output, hg.size, fun j hj => hg.block j hj (by simp)⟩); clear ho hg)
      | (go_at_call 9; refine (own_write (add := false) (bb := zeros (R - 1)) kO5.out kbm2.out (by decide) (by kernel_rfl) (room_looks F 0).2.1 (by rw [(room_wt F 0).1]; omega) (by omega) (by omega) km2.out (fun _ hk => hk) (by rw [zeros_len]; omega) kr3.out).mono ?_; rintro e w6 ⟨rfl, hO⟩; have kO6 := Lib.hid hO; clear hO))
    go_ret
    exact ⟨rfl, kO6.out.1⟩
  · obtain ⟨L, hL⟩ : ∃ L, R = F + 2 + L := ⟨R - (F + 2), by omega⟩
    have kr := Lib.hid (room_a2 (F := F) (R := R) (by omega) (by omega))
    have kr2 := Lib.hid (room_b2 (F := F) (R := R) (by omega))
    have kr3 := Lib.hid (room_c (F := F) (R := R) (L := L) (by omega) (by omega))
    have kr4 := Lib.hid (room_e (F := F) (R := R) (L := L) (by omega) (by omega))
    have kL := Lib.hid hL
    clear hL
    have hfd2 : ∀ (a b c : Value) (w : World), (Instr.field 38 (.agg #[a, b, c]) 2).run Tryd.prog w = .ok c w := fun a b c w => by kernel_rfl
    go_enter Tryd.func4, Tryd.ntmps4
    go_wp2_with (first
      | (go_at_call 5; refine hA.out.mono ?_; rintro e w1 ⟨rfl, hb⟩; have kb := Lib.hid hb; clear hb)
      | (go_at_call 6; refine (own_new (w := w) (T := fun _ => False) kb.out (TreeAt.nil _ _) (fun _ hk => hk.elim) (fun _ hx => by cases hx) (fun _ hx => by cases hx) hN.out).mono ?_; rintro e w2 ⟨f, rfl, hO⟩; have kO := Lib.hid hO; clear hO)
      | (go_at_call 10; refine (num_calls _ _).mono ?_; rintro e wn ⟨rfl, rfl⟩)
      | (at_make; refine wpList_make_full _ rfl _ _ 35 rfl w2.heap.size 5 i0 (.int .u8 0) 1 Tryd.underlying35 hi hz0 hz1 .i64 .i64 _ _ (F) rfl rfl (by omega) (by omega) (by rw [hz2]; omega) (by unfold maxLen; omega) (Nat.le_refl _) ?_; intro wm ho hg; have km := Lib.hid (zeros_own ho); have kbm := Lib.hid (show Below w2.heap.size w2 wm from ⟨hg.os, hg.tape, hg.output, hg.size, fun j hj => hg.block j hj (by simp)⟩); clear ho hg)
      | (go_at_call_of 9 (Value.string ⟨#[97]⟩); refine (own_write (add := false) (bb := zeros F) kO.out kbm.out (by decide) (by kernel_rfl) (room_looks F 0).1 (by rw [(room_wt F 0).1]; omega) (by omega) (by omega) km.out (fun _ hk => hk) (by rw [zeros_len]; omega) kr.out).mono ?_; rintro e w3 ⟨rfl, hO⟩; have kO3 := Lib.hid hO; clear hO)
      | (go_at_call_of 9 (Value.slice none 0 0); refine (own_write (add := false) (bb := []) (Tb := fun _ => False) kO3.out (Below.refl _ _) (by decide) (by kernel_rfl) (room_looks F 0).2.2.1 (by rw [(room_wt F 0).2.1]; omega) (by omega) (by omega) (BytesAt.nil _ _) (fun _ hk => hk.elim) (by decide) kr2.out).mono ?_; rintro e w4 ⟨rfl, hO⟩; have kO4 := Lib.hid hO; clear hO)
      | (at_make; refine wpList_make_full _ rfl _ _ 35 rfl w4.heap.size 5 i0 (.int .u8 0) 1 Tryd.underlying35 hi hz0 hz1 .i64 .i64 _ _ (L) rfl rfl (by have := kL.out; omega) (by have := kL.out; omega) (by rw [hz2]; have := kL.out; omega) (by have := kL.out; unfold maxLen; omega) (Nat.le_refl _) ?_; intro wm2 ho hg; have km2 := Lib.hid (zeros_own ho); have kbm2 := Lib.hid (show Below w4.heap.size w4 wm2 from ⟨hg.os, hg.tape, hg.output, hg.size, fun j hj => hg.block j hj (by simp)⟩); clear ho hg)
      | (go_at_call_of 9 (Value.slice (some ⟨w4.heap.size, 0, none⟩) L L); refine (own_add (bb := zeros L) kO4.out kbm2.out (by decide) (by kernel_rfl) (room_looks F L).2.2.2.2.1 rfl (by simp) (by rw [(room_wt F 0).2.2.1]; omega) (by omega) (by omega) km2.out (fun _ hk => hk) (by rw [zeros_len]; have := kL.out; omega) kr3.out).mono ?_; rintro e w5 ⟨rfl, hO⟩; have kO5 := Lib.hid hO; clear hO)
      | (go_at_call 9; refine (own_add (w0 := w5) (bb := [1]) (Tb := fun k => k = w5.heap.size) kO5.out (below_al (Below.refl _ _)) (by decide) (by kernel_rfl) (room_looks F L).2.2.2.2.2 rfl (by show (zeros L).length ≤ 65536; rw [zeros_len]; have := kL.out; omega) (by rw [(room_wt F L).2.2.2]; have := kL.out; omega) (by omega) (by omega) (bytes_block w5 _ _ [1] _ _ rfl rfl (by decide)) (fun k hk => by subst hk; simp) (by decide) kr4.out).mono ?_; rintro e w6 ⟨rfl, hO⟩; have kO6 := Lib.hid hO; clear hO)
      | (go_at_call 13; refine (own_stat kO6.out (by decide) (by kernel_rfl) (room_looks F L).2.2.2.2.2 rfl).mono ?_; rintro e w7 ⟨rfl, hO⟩; have kO7 := Lib.hid hO; have hzl := zeros_len L; clear hO))
    have hb : (((L : Nat) : Int) == (R : Int) - F - 1 - 1) = true := by have := kL.out; simp; omega
    go_ret
    exact ⟨congrArg (fun b => Ending.returned (.bool b)) hb, kO7.out.1⟩
end Go.Proofs.YtejofgdglpmlkaaDoor
