/-
  What SeekOrder asks ahead of all: alive. Condition: MaxLen's cell holds a number.
-/
import Derived.Test.YtnnepcodghfcmaaGreatDoorSOwn
import Derived.Test.YtnnepcodghfcmaaGreatDoorSFind
namespace Go.Proofs.YtnnepcodghfcmaaGreatDoor
open Go.RowKit

theorem sknum_calls (n : Int) (w : World) : Calls Tryz.prog 10 #[.int .i64 n] w fun e w' => e = .returned (.int .i64 n) ∧ w = w' := by
  go_enter Tryz.func10, Tryz.ntmps10
  go_wp2
  go_ret
  exact ⟨rfl, rfl⟩
def skL : St := [([115, 114, 99], ⟨true, 1, []⟩), ([115, 114, 99, 47, 120, 46, 99], ⟨false, 2, []⟩)]
theorem skL_right : rightP skL 2 100 = 0 := by decide
theorem sktree {w W : World} {t : TypeId} {fr : Nat × Nat} (B : Nat) (hB : B = w.heap.size + 1) (h2 : W.heap[B]? = some (.cells #[.string ⟨#[115, 114, 99]⟩, .bool true, .int .i64 1, .slice none 0 0, .string ⟨#[115, 114, 99, 47, 120, 46, 99]⟩, .bool false, .int .i64 2, .slice none 0 0] t fr))
    (hl : W.heap.size = w.heap.size + 2) : TreeAt W (.slice (some ⟨B, 0, none⟩) 2 2) skL (fun k => w.heap.size ≤ k ∧ k < W.heap.size) := by
  subst hB
  refine ⟨_, 2, rfl, Nat.le_refl _, by unfold maxLen; omega, (fun e => by cases e), fun _ => ⟨w.heap.size + 1, 0, rfl, ⟨by omega, by omega⟩, by omega, fun k x hk => ?_⟩⟩
  have hc := fun i => Go.Joins.cell_of_block h2 i
  match k, hk with
  | 0, hk =>
    injection hk with hk
    subst hk
    exact ⟨.slice none 0 0, hc 0, hc 1, hc 2, hc 3, BytesAt.nil _ _⟩
  | 1, hk =>
    injection hk with hk
    subst hk
    exact ⟨.slice none 0 0, hc 4, hc 5, hc 6, hc 7, BytesAt.nil _ _⟩
  | k + 2, hk => simp [skL] at hk
set_option maxRecDepth 100000 in
theorem sksmall_calls (w : World) : Calls Tryz.prog 9 #[] w fun e w' => ∃ nv, e = .returned (.agg #[nv, .int .i64 2, .int .i64 100]) ∧ TreeAt w' nv skL (fun k => w.heap.size ≤ k ∧ k < w'.heap.size) ∧ Below w.heap.size w w' := by
  go_enter Tryz.func9, Tryz.ntmps9
  go_wp2
  refine bodyPost_ret (v := .agg #[.slice (some ⟨w.heap.size + 1, 0, none⟩) 2 2, .int .i64 2, .int .i64 100]) (by simp [results, Tryz.results9, go_sem]) rfl ⟨_, rfl, ?_, below_al (below_al (Below.refl _ _))⟩
  refine sktree (w.heap.size + 1) rfl (t := 54) (fr := (0, 0)) ?_ (by simp)
  have := World.alloc_heap_new (w.alloc (Obj.cells #[.slice (some ⟨w.heap.size + 1, 0, none⟩) 2 2, .int .i64 2, .int .i64 100] 29)) (Obj.cells #[.string ⟨#[115, 114, 99]⟩, .bool true, .int .i64 1, .slice none 0 0, .string ⟨#[115, 114, 99, 47, 120, 46, 99]⟩, .bool false, .int .i64 2, .slice none 0 0] 54)
  rw [World.size_alloc] at this
  exact this
def xc : ByteArray := ⟨#[120, 46, 99]⟩
def srcxc : ByteArray := ⟨#[115, 114, 99, 47, 120, 46, 99]⟩
def skP : List (ByteArray × ByteArray) := [(⟨#[37, 46, 99]⟩, ⟨#[115, 114, 99]⟩)]
set_option maxRecDepth 100000 in
theorem places_1 : placesP skP ⟨#[]⟩ xc = [xc, srcxc] := by kernel_rfl
set_option maxRecDepth 100000 in
theorem places_2 : placesP [] ⟨#[]⟩ xc = [xc] := by kernel_rfl
set_option maxRecDepth 100000 in
theorem finds_1 : findL skL [xc, srcxc] xc = (srcxc, true) := by kernel_rfl
set_option maxRecDepth 100000 in
theorem finds_2 : findL skL [xc] xc = (xc, false) := by kernel_rfl
theorem xc_ok : xc.size ≤ 2147483647 ∧ splitOf xc = none := ⟨by decide, by kernel_rfl⟩
theorem srcxc_ok : srcxc.size ≤ 2147483647 ∧ splitOf srcxc = none := ⟨by decide, by kernel_rfl⟩
theorem split_ex : splitVal ⟨#[108, 105, 98, 46, 97, 40, 120, 46, 111, 41]⟩ = .tuple #[.string ⟨#[108, 105, 98, 46, 97]⟩, .string ⟨#[120, 46, 111]⟩, .bool true] := by kernel_rfl
theorem col_0 : (⟨#[]⟩ : ByteArray).size + Lib.countB ⟨#[]⟩ ⟨#[58]⟩ * 1 ≤ 140737488355328 ∧ (coloned ⟨#[]⟩).size ≤ 2147483647 := by decide +kernel
/-- A base that tells nothing but paths. -/
def baseV (pv : Value) : Value := .agg #[.slice none 0 0, .slice none 0 0, pv, .slice none 0 0, .slice none 0 0, .string ⟨#[]⟩, .slice none 0 0]
theorem own_find {f : Nat} {st : St} {clock room : Int} {w w1 : World} (hO : OwnFs w f st clock room w1) (pv : Value) (s dirs : ByteArray) (pl : List (ByteArray × ByteArray)) (mx : Int) (r : ByteArray × Bool) (hs : s.size ≤ 2147483647) (hd : dirs.size ≤ 2147483647) (hc1 : dirs.size + Lib.countB dirs ⟨#[58]⟩ * 1 ≤ 140737488355328) (hc2 : (coloned dirs).size ≤ 2147483647)
    (hpl : ∀ x ∈ pl, x.1.size ≤ 2147483647 ∧ x.2.size ≤ 2147483647) (hpn : pl.length ≤ 1099511627776) (hpv : PairsAt w1 pv pl) (hmx : w1.cell? ⟨1, 0, none⟩ = some (.int .i64 mx)) (hP : ∀ x ∈ placesP pl dirs s, x.size ≤ 2147483647 ∧ splitOf x = none) (hr : findL st (placesP pl dirs s) s = r) :
    Calls Tryz.prog 8 #[baseV pv, .string dirs, .pointer (some ⟨f, 0, none⟩), .string s] w1 fun e w' => e = .returned (.tuple #[.string r.1, .bool r.2]) ∧ OwnFs w f st clock room w' ∧ Below w1.heap.size w1 w' := by
  have hO' := hO
  obtain ⟨hB, mb, N, S, hF, hS⟩ := hO
  subst hr
  exact (find_calls hF _ _ pv _ _ _ _ s dirs pl mx hs hd hc1 hc2 hpl hpn hpv hmx hP).mono fun _ _ h => ⟨h.1, hO'.below h.2, h.2⟩
theorem pairs_one (w : World) (t : TypeId) (a b : ByteArray) : PairsAt (w.alloc (.cells #[.string a, .string b] t)) (.slice (some ⟨w.heap.size, 0, none⟩) 1 1) [(a, b)] := by
  refine ⟨_, 1, rfl, fun _ => ⟨w.heap.size, 0, rfl, fun k x hk => ?_⟩⟩
  have hc := fun i => Go.Joins.cell_of_block (World.alloc_heap_new w (.cells #[.string a, .string b] t)) i
  match k, hk with
  | 0, hk =>
    injection hk with hk
    subst hk
    exact ⟨hc 0, hc 1⟩
theorem pairs_nil (w : World) : PairsAt w (.slice none 0 0) [] := ⟨none, 0, rfl, fun h => absurd h (Nat.lt_irrefl _)⟩
set_option maxRecDepth 100000 in
set_option maxHeartbeats 4000000 in
theorem skalive_calls (mx : Int) (w : World) (hmx : w.cell? ⟨1, 0, none⟩ = some (.int .i64 mx)) : Calls Tryz.prog 4 #[] w fun e w' => e = .returned (.bool true) ∧ Below w.heap.size w w' := by
  have hS := Lib.hid (sksmall_calls w)
  have hm0 := World.block_lt_of_cell? w _ hmx
  have km := Lib.hid (fun (W : World) (h : Below w.heap.size w W) => (h.cell (p := ⟨1, 0, none⟩) hm0).trans hmx)
  have hSp := Lib.hid (fun W => split_calls ⟨#[108, 105, 98, 46, 97, 40, 120, 46, 111, 41]⟩ W (by decide))
  rw [split_ex] at hSp
  clear hmx
  go_enter Tryz.func4, Tryz.ntmps4
  go_upto_region 4 with (first
    | (go_at_call 9; refine hS.out.mono ?_; rintro e w1 ⟨nv, rfl, ht, hb⟩; have kt := Lib.hid ht; have kb := Lib.hid hb; clear ht hb)
    | (go_at_call 5; refine (own_new (w := w) kb.out kt.out (fun _ hk => hk.2) (by decide) (by decide) skL_right).mono ?_; rintro e w2 ⟨f, rfl, hO⟩; have kO := Lib.hid hO; clear hO)
    | (go_at_call 10; refine (sknum_calls _ _).mono ?_; rintro e wn ⟨rfl, rfl⟩))
  have kO2 := Lib.hid (kO.out.below (below_al (o := .cells #[.string ⟨#[37, 46, 99]⟩, .string ⟨#[115, 114, 99]⟩] 41) (Below.refl _ _)))
  have kF := Lib.hid (own_find kO2.out (.slice (some ⟨w2.heap.size, 0, none⟩) 1 1) xc ⟨#[]⟩ skP mx (⟨#[115, 114, 99, 47, 120, 46, 99]⟩, true) (by decide) (by decide) col_0.1 col_0.2 (by decide) (by decide) (pairs_one w2 41 _ _) (km.out _ kO2.out.1) (by rw [places_1]; simp [xc_ok, srcxc_ok]) (by rw [places_1]; exact finds_1))
  go_upto_region 5 with (go_at_call 8; refine kF.out.mono ?_; rintro e w3 ⟨rfl, hO, hb⟩; have kO3 := Lib.hid hO; clear hO hb)
  have kF2 := Lib.hid (own_find kO3.out (.slice none 0 0) xc ⟨#[]⟩ [] mx (⟨#[120, 46, 99]⟩, false) (by decide) (by decide) col_0.1 col_0.2 (by decide) (by decide) (pairs_nil _) (km.out _ kO3.out.1) (by rw [places_2]; simp [xc_ok]) (by rw [places_2]; exact finds_2))
  go_upto_region 6 with (go_at_call 8; refine kF2.out.mono ?_; rintro e w4 ⟨rfl, hO, hb⟩; have kO4 := Lib.hid hO; clear hO hb)
  go_wp2_with (go_at_call 11; refine (hSp.out _).mono ?_; rintro e w5 ⟨rfl, hb⟩; have kb5 := Lib.hid (kO4.out.below hb).1; clear hb)
  go_ret
  exact ⟨rfl, kb5.out⟩
end Go.Proofs.YtnnepcodghfcmaaGreatDoor
