/-
  Parse of nothing; alive. Conditions: Itoa's table reads as laid.
-/
import Derived.Test.YtnjagoglabllaaaGreatDoorArWrite
import Derived.Test.YtnjagoglabllaaaGreatDoorArIs
import Derived.Test.YtnjagoglabllaaaGreatDoorArScope
namespace Go.Proofs.YtnjagoglabllaaaGreatDoor
open Go.RowKit

/-- The frame of read where it jumps: the variables, and what stands behind. -/
def Fr31 (a : Act) (v0 v1 v4 v5 v6 v7 v8 v9 v10 v11 v12 v13 v14 v15 : Value) : Prop :=
  ∃ T : Nat → Value, a = { tmps := #[v0, v1, T 2, T 3, v4, v5, v6, v7, v8, v9, v10, v11, v12, v13, v14, v15, T 16, T 17, T 18, T 19, T 20, T 21, T 22, T 23, T 24, T 25, T 26, T 27, T 28, T
    29, T 30, T 31, T 32, T 33, T 34, T 35, T 36, T 37, T 38, T 39, T 40, T 41, T 42, T 43, T 44, T 45, T 46, T 47, T 48, T 49, T 50, T 51, T 52, T 53, T
    54, T 55, T 56, T 57, T 58, T 59, T 60, T 61, T 62, T 63, T 64, T 65, T 66, T 67, T 68, T 69, T 70, T 71, T 72, T 73, T 74, T 75, T 76, T 77, T 78, T
    79, T 80, T 81, T 82, T 83, T 84, T 85, T 86, T 87, T 88, T 89, T 90, T 91, T 92, T 93, T 94, T 95, T 96, T 97, T 98, T 99, T 100, T 101, T 102, T 103,
    T 104, T 105, T 106, T 107, T 108, T 109, T 110, T 111, T 112, T 113, T 114, T 115, T 116, T 117, T 118, T 119, T 120, T 121, T 122, T 123, T 124, T
    125, T 126, T 127, T 128, T 129, T 130, T 131, T 132, T 133, T 134, T 135, T 136, T 137, T 138, T 139, T 140, T 141, T 142, T 143, T 144, T 145, T 146,
    T 147, T 148, T 149, T 150, T 151], defers := [] }
theorem lit152 (T : Nat → Value) : Array.ofFn (n := 152) (fun i => T i.val) = #[T 0, T 1, T 2, T 3, T 4, T 5, T 6, T 7, T 8, T 9, T 10, T 11, T 12, T 13, T 14, T 15, T 16, T 17, T 18, T 19, T 20, T 21, T 22, T 23, T 24, T 25, T 26,
    T 27, T 28, T 29, T 30, T 31, T 32, T 33, T 34, T 35, T 36, T 37, T 38, T 39, T 40, T 41, T 42, T 43, T 44, T 45, T 46, T 47, T 48, T 49, T 50, T 51, T
    52, T 53, T 54, T 55, T 56, T 57, T 58, T 59, T 60, T 61, T 62, T 63, T 64, T 65, T 66, T 67, T 68, T 69, T 70, T 71, T 72, T 73, T 74, T 75, T 76, T
    77, T 78, T 79, T 80, T 81, T 82, T 83, T 84, T 85, T 86, T 87, T 88, T 89, T 90, T 91, T 92, T 93, T 94, T 95, T 96, T 97, T 98, T 99, T 100, T 101, T
    102, T 103, T 104, T 105, T 106, T 107, T 108, T 109, T 110, T 111, T 112, T 113, T 114, T 115, T 116, T 117, T 118, T 119, T 120, T 121, T 122, T 123,
    T 124, T 125, T 126, T 127, T 128, T 129, T 130, T 131, T 132, T 133, T 134, T 135, T 136, T 137, T 138, T 139, T 140, T 141, T 142, T 143, T 144, T
    145, T 146, T 147, T 148, T 149, T 150, T 151] := by kernel_rfl
theorem Fr31.mk (a : Act) (h : a.tmps.size = 152) (hd : a.defers = []) : Fr31 a (a.tmps.getD 0 undef) (a.tmps.getD 1 undef) (a.tmps.getD 4 undef) (a.tmps.getD 5 undef) (a.tmps.getD 6 undef) (a.tmps.getD 7 undef) (a.tmps.getD 8 undef) (a.tmps.getD 9 undef) (a.tmps.getD 10 undef) (a.tmps.getD 11 undef) (a.tmps.getD 12 undef) (a.tmps.getD 13 undef) (a.tmps.getD 14 undef) (a.tmps.getD 15 undef) := by
  refine ⟨fun k => a.tmps.getD k undef, ?_⟩
  have e := lit152 (fun k => a.tmps.getD k undef)
  have e2 : a.tmps = Array.ofFn (n := 152) (fun i => a.tmps.getD i.val undef) := by
    apply Array.ext
    · rw [Array.size_ofFn, h]
    · intro i h1 h2
      rw [Array.getElem_ofFn]
      simp [h1]
  rw [e] at e2
  obtain ⟨tm, df⟩ := a
  simp only at hd e2
  subst hd
  exact congrArg (fun t => ({ tmps := t, defers := [] } : Act)) e2
set_option maxRecDepth 100000 in
set_option maxHeartbeats 4000000 in
theorem read_nil (w : World) :
    Calls Tryz.prog 31 #[.slice none 0 0] w fun e w' => e = .returned (.tuple #[.slice none 0 0, .iface 74 (.agg #[.int .i64 0, .iface 27 (.int .i64 20)])]) ∧ Below w.heap.size w w' := by
  have hmc := magic_conv w
  have kmB := Lib.hid (show Below w.heap.size w (magicW w) from below_al (Below.refl _ _))
  have kHP := Lib.hid (Tryz.bytes_HasPrefix_e1 none (some ⟨w.heap.size, 0, none⟩) 0 8 8 (by decide) (magicW w))
  go_enter Tryz.func31, Tryz.ntmps31
  go_wp2
  refine wp_scope_gotos (fun l a' w' => l = 0 ∧ w' = magicW w ∧ ∃ v0 v1 v4 v6 v7 v8 v9 v10 v11 v12 v13 v14 v15, Fr31 a' v0 v1 v4 (.int .i64 0) v6 v7 v8 v9 v10 v11 v12 v13 v14 v15) (fun _ _ _ => 0) ?one ?two
  case one =>
    go_wp2_with (go_at_call 44; refine kHP.out.mono ?_; rintro e w3 ⟨rfl, rfl⟩)
    go_step3
    exact ⟨rfl, rfl, _, _, _, _, _, _, _, _, _, _, _, _, _, Fr31.mk _ rfl rfl⟩
  case two =>
    rintro l a' w' ⟨rfl, rfl, v0, v1, v4, v6, v7, v8, v9, v10, v11, v12, v13, v14, v15, T, rfl⟩
    refine ⟨_, rfl, ?_⟩
    go_wp2
    rw [jumps_ret]
    go_ret2
    exact ⟨rfl, kmB.out⟩
set_option maxRecDepth 100000 in
set_option maxHeartbeats 4000000 in
theorem parse_nil (w : World) :
    Calls Tryz.prog 15 #[.slice none 0 0] w fun e w' => e = .returned (.tuple #[.slice none 0 0, .int .i64 20]) ∧ Below w.heap.size w w' := by
  have kR := Lib.hid (read_nil w)
  go_enter Tryz.func15, Tryz.ntmps15
  go_upto_region 4 with (go_at_call 31; refine kR.out.mono ?_; rintro e w3 ⟨rfl, hb⟩; have kb := Lib.hid hb; clear hb)
  have kI := Lib.hid (is_calls 0 20 w3)
  go_wp2_with (go_at_call 32; refine kI.out.mono ?_; rintro e w4 ⟨rfl, hb⟩; have kb4 := Lib.hid (kb.out.trans (hb.mono kb.out.size)); clear hb)
  go_ret2
  exact ⟨rfl, kb4.out⟩
/-- The world behind '[]byte("ab")'. -/
def abW (w : World) : World := w.alloc (.cells #[.int .u8 97, .int .u8 98] 5 (2, 3))
theorem ab_conv (w : World) : (convert 26 26 (.slice (some ⟨w.heap.size, 0, none⟩) 2 2)).run Tryz.prog (w.alloc (.cells #[.int .u8 97, .int .u8 98] 5)) = .ok (.slice (some ⟨w.heap.size, 0, none⟩) 2 2) (abW w) :=
  Go.Lib.run_convert_bytes_const w 26 5 _ 2 2 Tryz.underlying26 Tryz.underlying5
def aliveM : Mem := ⟨[120, 46, 111], 5, [97, 98]⟩
theorem Tab.mono {B B' : Nat} {w : World} (h : Tab B w) (hb : B ≤ B') : Tab B' w := fun w1 h1 => h w1 (h1.mono hb)
theorem alive_mems (w : World) (W : World) (hW : W = (abW w).alloc (.cells #[.string (mk [120, 46, 111]), .int .i64 5, .slice (some ⟨w.heap.size, 0, none⟩) 2 2] 37)) : MemsAt W (.slice (some ⟨(abW w).heap.size, 0, none⟩) 1 1) [aliveM] (fun j => j < W.heap.size) := by
  have e1 : W.heap[(abW w).heap.size]? = some (.cells #[.string (mk [120, 46, 111]), .int .i64 5, .slice (some ⟨w.heap.size, 0, none⟩) 2 2] 37 (0, 0)) := by rw [hW]; exact heap_alloc_new _ _
  have hs : (abW w).heap.size = w.heap.size + 1 := by simp [abW]
  have e0 : W.heap[w.heap.size]? = some (.cells #[.int .u8 97, .int .u8 98] 5 (2, 3)) := by
    rw [hW]
    exact (heap_alloc_old (abW w) _ (by omega)).trans (heap_alloc_new w _)
  obtain ⟨c0, c1, c2, -⟩ := cells3 e1
  refine ⟨_, _, rfl, Nat.le_refl _, by unfold maxLen; omega, (fun h => by cases h), fun _ => ⟨_, 0, rfl, heap_lt e1, heap_lt e1, fun k x hk => ?_⟩⟩
  cases k with
  | zero =>
    cases hk
    refine ⟨_, c0, c1, c2, _, _, rfl, Nat.le_refl _, by unfold maxLen; omega, (fun h => by cases h), fun _ => ⟨_, 0, rfl, heap_lt e0, heap_lt e0, fun j y hj => ?_⟩⟩
    rw [Nat.zero_add, cell_of_row W w.heap.size j _ 5 _ e0]
    match j, hj with
    | 0, hj => cases hj; rfl
    | 1, hj => cases hj; rfl
  | succ k => cases hk
end Go.Proofs.YtnjagoglabllaaaGreatDoor
