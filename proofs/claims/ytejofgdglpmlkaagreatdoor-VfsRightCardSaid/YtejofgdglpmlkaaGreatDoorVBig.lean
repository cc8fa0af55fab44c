/-
  Big of a tree. Conditions: texts of at most 2^47 bytes, at most 2^42 nodes.
-/
import Derived.Test.YtejofgdglpmlkaaGreatDoorVRight
namespace Go.Proofs.YtejofgdglpmlkaaGreatDoor
open Go.RowKit

/-- What a tree's nodes, paths and bytes come to. -/
def totB : St → Nat
  | [] => 0
  | x :: r => 1 + x.1.length + x.2.data.length + totB r
theorem totB_append : ∀ (a b : St), totB (a ++ b) = totB a + totB b
  | [], b => by simp [totB]
  | x :: a, b => by rw [List.cons_append, totB, totB, totB_append a b]; omega
theorem totB_take {l : St} {k : Nat} {x : Bs × PN} (h : l[k]? = some x) : totB (l.take (k + 1)) = totB (l.take k) + (1 + x.1.length + x.2.data.length) := by
  rw [take_more h, totB_append]; simp [totB]
def bigB (l : St) : Prop := 300000 < totB l ∨ 1100 < l.length
section
variable {l : St} {clock room : Int} {nv : Value} {T : Nat → Prop} {w : World}
set_option maxRecDepth 100000 in
set_option maxHeartbeats 4000000 in
theorem big_calls (ht : TreeAt w nv l T) (hT : ∀ k, T k → k < w.heap.size) (hp : ∀ x ∈ l, x.1.length ≤ 140737488355328 ∧ x.2.data.length ≤ 140737488355328) (hl : l.length ≤ 4398046511104) :
    Calls Tryz.prog 7 #[.agg #[nv, .int .i64 clock, .int .i64 room]] w fun e w' => ∃ b : Bool, e = .returned (.bool b) ∧ (b = false → totB l ≤ 300000 ∧ l.length ≤ 1100) ∧ Below w.heap.size w w' := by
  obtain ⟨ta, tc, hnv⟩ := ht.form
  subst hnv
  have kt := Lib.hid ht
  have kT := Lib.hid hT
  have kp := Lib.hid hp
  clear ht hT hp
  go_enter Tryz.func7, Tryz.ntmps7
  go_wp2
  have kB1 := Lib.hid (show BoxT w (w.alloc (.cells #[.slice ta l.length tc, .int .i64 clock, .int .i64 room] 24 (0, 0))) (.slice ta l.length tc) clock room from ⟨heap_alloc_new _ _, below_al (Below.refl _ _)⟩)
  go_loopw [3, 4] (fun mv iv wr => ∃ k : Nat, k ≤ l.length ∧ iv = .int .i64 k ∧ mv = .int .i64 (totB (l.take k) : Nat) ∧ totB (l.take k) ≤ 400000000000000 ∧ BoxT w wr (.slice ta l.length tc) clock room) (fun _ iv _ => l.length - (intOf iv).toNat)
  case atStart => exact ⟨0, Nat.zero_le _, rfl, rfl, by simp [totB], kB1.out⟩
  case round =>
    obtain ⟨k, hk, rfl, rfl, htot, hB⟩ := hrel
    have kB := Lib.hid hB
    obtain ⟨hb0, -, -⟩ := hB.cell
    have hbl0 := heap_lt hB.1
    clear hB
    by_cases hlt : k < l.length
    · by_cases hsm : totB (l.take k) ≤ 300000
      · obtain ⟨x, hx⟩ : ∃ x, l[k]? = some x := ⟨_, List.getElem?_eq_getElem hlt⟩
        have kx := Lib.hid hx
        obtain ⟨b, off, dv, hta, hTb, hbl, hc0, hc1, hc2, hc3, hdv⟩ := (kt.out.of_heap (w' := wr) (T' := T) (fun j hj => kB.out.2.block j (kT.out j hj)) (fun _ h => h)).at hx
        obtain ⟨da, dc, hdf⟩ := hdv.form
        subst hta hdf
        clear hTb hdv hx hc1 hc2
        have hpx := kp.out x (List.mem_of_getElem? kx.out)
        have hms : (mk x.1).size = x.1.length := mk_size x.1
        have htk := totB_take kx.out
        generalize totB (l.take k) = t0 at *
        have s1 : IntKind.i64.wrap ((t0 : Int) + 1) = (t0 : Int) + 1 := IntWalk.i64_in _ (by omega)
        have s2 : IntKind.i64.wrap ((t0 : Int) + 1 + x.1.length) = (t0 : Int) + 1 + x.1.length := IntWalk.i64_in _ (by omega)
        have s3 : IntKind.i64.wrap ((t0 : Int) + 1 + x.1.length + x.2.data.length) = (t0 : Int) + 1 + x.1.length + x.2.data.length := IntWalk.i64_in _ (by omega)
        go_wp2_with fail
        go_quiet (fail)
        go_wp2
        clear s1 s2 s3
        exact ⟨⟨k + 1, by omega, by go_num, by rw [htk]; congr 1; omega, by rw [htk]; omega, kB.out.below (below_drewN' (Below.refl _ _) nq)⟩, by simp [intOf]; omega⟩
      · go_wp2
        go_ret
        exact ⟨true, rfl, (fun h => by cases h), kB.out.2⟩
    · have hkl : k = l.length := by omega
      subst hkl
      rw [List.take_length] at *
      by_cases hsm : totB l ≤ 300000
      · by_cases hln : l.length ≤ 1100
        · go_wp2
          go_ret
          exact ⟨_, rfl, fun _ => ⟨hsm, hln⟩, kB.out.2⟩
        · go_wp2
          go_ret
          exact ⟨_, rfl, (fun h => by simp at h; omega), kB.out.2⟩
      · go_wp2
        go_ret
        first | exact ⟨rfl, kB.out.2⟩ | exact ⟨true, rfl, (fun h => by cases h), kB.out.2⟩
end
end Go.Proofs.YtejofgdglpmlkaaGreatDoor
