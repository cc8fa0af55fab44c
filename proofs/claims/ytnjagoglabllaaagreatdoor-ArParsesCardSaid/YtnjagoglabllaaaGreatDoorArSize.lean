/-
  size: how many bytes an archive has. Conditions: texts of at most 2^47 bytes.
-/
import Derived.Test.YtnjagoglabllaaaGreatDoorArMem
namespace Go.Proofs.YtnjagoglabllaaaGreatDoor
open Go.RowKit

theorem table_app : ∀ (a b : List Mem), tableB (a ++ b) = tableB a ++ tableB b
  | [], b => rfl
  | x :: a, b => by
    rw [List.cons_append, tableB, tableB, table_app a b]
    split
    · simp
    · rfl
theorem sum_app : ∀ (a b : List Mem), sumN (a ++ b) = sumN a + sumN b
  | [], b => by simp [sumN]
  | x :: a, b => by rw [List.cons_append, sumN, sumN, sum_app a b]; omega
theorem table_take {l : List Mem} {k : Nat} {x : Mem} (h : l[k]? = some x) : (tableB (l.take (k + 1))).length = (tableB (l.take k)).length + (if 15 < x.name.length then x.name.length + 2 else 0) := by
  rw [take_more h, table_app, List.length_append, tableB, tableB]
  unfold longM
  by_cases h1 : 15 < x.name.length
  · rw [if_pos h1]; simp [h1]
  · rw [if_neg h1]; simp [h1]
theorem sum_take {l : List Mem} {k : Nat} {x : Mem} (h : l[k]? = some x) : sumN (l.take (k + 1)) = sumN (l.take k) + (60 + evenN x.data.length) := by
  rw [take_more h, sum_app, sumN, sumN]; omega
theorem size_take (l : List Mem) (k : Nat) : 8 + sumN (l.take k) + (tableB (l.take k)).length ≤ sizeN l := by
  have e : l = l.take k ++ l.drop k := (List.take_append_drop k l).symm
  have h1 : sumN l = sumN (l.take k) + sumN (l.drop k) := by rw [← sum_app, ← e]
  have h2 : (tableB l).length = (tableB (l.take k)).length + (tableB (l.drop k)).length := by rw [← List.length_append, ← table_app, ← e]
  unfold sizeN evenN
  split <;> omega
section
variable {l : List Mem} {nv : Value} {T : Nat → Prop} {w : World}
set_option maxRecDepth 100000 in
set_option maxHeartbeats 4000000 in
theorem size_calls (ht : MemsAt w nv l T) (hT : ∀ k, T k → k < w.heap.size) (hp : ∀ x ∈ l, x.name.length ≤ 140737488355328 ∧ x.data.length ≤ 1099511627776) (hl : l.length ≤ 4398046511104) :
    Calls Tryz.prog 23 #[nv] w fun e w' => ∃ n : Int, e = .returned (.int .i64 n) ∧ (65536 < n ↔ 65536 < sizeN l) ∧ Below w.heap.size w w' := by
  obtain ⟨ta, tc, hnv⟩ := ht.form
  subst hnv
  have kt := Lib.hid ht
  have kT := Lib.hid hT
  have kp := Lib.hid hp
  clear ht hT hp
  go_enter Tryz.func23, Tryz.ntmps23
  go_wp2
  go_loopw [3, 4, 6, 9] (fun nv2 tv _ iv wr => ∃ k n0 t0 : Nat, k ≤ l.length ∧ iv = .int .i64 k ∧ nv2 = .int .i64 n0 ∧ tv = .int .i64 t0 ∧ n0 = 8 + sumN (l.take k) ∧ t0 = (tableB (l.take k)).length ∧ n0 + t0 ≤ 65536 ∧ Below w.heap.size w wr) (fun _ _ _ iv _ => l.length - (intOf iv).toNat)
  case atStart => exact ⟨0, 8, 0, Nat.zero_le _, rfl, rfl, rfl, by simp [sumN], by simp [tableB], by omega, Below.refl _ _⟩
  case round =>
    obtain ⟨k, n0, t0, hk, rfl, rfl, rfl, hn0, ht0, htot, hB⟩ := hrel
    have kB := Lib.hid hB
    have kn0 := Lib.hid hn0
    have kt0 := Lib.hid ht0
    clear hB hn0 ht0
    by_cases hlt : k < l.length
    · obtain ⟨x, hx⟩ : ∃ x, l[k]? = some x := ⟨_, List.getElem?_eq_getElem hlt⟩
      have kx := Lib.hid hx
      obtain ⟨b, off, dv, hta, hTb, hbl, hc0, hc1, hc2, hdv⟩ := (kt.out.of_heap (w' := wr) (T' := T) (fun j hj => kB.out.block j (kT.out j hj)) (fun _ h => h)).at hx
      obtain ⟨da, dc, hdf⟩ := hdv.form
      subst hta hdf
      have hpx := kp.out x (List.mem_of_getElem? hx)
      have hms : (mk x.name).size = x.name.length := mk_size x.name
      have h1 := table_take hx
      have h2 := sum_take hx
      have hst := size_take l (k + 1)
      rw [h1, h2] at hst
      clear hTb hdv hx
      have kX := Lib.hid (heap_alloc_new wr (.cells #[.string (mk x.name), .int .i64 x.date, .slice da x.data.length dc] 37))
      have kBa := Lib.hid (show Below w.heap.size w (wr.alloc (.cells #[.string (mk x.name), .int .i64 x.date, .slice da x.data.length dc] 37)) from kB.out.trans ((below_al (Below.refl wr.heap.size wr)).mono kB.out.size))
      have hE := Lib.hid (fun w => even_calls x.data.length w (by omega))
      have hev : evenN x.data.length ≤ x.data.length + 1 := by unfold evenN; omega
      generalize evenN x.data.length = ev at *
      go_upto_region 6 with (fail)
      generalize wr.alloc (.cells #[.string (mk x.name), .int .i64 x.date, .slice da x.data.length dc] 37) = w1 at *
      obtain ⟨m0, m1, m2, -⟩ := cells3 kX.out
      have hml := heap_lt kX.out
      clear hc0 hc1 hc2 hbl
      have y1 : (k : Int) < (l.length : Int) := by omega
      obtain ⟨q, hq⟩ : ∃ q : Nat, q = 60 + ev := ⟨_, rfl⟩
      obtain ⟨n1, hn1⟩ : ∃ n1 : Nat, n1 = n0 + q := ⟨_, rfl⟩
      have e3 : IntKind.i64.wrap (60 + (ev : Int)) = (q : Int) := by rw [IntWalk.i64_in _ (by omega)]; omega
      have e4 : IntKind.i64.wrap ((n0 : Int) + (q : Int)) = (n1 : Int) := by rw [IntWalk.i64_in _ (by omega)]; omega
      have kh := Lib.hid (And.intro h1 (And.intro h2 (And.intro hst (And.intro hq hn1))))
      by_cases hnm : 15 < x.name.length
      · have y2 : (15 : Int) < (x.name.length : Int) := by omega
        obtain ⟨a2, ha2⟩ : ∃ a2 : Nat, a2 = x.name.length + 2 := ⟨_, rfl⟩
        obtain ⟨t1, ht1⟩ : ∃ t1 : Nat, t1 = t0 + a2 := ⟨_, rfl⟩
        obtain ⟨z, hz⟩ : ∃ z : Nat, z = n1 + t1 := ⟨_, rfl⟩
        have e1 : IntKind.i64.wrap ((x.name.length : Int) + 2) = (a2 : Int) := by rw [IntWalk.i64_in _ (by omega)]; omega
        have e2 : IntKind.i64.wrap ((t0 : Int) + (a2 : Int)) = (t1 : Int) := by rw [IntWalk.i64_in _ (by omega)]; omega
        have e5 : IntKind.i64.wrap ((n1 : Int) + (t1 : Int)) = (z : Int) := by rw [IntWalk.i64_in _ (by omega)]; omega
        have kz := Lib.hid (And.intro ha2 (And.intro ht1 hz))
        clear h1 h2 hst hq hn1 ha2 ht1 hz
        by_cases hbig : 65536 < z
        · have y3 : (65536 : Int) < (z : Int) := by omega
          go_wp2_with (go_at_call 38; refine (hE.out _).mono ?_; rintro e w2 ⟨rfl, rfl⟩)
          go_ret
          obtain ⟨h1, h2, hst, hq, hn1⟩ := kh.out
          obtain ⟨ha2, ht1, hz⟩ := kz.out
          have hn := kn0.out
          have ht := kt0.out
          rw [if_pos hnm] at h1 hst
          exact ⟨_, rfl, ⟨fun _ => by omega, fun _ => y3⟩, kBa.out⟩
        · have y3 : ¬ (65536 : Int) < (z : Int) := by omega
          go_wp2_with (go_at_call 38; refine (hE.out _).mono ?_; rintro e w2 ⟨rfl, rfl⟩)
          obtain ⟨h1, h2, hst, hq, hn1⟩ := kh.out
          obtain ⟨ha2, ht1, hz⟩ := kz.out
          have hn := kn0.out
          have ht := kt0.out
          rw [if_pos hnm] at h1 hst
          exact ⟨⟨k + 1, n1, t1, by omega, by go_num, rfl, rfl, by omega, by omega, by omega, kBa.out⟩, by simp [intOf]; omega⟩
      · have y2 : ¬ (15 : Int) < (x.name.length : Int) := by omega
        obtain ⟨z, hz⟩ : ∃ z : Nat, z = n1 + t0 := ⟨_, rfl⟩
        have e5 : IntKind.i64.wrap ((n1 : Int) + (t0 : Int)) = (z : Int) := by rw [IntWalk.i64_in _ (by omega)]; omega
        have kz := Lib.hid hz
        clear h1 h2 hst hq hn1 hz
        by_cases hbig : 65536 < z
        · have y3 : (65536 : Int) < (z : Int) := by omega
          go_wp2_with (go_at_call 38; refine (hE.out _).mono ?_; rintro e w2 ⟨rfl, rfl⟩)
          go_ret
          obtain ⟨h1, h2, hst, hq, hn1⟩ := kh.out
          have hz := kz.out
          have hn := kn0.out
          have ht := kt0.out
          rw [if_neg hnm] at h1 hst
          exact ⟨_, rfl, ⟨fun _ => by omega, fun _ => y3⟩, kBa.out⟩
        · have y3 : ¬ (65536 : Int) < (z : Int) := by omega
          go_wp2_with (go_at_call 38; refine (hE.out _).mono ?_; rintro e w2 ⟨rfl, rfl⟩)
          obtain ⟨h1, h2, hst, hq, hn1⟩ := kh.out
          have hz := kz.out
          have hn := kn0.out
          have ht := kt0.out
          rw [if_neg hnm] at h1 hst
          exact ⟨⟨k + 1, n1, t0, by omega, by go_num, rfl, rfl, by omega, by omega, by omega, kBa.out⟩, by simp [intOf]; omega⟩
    · have hkl : k = l.length := by omega
      have hn := kn0.out
      have ht := kt0.out
      rw [hkl, List.take_length] at hn ht
      have kz := Lib.hid (show sizeN l = 8 + sumN l + (if 0 < t0 then 60 + evenN t0 else 0) by unfold sizeN; rw [← ht])
      have hev : evenN t0 ≤ t0 + 1 := by unfold evenN; omega
      have hE := Lib.hid (fun w => even_calls t0 w (by omega))
      have y1 : ¬ (k : Int) < (l.length : Int) := by omega
      have khn := Lib.hid hn
      clear hkl hn ht
      generalize evenN t0 = ev at *
      by_cases h0 : 0 < t0
      · obtain ⟨q, hq⟩ : ∃ q : Nat, q = 60 + ev := ⟨_, rfl⟩
        obtain ⟨n1, hn1⟩ : ∃ n1 : Nat, n1 = n0 + q := ⟨_, rfl⟩
        have e3 : IntKind.i64.wrap (60 + (ev : Int)) = (q : Int) := by rw [IntWalk.i64_in _ (by omega)]; omega
        have e4 : IntKind.i64.wrap ((n0 : Int) + (q : Int)) = (n1 : Int) := by rw [IntWalk.i64_in _ (by omega)]; omega
        have y2 : (0 : Int) < (t0 : Int) := by omega
        have kq := Lib.hid (And.intro hq hn1)
        clear hq hn1
        go_wp2_with (go_at_call 38; refine (hE.out _).mono ?_; rintro e w2 ⟨rfl, rfl⟩)
        go_ret
        obtain ⟨hq, hn1⟩ := kq.out
        have hz := kz.out
        have hn := khn.out
        rw [if_pos h0] at hz
        exact ⟨_, rfl, ⟨fun _ => by omega, fun _ => by omega⟩, kB.out⟩
      · have y2 : ¬ (0 : Int) < (t0 : Int) := by omega
        go_wp2_with fail
        go_ret
        have hz := kz.out
        have hn := khn.out
        rw [if_neg h0] at hz
        exact ⟨_, rfl, ⟨fun _ => by omega, fun _ => by omega⟩, kB.out⟩
end
end Go.Proofs.YtnjagoglabllaaaGreatDoor
