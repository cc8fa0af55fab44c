/-
  SameMembers: of two lists of members. Conditions: at most 2^40 members.
-/
import Derived.Test.YtnjagoglabllaaaGreatDoorArMem
namespace Go.Proofs.YtnjagoglabllaaaGreatDoor
open Go.RowKit

/-- Are two lists of members one? -/
noncomputable def sameB (l m : List Mem) : Bool := @decide (l = m) (Classical.propDecidable _)
theorem sameB_true {l m : List Mem} (h : l = m) : sameB l m = true := @decide_eq_true _ (Classical.propDecidable _) h
theorem sameB_false {l m : List Mem} (h : ¬ l = m) : sameB l m = false := @decide_eq_false _ (Classical.propDecidable _) h
theorem sameB_iff {l m : List Mem} : sameB l m = true ↔ l = m := ⟨fun h => @of_decide_eq_true _ (Classical.propDecidable _) h, sameB_true⟩
theorem mk_str_ne {a b : Bs} (h : a ≠ b) : ((mk a).toList == (mk b).toList) = false := ba_ne (fun e => h (mk_inj e))
theorem mem_ext {x y : Mem} (h1 : x.name = y.name) (h2 : x.date = y.date) (h3 : x.data = y.data) : x = y := by
  cases x; cases y; simp_all
theorem bytes_drew {w : World} {v : Value} {d : Bs} {S : Nat → Prop} (h : BytesAt w v d S) (n : Nat) : (convert 26 9 v).run Tryz.prog (w.drewN n) = .ok (.string (mk d)) (w.drewN n) :=
  bytes_str (h.of_heap (w' := w.drewN n) (S' := S) (fun _ _ => rfl) (fun _ h => h))
section
variable {l m : List Mem} {n1 n2 : Value} {T1 T2 : Nat → Prop} {w : World}
set_option maxRecDepth 100000 in
set_option maxHeartbeats 8000000 in
theorem same_calls (h1 : MemsAt w n1 l T1) (h2 : MemsAt w n2 m T2) (hT1 : ∀ k, T1 k → k < w.heap.size) (hT2 : ∀ k, T2 k → k < w.heap.size) (hl : l.length ≤ 1099511627775) (hm : m.length ≤ 1099511627775) :
    Calls Tryz.prog 17 #[n1, n2] w fun e w' => e = .returned (.bool (sameB l m)) ∧ Below w.heap.size w w' := by
  obtain ⟨a1, k1, e1⟩ := h1.form
  obtain ⟨a2, k2, e2⟩ := h2.form
  subst e1 e2
  have kh1 := Lib.hid h1
  have kh2 := Lib.hid h2
  have kT1 := Lib.hid hT1
  have kT2 := Lib.hid hT2
  clear h1 h2 hT1 hT2
  go_enter Tryz.func17, Tryz.ntmps17
  by_cases g3 : l.length = m.length
  · have kml := Lib.hid g3.symm
    rw [← g3]
    clear g3 hm
    go_wp2_with fail
    go_loopw [5] (fun iv wr => ∃ k : Nat, k ≤ l.length ∧ iv = .int .i64 k ∧ l.take k = m.take k ∧ Below w.heap.size w wr) (fun iv _ => l.length - (intOf iv).toNat)
    case atStart => exact ⟨0, Nat.zero_le _, rfl, rfl, Below.refl _ _⟩
    case round =>
      obtain ⟨k, hk, rfl, hsm, hB⟩ := hrel
      have ksm := Lib.hid hsm
      have kB := Lib.hid hB
      clear hsm hB
      by_cases hlt : k < l.length
      · obtain ⟨x, hx⟩ : ∃ x, l[k]? = some x := ⟨_, List.getElem?_eq_getElem hlt⟩
        obtain ⟨y, hy⟩ : ∃ y, m[k]? = some y := ⟨_, List.getElem?_eq_getElem (by have := kml.out; omega)⟩
        obtain ⟨b1, o1, d1, e1, -, hl1, p0, p1, p2, hd1⟩ := (kh1.out.of_heap (w' := wr) (T' := T1) (fun j hj => kB.out.block j (kT1.out j hj)) (fun _ h => h)).at hx
        obtain ⟨b2, o2, d2, e2, -, hl2, q0, q1, q2, hd2⟩ := (kh2.out.of_heap (w' := wr) (T' := T2) (fun j hj => kB.out.block j (kT2.out j hj)) (fun _ h => h)).at hy
        subst e1 e2
        have hcv1 := bytes_drew hd1
        have hcv2 := bytes_drew hd2
        have kx := Lib.hid hx
        have ky := Lib.hid hy
        have kne := Lib.hid (show x ≠ y → ¬ l = m from fun hne e => by subst e; rw [hx] at hy; injection hy with hy; exact hne hy)
        have y0 : (k : Int) < (l.length : Int) := by omega
        clear hx hy hd1 hd2
        by_cases g4 : x.name = y.name
        · by_cases g5 : x.date = y.date
          · by_cases g6 : x.data = y.data
            · rw [g4] at p0
              rw [g5] at p1
              rw [g6] at hcv1
              have kxy := Lib.hid (mem_ext g4 g5 g6)
              clear g4 g5 g6
              have f1 : ((mk y.name).toList == (mk y.name).toList) = true := beq_self_eq_true _
              have f2 : ((mk y.data).toList == (mk y.data).toList) = true := beq_self_eq_true _
              go_wp2_with fail
              go_quiet (fail)
              go_wp2_with fail
              refine ⟨⟨k + 1, by omega, by go_num, ?_, below_drewN' kB.out nq⟩, by simp [intOf]; omega⟩
              rw [take_more kx.out, take_more ky.out, ksm.out, kxy.out]
            · rw [g4] at p0
              rw [g5] at p1
              have kn := Lib.hid (kne.out (fun e => g6 (by rw [e])))
              have f1 : ((mk y.name).toList == (mk y.name).toList) = true := beq_self_eq_true _
              have f2 := mk_str_ne g6
              clear g4 g5 g6
              go_wp2_with fail
              go_quiet (fail)
              go_wp2_with fail
              go_ret
              exact ⟨by rw [sameB_false kn.out]; rfl, below_drewN' kB.out nq⟩
          · rw [g4] at p0
            have kn := Lib.hid (kne.out (fun e => g5 (by rw [e])))
            have f1 : ((mk y.name).toList == (mk y.name).toList) = true := beq_self_eq_true _
            have f3 : (x.date == y.date) = false := by simpa using g5
            clear g4
            go_wp2_with fail
            go_quiet (fail)
            go_wp2_with fail
            go_ret
            exact ⟨by rw [sameB_false kn.out]; rfl, below_drewN' kB.out nq⟩
        · have kn := Lib.hid (kne.out (fun e => g4 (by rw [e])))
          have f1 := mk_str_ne g4
          clear g4
          go_wp2_with fail
          go_quiet (fail)
          go_wp2_with fail
          go_ret
          exact ⟨by rw [sameB_false kn.out]; rfl, below_drewN' kB.out nq⟩
      · have hkl : k = l.length := by omega
        have y0 : ¬ (k : Int) < (l.length : Int) := by omega
        have ke := Lib.hid (show l = m by
          have := ksm.out
          rw [hkl, List.take_length, ← kml.out, List.take_length] at this
          exact this)
        clear hkl
        go_wp2_with fail
        go_ret
        exact ⟨by rw [sameB_true ke.out]; rfl, kB.out⟩
  · have g3' : ¬ (l.length : Int) = m.length := by omega
    have kne := Lib.hid (show ¬ l = m from fun e => g3 (by rw [e]))
    clear g3
    go_wp2_with fail
    all_goals first
      | (go_ret; exact ⟨by rw [sameB_false kne.out]; rfl, Below.refl _ _⟩)
      | omega
end
end Go.Proofs.YtnjagoglabllaaaGreatDoor
