/-
  The reference's New: its number is rightP, its file system has the tree's nodes. Conditions: paths of at most 2^31 bytes, data of at most 2^40 bytes.
-/
import Derived.Test.YtejofgdglpmlkaaGreatDoorM16
import Derived.Deep.CutRange
import Derived.Deep.DeepCutAuto
import Derived.Deep.CutBlock
namespace Go.Proofs.YtejofgdglpmlkaaGreatDoor
open Go.RowKit

/-- A file system of the reference's own. -/
def RefIs (w : World) (B : Nat) (v : Value) (l : St) (clock room : Int) : Prop :=
  ∃ fb fv L, v = .pointer (some ⟨fb, 0, none⟩) ∧ B ≤ fb ∧ fb < w.heap.size ∧ w.heap[fb]? = some (.cells #[fv, .int .i64 clock, .int .i64 room] 62 (0, 0)) ∧ L.map NV.nd = l ∧ NodesOwn w (fb + 1) fv L
section
variable {l : St} {clock room : Int} {nv : Value} {T : Nat → Prop} {w : World}
set_option maxRecDepth 100000 in
set_option maxHeartbeats 8000000 in
theorem refNew_calls (ht : TreeAt w nv l T) (hT : ∀ k, T k → k < w.heap.size) (hp : ∀ x ∈ l, x.1.length ≤ 2147483647) (hd : ∀ x ∈ l, x.2.data.length ≤ 1099511627776) :
    Calls Tryz.prog 11 #[.agg #[nv, .int .i64 clock, .int .i64 room]] w fun e w' => ∃ v, e = .returned (.tuple #[v, .int .i64 (rightP l clock room)]) ∧ Below w.heap.size w w' ∧ (rightP l clock room = 0 → RefIs w' w.heap.size v l clock room) := by
  obtain ⟨ta, tc, hnv⟩ := ht.form
  subst hnv
  have kt := Lib.hid ht
  have kT := Lib.hid hT
  have kp := Lib.hid hp
  have kd := Lib.hid hd
  clear ht hT hp hd
  by_cases h1 : 1000 < l.length
  · have kf := Lib.hid (show rightP l clock room = 2 by unfold rightP; rw [if_pos h1])
    go_enter Tryz.func11, Tryz.ntmps11
    go_wp2
    go_ret2
    rw [kf.out]
    exact ⟨_, rfl, below_al (Below.refl _ _), fun h => by cases h⟩
  have h1' : l.length ≤ 1000 := by omega
  clear h1
  go_enter Tryz.func11, Tryz.ntmps11
  go_wp2
  have kB1 := Lib.hid (show BoxT w (w.alloc (.cells #[.slice ta l.length tc, .int .i64 clock, .int .i64 room] 24 (0, 0))) (.slice ta l.length tc) clock room from ⟨heap_alloc_new _ _, below_al (Below.refl _ _)⟩)
  go_loopw [4] (fun kv wr => ∃ k : Nat, k ≤ l.length ∧ kv = .int .i64 k ∧ (l.take k).any longN = false ∧ BoxT w wr (.slice ta l.length tc) clock room) (fun kv _ => l.length - (intOf kv).toNat)
  case atStart => exact ⟨0, Nat.zero_le _, rfl, rfl, kB1.out⟩
  case round =>
    obtain ⟨k, hk, rfl, hall, hB⟩ := hrel
    have kall := Lib.hid hall
    have kB := Lib.hid hB
    obtain ⟨hbx0, hbx1, hbx2⟩ := hB.cell
    have hbxl := heap_lt hB.1
    clear hall hB
    by_cases hlt : k < l.length
    · obtain ⟨x, hx⟩ : ∃ x, l[k]? = some x := ⟨_, List.getElem?_eq_getElem hlt⟩
      have kx := Lib.hid hx
      obtain ⟨b, off, dv, hta, hTb, hbl, hc0, hc1, hc2, hc3, hdv⟩ := (kt.out.of_heap (w' := wr) (T' := T) (fun j hj => kB.out.2.block j (kT.out j hj)) (fun _ h => h)).at hx
      obtain ⟨da, dc, hdf⟩ := hdv.form
      subst hta hdf
      clear hTb hdv hx
      have hdl := kd.out x (List.mem_of_getElem? kx.out)
      have hat := any_take kx.out
      generalize hxd : x.2.dir = xd at *
      have kxd := Lib.hid hxd
      clear hxd
      cases xd with
      | true =>
        go_wp2
        exact ⟨⟨k + 1, by omega, by go_num, by rw [hat, kall.out]; unfold longN; rw [kxd.out]; rfl, kB.out⟩, by simp [intOf]; omega⟩
      | false =>
        by_cases hlong : (65536 : Int) < x.2.data.length
        · have kf := Lib.hid (show rightP l clock room = 2 by
            unfold rightP
            rw [if_neg (by omega), if_pos (any_of (List.mem_of_getElem? kx.out) (by unfold longN; rw [kxd.out]; simp; omega))])
          go_wp2
          go_ret2
          rw [kf.out]
          exact ⟨_, rfl, kB.out.2, fun h => by cases h⟩
        · go_wp2
          exact ⟨⟨k + 1, by omega, by go_num, by rw [hat, kall.out]; unfold longN; rw [kxd.out]; simp; omega, kB.out⟩, by simp [intOf]; omega⟩
    · have hkl : k = l.length := by omega
      subst hkl
      have kal := Lib.hid (show l.any longN = false by have := kall.out; rwa [List.take_length] at this)
      rw [List.take_length] at *
      clear kall hlt hk
      have hbad : badArg clock room = true → rightP l clock room = 1 := fun h => by unfold rightP; rw [if_neg (by omega), if_neg (by rw [kal.out]; simp), if_pos h]
      have kbad := Lib.hid hbad
      clear hbad
      by_cases g1 : clock < 0
      · have kf := Lib.hid (kbad.out (by unfold badArg; simp [g1]))
        go_wp2
        go_ret2
        rw [kf.out]
        exact ⟨_, rfl, kB.out.2, fun h => by cases h⟩
      by_cases g3 : room < 0
      · have kf := Lib.hid (kbad.out (by unfold badArg; simp [g3]))
        go_wp2
        go_ret2
        rw [kf.out]
        exact ⟨_, rfl, kB.out.2, fun h => by cases h⟩
      by_cases g2 : 1099511627776 < clock
      · have kf := Lib.hid (kbad.out (by unfold badArg; simp [g2]))
        go_wp2
        go_ret2
        rw [kf.out]
        exact ⟨_, rfl, kB.out.2, fun h => by cases h⟩
      by_cases g4 : 1048576 < room
      · have kf := Lib.hid (kbad.out (by unfold badArg; simp [g4]))
        go_wp2
        go_ret2
        rw [kf.out]
        exact ⟨_, rfl, kB.out.2, fun h => by cases h⟩
      have hgood : ∀ n : Int, (if okFrom clock [] l = false then 1 else if room < wt l then 15 else 0) = n → rightP l clock room = n := fun n h => by
        unfold rightP; rw [if_neg (by omega), if_neg (by rw [kal.out]; simp), if_neg (by unfold badArg; simp; omega)]; exact h
      have kgood := Lib.hid hgood
      clear hgood kbad kal
      go_wp2
      have kB2 := Lib.hid (kB.out.below (below_al (o := .cells #[.slice none 0 0, .int .i64 clock, .int .i64 room] 62) (Below.refl wr.heap.size wr)))
      have kc2 := Lib.hid (heap_alloc_new wr (.cells #[.slice none 0 0, .int .i64 clock, .int .i64 room] 62))
      have hz2 : (wr.alloc (.cells #[.slice none 0 0, .int .i64 clock, .int .i64 room] 62)).heap.size = wr.heap.size + 1 := by simp
      have hfbw := kB.out.2.size
      clear hbx0 hbx1 hbx2
      generalize wr.alloc (.cells #[.slice none 0 0, .int .i64 clock, .int .i64 room] 62) = w2 at *
      generalize wr.heap.size = fb at *
      have kR0 := Lib.hid (show RInv w2 fb l clock room 0 (.slice none 0 0) [] w2 from ⟨Kept.refl _ _, kc2.out, rfl, NodesOwn.nil _ _⟩)
      have kB20 := Lib.hid (Below.refl w2.heap.size w2)
      clear kc2
      go_loopw [6, 7, 8, 9, 10] (fun iv _ _ _ _ wr => ∃ (k : Nat) (fv : Value) (L : List NV), k ≤ l.length ∧ iv = .int .i64 k ∧ okAll clock l k ∧ RInv w2 fb l clock room k fv L wr) (fun iv _ _ _ _ _ => l.length - (intOf iv).toNat)
      case atStart => exact ⟨0, _, [], Nat.zero_le _, rfl, fun j x h => absurd h (Nat.not_lt_zero _), kR0.out⟩
      case round =>
        obtain ⟨k, fv, L, hk, rfl, hok, hI⟩ := hrel
        have kok := Lib.hid hok
        obtain ⟨fa, fc, hfv⟩ := hI.tree.form
        have hLk : (l.take k).length = k := by rw [List.length_take]; omega
        rw [hLk] at hfv
        subst hfv
        have kLk := Lib.hid hLk
        have kLl := Lib.hid (show L.length = k by have := congrArg List.length hI.hL; rw [List.length_map, hLk] at this; exact this)
        clear hLk
        have kI := Lib.hid hI
        have kBk := Lib.hid (show BoxT w wr (.slice ta l.length tc) clock room from ⟨(hI.kept.block _ (heap_lt kB2.out.1) (by omega)).trans kB2.out.1, kB2.out.2.trans ⟨hI.kept.os, hI.kept.tape, hI.kept.output, hI.kept.size, fun j hj => hI.kept.block j (by omega) (by omega)⟩⟩)
        obtain ⟨hb0, hb1, hb2⟩ := kBk.out.cell
        have hbl0 := heap_lt kBk.out.1
        clear hok hI
        by_cases hlt : k < l.length
        · obtain ⟨x, hx⟩ : ∃ x, l[k]? = some x := ⟨_, List.getElem?_eq_getElem hlt⟩
          have kx := Lib.hid hx
          obtain ⟨b, off, dv, hta, hTb, hbl, hc0, hc1, hc2, hc3, hdv⟩ := (kt.out.of_heap (w' := wr) (T' := T) (fun j hj => kBk.out.2.block j (kT.out j hj)) (fun _ h => h)).at hx
          obtain ⟨da, dc, hdf⟩ := hdv.form
          subst hta hdf
          have kTb := Lib.hid hTb
          have kdv := Lib.hid hdv
          have hps := kp.out x (List.mem_of_getElem? kx.out)
          have hdl := kd.out x (List.mem_of_getElem? kx.out)
          have hV := Lib.hid (fun w => refValid_calls (mk x.1) w (by rw [mk_size]; exact hps))
          rw [mk_list] at hV
          clear hTb hdv hx
          go_upto_region 16 with (go_at_call 29; refine (hV.out _).mono ?_; rintro e w3 ⟨rfl, hb3⟩; have kb3 := Lib.hid hb3; clear hb3)
          have kX1 := Lib.hid (heap_alloc_new wr (.cells #[.string (mk x.1), .bool x.2.dir, .int .i64 x.2.time, .slice da x.2.data.length dc] 54))
          have kW1 := Lib.hid (below_al (o := .cells #[.string (mk x.1), .bool x.2.dir, .int .i64 x.2.time, .slice da x.2.data.length dc] 54) (Below.refl wr.heap.size wr))
          have kX3 := Lib.hid ((kb3.out.block _ (heap_lt kX1.out)).trans kX1.out)
          have kW3 := Lib.hid (kW1.out.trans (kb3.out.mono kW1.out.size))
          clear kX1 kW1 kb3
          have kB3 := Lib.hid (kBk.out.below kW3.out)
          obtain ⟨hb0, hb1, hb2⟩ := kB3.out.cell
          have hbl0 := heap_lt kB3.out.1
          obtain ⟨n0, n1, n2, n3, -⟩ := cells4 kX3.out
          have hnl := heap_lt kX3.out
          clear hc0 hc1 hc2 hc3
          go_cut [8, 122] from 63 to 159 (fun _ c wx => c = .bool (refBad clock (l.take k) x) ∧ ∃ n, wx = w3.drewN n)
          case first =>
            cases hv : validB x.1 with
            | false =>
              have kf := Lib.hid (refBad_path (clock := clock) (pathOk_v (pre := l.take k) hv))
              clear hv
              go_quiet (fail)
              go_wp2
              go_meet
              case rel => exact ⟨by rw [kf.out], _, rfl⟩
            | true =>
              by_cases t2 : x.1 = []
              · have kf := Lib.hid (refBad_path (clock := clock) (pathOk_e (pre := l.take k) t2))
                have hQe : (mk x.1).toList.isEmpty = true := by rw [Go.Lib.toList_data, mk_list, t2]; rfl
                clear t2 hv
                go_quiet (fail)
                go_wp2
                go_meet
                case rel => exact ⟨by rw [kf.out], _, rfl⟩
              · have hQe := mk_isEmpty t2
                generalize hxd : x.2.dir = xd at *
                have kxd := Lib.hid hxd
                clear hxd
                by_cases hk0 : 0 < k
                · obtain ⟨y, hy⟩ : ∃ y, l[k - 1]? = some y := ⟨_, List.getElem?_eq_getElem (by omega)⟩
                  have hlast := Lib.hid (show (l.take k).getLast? = some y by have := last_take hy; rwa [show k - 1 + 1 = k by omega] at this)
                  have hpc : w3.cell? ⟨b, off + (k - 1) * 4, none⟩ = some (.string (mk y.1)) := by
                    obtain ⟨b', off', dv', e, _, _, h, _⟩ := ((kt.out.of_heap (T' := T) (fun j hj => kB3.out.2.block j (kT.out j hj)) (fun _ h => h)).at hy)
                    injection e with e; injection e with e1 e2
                    subst e1 e2
                    exact h
                  have hwj : IntKind.i64.wrap ((k : Int) - 1) = ((k - 1 : Nat) : Int) := by rw [IntWalk.i64_in _ (by omega)]; omega
                  have hwk : (k : Int) - 1 = ((k - 1 : Nat) : Int) := by omega
                  have hj0 : (0 : Int) ≤ ((k - 1 : Nat) : Int) := by omega
                  have hj1 : ((k - 1 : Nat) : Int) < l.length := by omega
                  have hk1 : (0 : Int) < (k : Int) := by omega
                  clear hy
                  by_cases t3 : y.1 < x.1
                  · have hlt3 : Op.bytesLess (mk y.1).toList (mk x.1).toList = true := less_mk t3
                    have kpo := Lib.hid (pathOk_of (pre := l.take k) hv t2 (fun z hz => by rw [hlast.out] at hz; injection hz with hz; subst hz; exact t3))
                    clear hv t2 t3
                    by_cases t6 : x.2.time < 0
                    · have kf := Lib.hid (refBad_neg (clock := clock) (pre := l.take k) t6)
                      have d6 : decide (x.2.time < 0) = true := by simpa using t6
                      go_quiet (fail)
                      go_wp2
                      go_meet
                      case rel => exact ⟨by rw [kf.out], _, rfl⟩
                    · have d6 : decide (x.2.time < 0) = false := by simpa using t6
                      by_cases t7 : clock < x.2.time
                      · have kf := Lib.hid (refBad_late (pre := l.take k) t7)
                        have d7 : decide (clock < x.2.time) = true := by simpa using t7
                        go_quiet (fail)
                        go_wp2
                        go_meet
                        case rel => exact ⟨by rw [kf.out], _, rfl⟩
                      · have d7 : decide (clock < x.2.time) = false := by simpa using t7
                        cases xd with
                        | true =>
                          by_cases t5 : 0 < x.2.data.length
                          · have kf := Lib.hid (refBad_data (clock := clock) (pre := l.take k) kxd.out t5)
                            have d5 : decide ((0 : Int) < (x.2.data.length : Int)) = true := decide_eq_true (by omega)
                            go_quiet (fail)
                            go_wp2
                            go_meet
                            case rel => exact ⟨by rw [kf.out], _, rfl⟩
                          · have kf := Lib.hid (refBad_fine (clock := clock) kpo.out t6 t7 (fun _ => Nat.le_zero.1 (Nat.not_lt.1 t5)))
                            have d5 : decide ((0 : Int) < (x.2.data.length : Int)) = false := decide_eq_false (by omega)
                            go_quiet (fail)
                            go_wp2
                            go_meet
                            case rel => exact ⟨by rw [kf.out], _, rfl⟩
                        | false =>
                          have kf := Lib.hid (refBad_fine (clock := clock) kpo.out t6 t7 (fun e => by rw [kxd.out] at e; cases e))
                          go_quiet (fail)
                          go_wp2
                          go_meet
                          case rel => exact ⟨by rw [kf.out], _, rfl⟩
                  · have hlt3 : Op.bytesLess (mk y.1).toList (mk x.1).toList = false := more_mk t3
                    have kf := Lib.hid (refBad_path (clock := clock) (pathOk_l hlast.out t3))
                    clear hv t2 t3
                    go_quiet (fail)
                    go_wp2
                    go_meet
                    case rel => exact ⟨by rw [kf.out], _, rfl⟩
                · have hk1 : ¬ (0 : Int) < (k : Int) := by omega
                  have kpo := Lib.hid (pathOk_of (pre := l.take k) hv t2 (fun z hz => by rw [show k = 0 by omega] at hz; simp at hz))
                  clear hv t2
                  by_cases t6 : x.2.time < 0
                  · have kf := Lib.hid (refBad_neg (clock := clock) (pre := l.take k) t6)
                    have d6 : decide (x.2.time < 0) = true := by simpa using t6
                    go_quiet (fail)
                    go_wp2
                    go_meet
                    case rel => exact ⟨by rw [kf.out], _, rfl⟩
                  · have d6 : decide (x.2.time < 0) = false := by simpa using t6
                    by_cases t7 : clock < x.2.time
                    · have kf := Lib.hid (refBad_late (pre := l.take k) t7)
                      have d7 : decide (clock < x.2.time) = true := by simpa using t7
                      go_quiet (fail)
                      go_wp2
                      go_meet
                      case rel => exact ⟨by rw [kf.out], _, rfl⟩
                    · have d7 : decide (clock < x.2.time) = false := by simpa using t7
                      cases xd with
                      | true =>
                        by_cases t5 : 0 < x.2.data.length
                        · have kf := Lib.hid (refBad_data (clock := clock) (pre := l.take k) kxd.out t5)
                          have d5 : decide ((0 : Int) < (x.2.data.length : Int)) = true := decide_eq_true (by omega)
                          go_quiet (fail)
                          go_wp2
                          go_meet
                          case rel => exact ⟨by rw [kf.out], _, rfl⟩
                        · have kf := Lib.hid (refBad_fine (clock := clock) kpo.out t6 t7 (fun _ => Nat.le_zero.1 (Nat.not_lt.1 t5)))
                          have d5 : decide ((0 : Int) < (x.2.data.length : Int)) = false := decide_eq_false (by omega)
                          go_quiet (fail)
                          go_wp2
                          go_meet
                          case rel => exact ⟨by rw [kf.out], _, rfl⟩
                      | false =>
                        have kf := Lib.hid (refBad_fine (clock := clock) kpo.out t6 t7 (fun e => by rw [kxd.out] at e; cases e))
                        go_quiet (fail)
                        go_wp2
                        go_meet
                        case rel => exact ⟨by rw [kf.out], _, rfl⟩
          case rest =>
            obtain ⟨rfl, n, rfl⟩ := hcut
            have hdd := below_drewN' (Below.refl w3.heap.size w3) n
            have kX4 := Lib.hid ((hdd.block _ (heap_lt kX3.out)).trans kX3.out)
            have kW4 := Lib.hid (kW3.out.trans (hdd.mono kW3.out.size))
            clear hdd n0 n1 n2 n3 hb0 hb1 hb2 hnl hbl0 kX3 kW3 kB3
            generalize w3.drewN n = w4 at *
            obtain ⟨n0, -⟩ := cells4 kX4.out
            have hnl := heap_lt kX4.out
            cases hb : refBad clock (l.take k) x with
            | true =>
              have kf := Lib.hid (kgood.out 1 (by rw [if_pos (kok.out.bad kx.out (refBad_not hb))]))
              have kbb := Lib.hid (kBk.out.below kW4.out).2
              clear hb
              go_wp2
              go_ret2
              rw [kf.out]
              exact ⟨_, rfl, kbb.out, fun h => by cases h⟩
            | false =>
              have kn := Lib.hid hb
              clear hb
              have hP := Lib.hid (refParent_calls (mk x.1) w4 (by rw [mk_size]; omega))
              rw [mk_list] at hP
              have hA := Lib.hid (fun (W : World) (h : Below w4.heap.size w4 W) => refAt_calls' kLk.out (kI.out.on (kW4.out.trans (h.mono kW4.out.size))).hc (kI.out.on (kW4.out.trans (h.mono kW4.out.size))).tree (kok.out.rising hk) (parentP x.1) (by rw [kLk.out]; omega))
              go_upto_region 20 with (first | (go_at_call 30; refine (hP.out).mono ?_; rintro e w5 ⟨rfl, hb5⟩; have kb5 := Lib.hid hb5; clear hb5) | (go_at_call 31; refine (hA.out _ kb5.out).mono ?_; rintro e w9 ⟨q, rfl, hq, rfl⟩; have kq := Lib.hid hq; clear hq))
              have kW5 := Lib.hid (kW4.out.trans (kb5.out.mono kW4.out.size))
              have kX5 := Lib.hid ((kb5.out.block _ (heap_lt kX4.out)).trans kX4.out)
              have kI5 := Lib.hid (kI.out.on kW5.out)
              clear n0 hnl kX4 kW4 hP hA
              obtain ⟨f0, -⟩ := cells3 kI5.out.hc
              have hfl5 := heap_lt kI5.out.hc
              go_cut [145] from 63 to 159 (fun c wx => c = .bool (!isDirB (l.take k) (parentP x.1)) ∧ wx = w5)
              case first =>
                by_cases u1 : parentP x.1 = []
                · have hue : (mk (parentP x.1)).toList.isEmpty = true := by rw [Go.Lib.toList_data, mk_list, u1]; rfl
                  have kf := Lib.hid (dir_root (l.take k) u1)
                  clear u1
                  go_wp2
                  go_meet
                  case rel => exact ⟨by rw [kf.out]; rfl, rfl⟩
                · have hue := mk_isEmpty u1
                  rcases kq.out with ⟨hq1, hq2⟩ | ⟨j, y, hq1, hq2, hq3⟩
                  · have kf := Lib.hid (dir_none u1 hq2)
                    have hq0 : q < 0 := by omega
                    clear u1 hq1 hq2
                    go_wp2
                    go_meet
                    case rel => exact ⟨by rw [kf.out]; rfl, rfl⟩
                  · have kf := Lib.hid (dir_at u1 (kok.out.rising hk) hq2 hq3)
                    have hjk : j < k := by have := (List.getElem?_eq_some_iff.1 hq2).1; have := kLk.out; omega
                    obtain ⟨g, off5, dv5, hga, -, hgl, -, hd1, -⟩ := kI5.out.tree.at hq2
                    subst hga
                    subst hq1
                    have hj0 : (0 : Int) ≤ (j : Int) := by omega
                    have hj1 : (j : Int) < (k : Int) := by omega
                    clear u1 hq2 hq3
                    generalize hyd : y.2.dir = yd at *
                    clear hyd
                    cases yd with
                    | true =>
                      go_wp2
                      go_meet
                      case rel => exact ⟨by rw [kf.out]; rfl, rfl⟩
                    | false =>
                      go_wp2
                      go_meet
                      case rel => exact ⟨by rw [kf.out]; rfl, rfl⟩
              case rest =>
                obtain ⟨rfl, rfl⟩ := hcut
                cases hD : isDirB (l.take k) (parentP x.1) with
                | false =>
                  have kf := Lib.hid (kgood.out 1 (by rw [if_pos (kok.out.bad kx.out (refBad_dir hD))]))
                  have kbb := Lib.hid (kBk.out.below kW5.out).2
                  clear hD
                  go_wp2
                  go_ret2
                  rw [kf.out]
                  exact ⟨_, rfl, kbb.out, fun h => by cases h⟩
                | true =>
                have kon := Lib.hid (refBad_ok kn.out hD)
                clear hD
                have kdv5 := Lib.hid (kdv.out.of_heap (w' := wc) (fun j hj => kW5.out.block j (by have := kT.out j hj; have := kBk.out.2.size; omega)) (fun _ h => h))
                obtain ⟨-, -, -, n3, nf⟩ := cells4 kX5.out
                have hnl5 := heap_lt kX5.out
                go_upto_region 23 with (at_builtin; refine wpList_append_bytes _ rfl _ _ rfl wc.heap.size (.slice none 0 0) [] rfl (World.ownsRow_nil _ _ _ _) (.slice da x.2.data.length dc) x.2.data T rfl kdv5.out (by simp; omega) (Nat.le_refl _) ?_; intro a6 c6 w6 ho6 hg6; have kR := Lib.hid (rnode_bytes (row := .slice a6 x.2.data.length c6) kI.out kW5.out kX5.out rfl ho6 hg6); have kX6 := Lib.hid ((hg6.block wr.heap.size (heap_lt kX5.out) (by simp [Value.ownBlock])).trans kX5.out); obtain ⟨-, -, -, q63, hf6⟩ := cells4 kX6.out; have hf63 := hf6 3; have hl6 := heap_lt kX6.out; clear ho6 hg6 hf6)
                have kI7 := Lib.hid kR.out.1
                have kF := Lib.hid (rnode_facts (by omega) kR.out.1 kR.out.2.1 kR.out.2.2.1 kR.out.2.2.2.1)
                generalize hW7 : w6.setCell ⟨wr.heap.size, 3, none⟩ (.slice a6 x.2.data.length c6) = W7 at *
                refine lbegin 10 (RHeld fb wr.heap.size (.slice fa k fc) x (.slice a6 x.2.data.length c6)) (by kernel_rfl) ?_
                refine ltake 10 0 (some 150) ?_ rfl kF.out.1 (by rfl) (fun w' hw => ?_) ?_
                rotate_left 1
                · obtain ⟨p0, p1, p2, p3, p4⟩ := hw; go_simp; first | done | with_reducible rfl
                try simp only [pz0, pz1, pz2, pz3]
                refine ltake 10 1 (some 151) ?_ rfl kF.out.1 (by rfl) (fun w' hw => ?_) ?_
                rotate_left 1
                · obtain ⟨p0, p1, p2, p3, p4⟩ := hw; go_simp; first | done | with_reducible rfl
                try simp only [pz0, pz1, pz2, pz3]
                refine ltake 10 2 (some 152) ?_ rfl kF.out.1 (by rfl) (fun w' hw => ?_) ?_
                rotate_left 1
                · obtain ⟨p0, p1, p2, p3, p4⟩ := hw; go_simp; first | done | with_reducible rfl
                try simp only [pz0, pz1, pz2, pz3]
                refine ltake 10 3 (some 153) ?_ rfl kF.out.1 (by rfl) (fun w' hw => ?_) ?_
                rotate_left 1
                · obtain ⟨p0, p1, p2, p3, p4⟩ := hw; go_simp; first | done | with_reducible rfl
                try simp only [pz0, pz1, pz2, pz3]
                refine ltake 10 4 (some 154) ?_ rfl kF.out.1 (by rfl) (fun w' hw => ?_) ?_
                rotate_left 1
                · obtain ⟨p0, p1, p2, p3, p4⟩ := hw; go_simp; first | done | with_reducible rfl
                try simp only [pz0, pz1, pz2, pz3]
                refine ltake 10 5 (some 155) ?_ rfl kF.out.1 (by rfl) (fun w' hw => ?_) ?_
                rotate_left 1
                · obtain ⟨p0, p1, p2, p3, p4⟩ := hw; go_simp; first | done | with_reducible rfl
                try simp only [pz0, pz1, pz2, pz3]
                refine lready (rs := [6]) (by kernel_rfl) (by simp) (lcons rfl (fun K hK => ?_) (lnil))
                rw [if_pos (by rfl)]
                go_simp
                refine hK.out _ _ (fun _ => kF.out.2.1) (fun hH1 => ?_)
                clear hK K
                try simp only [pz0, pz1, pz2, pz3]
                refine lready (rs := [7]) (by kernel_rfl) (by simp) (lcons rfl (fun K hK => ?_) (lnil))
                refine step_append_node (by rfl) _ _ (by rfl) w2.heap.size (.slice fa k fc) L (by rfl) kF.out.2.2.1 (NV.make x.1 x.2 (.slice a6 x.2.data.length c6)) ⟨W7.heap.size, 0, none⟩ 1 (by rfl) kF.out.2.2.2.1 kF.out.2.2.2.2.1 (by have := kLl.out; omega) kF.out.2.2.2.2.2.1 ?_
                intro a8 m8 c8 w8 hm8 h8 hg8
                have k8 := Lib.hid h8
                have kg8 := Lib.hid hg8
                have kF8 := Lib.hid (kF.out.2.2.2.2.2.2.2 w8 hg8)
                refine hK.out _ _ (fun _ => kF8.out.1) (fun hH2 => ?_)
                clear hK K h8 hg8
                try simp only [pz0, pz1, pz2, pz3]
                obtain ⟨s0, s1, s2, sf⟩ := cells3 kF8.out.2
                have sf0 := sf 0
                have hl8 := heap_lt kF8.out.2
                clear s1 s2 sf
                refine lready (rs := [8]) (by kernel_rfl) (by simp) (lcons rfl (fun K hK => ?_) (lnil))
                rw [if_pos (by rfl)]
                go_simp
                refine hK.out _ _ (fun _ => kF8.out.1) (fun hH8 => ?_)
                clear hK K
                try simp only [pz0, pz1, pz2, pz3]
                refine lready (rs := [9]) (by kernel_rfl) (by simp) (lcons rfl (fun K hK => ?_) (lnil))
                rw [if_pos (by rfl)]
                go_simp
                refine hK.out _ _ (fun _ => kF8.out.1) (fun hH9 => ?_)
                clear hK K
                try simp only [pz0, pz1, pz2, pz3]
                refine lready (rs := [10]) (by kernel_rfl) (by simp) (lcons rfl (fun K hK => ?_) (lnil))
                rw [if_pos (by rfl)]
                go_simp
                refine hK.out _ _ (fun h => absurd rfl h) (fun _ => ?_)
                clear hK K
                refine ldone (by kernel_rfl) ?_ _
                go_wp2_with fail
                exact ⟨⟨k + 1, _, _, by omega, by go_num, kok.out.next kx.out kon.out, RInv.next (by omega) kI7.out kx.out kF.out.2.2.2.2.2.2.1 k8.out kg8.out⟩, by simp [intOf]; omega⟩
        · have hkl : k = l.length := by omega
          subst hkl
          have hokF := kok.out.all
          have kokF := Lib.hid hokF
          have kLm := Lib.hid (show L.map NV.nd = l by have := kI.out.hL; rwa [List.take_length] at this)
          have ktr := Lib.hid (show TreeAt wr (.slice fa l.length fc) l (fun j => w2.heap.size ≤ j ∧ j < wr.heap.size) by have := kI.out.tree; rwa [List.take_length] at this)
          have hsum := bytes_small h1' kd.out
          obtain ⟨f0, -⟩ := cells3 kI.out.hc
          have hfl := heap_lt kI.out.hc
          have hWq := Lib.hid (fun (n : Nat) => (show Calls Tryz.prog 32 #[.slice fa l.length fc] (wr.drewN n) fun e w' => e = .returned (.int .i64 ((l.length : Int) + (bytesOf l : Int))) ∧ w' = wr.drewN n from
            (refweight_calls' rfl (ktr.out.of_heap (w' := wr.drewN n) (fun j hj => (below_drewN' (Below.refl wr.heap.size wr) n).block j hj.2) (fun _ h => h)) h1' kd.out).mono (fun e w' hh => ⟨hh.1, hh.2.symm⟩)))
          clear hokF hk
          have kfin := Lib.hid (fun (n : Nat) => (show RefIs (wr.drewN n) w.heap.size (.pointer (some ⟨fb, 0, none⟩)) l clock room from by
            have h9 := kI.out.on (below_drewN' (Below.refl wr.heap.size wr) n)
            have hN9 := h9.hN
            rw [hz2] at hN9
            exact ⟨fb, _, L, rfl, hfbw, heap_lt h9.hc, h9.hc, kLm.out, hN9⟩))
          have kbb := Lib.hid (fun (n : Nat) => (kBk.out.below (below_drewN' (Below.refl wr.heap.size wr) n)).2)
          by_cases g5 : room < (l.length : Int) + (bytesOf l : Int)
          · have kf := Lib.hid (kgood.out 15 (by rw [if_neg (by rw [kokF.out]; simp), if_pos (by unfold wt; omega)]))
            go_wp2_with fail
            go_quiet ((go_at_call 32; exact Calls.quiet_of_same (hWq.out _)))
            go_wp2
            go_ret2
            rw [kf.out]
            exact ⟨_, rfl, kbb.out _, fun h => by cases h⟩
          · have kf := Lib.hid (kgood.out 0 (by rw [if_neg (by rw [kokF.out]; simp), if_neg (by unfold wt; omega)]))
            go_wp2_with fail
            go_quiet ((go_at_call 32; exact Calls.quiet_of_same (hWq.out _)))
            go_wp2
            go_ret2
            rw [kf.out]
            exact ⟨_, rfl, kbb.out _, fun _ => kfin.out _⟩
end
end Go.Proofs.YtejofgdglpmlkaaGreatDoor
