/-
  ArBack answers true. Conditions: texts of at most 2^47 bytes, at most 2^42 members; strconv.ErrSyntax holds an error; Itoa's table reads as laid.
-/
import Derived.Test.YtnjagoglabllaaaGreatDoorArParse
import Derived.Test.YtnjagoglabllaaaGreatDoorArWrites
namespace Go.Proofs.YtnjagoglabllaaaGreatDoor
open Go.RowKit

section
variable {l : List Mem} {v1 v2 : Value} {b : Bs} {T1 S : Nat → Prop} {w : World}
set_option maxRecDepth 100000 in
set_option maxHeartbeats 8000000 in
theorem back_calls (htab : Tab w.heap.size w) (herr : ErrV w) (h1 : MemsAt w v1 l T1) (hT1 : ∀ k, T1 k → k < w.heap.size) (hp1 : MemsOk l) (h2 : BytesAt w v2 b S) (hS : ∀ k, S k → k < w.heap.size) (hbl : b.length ≤ 140737488355328) :
    Calls Tryz.prog 5 #[v1, v2] w fun e w' => e = .returned (.bool true) ∧ Below w.heap.size w w' := by
  obtain ⟨a1, c1, e1⟩ := h1.form
  obtain ⟨a2, c2, e2⟩ := h2.form
  subst e1 e2
  have k1 := Lib.hid (fun (W : World) (h : Below w.heap.size w W) => h1.of_heap (w' := W) (T' := T1) (fun j hj => h.block j (hT1 j hj)) (fun _ h => h))
  have k2 := Lib.hid (fun (W : World) (h : Below w.heap.size w W) => h2.of_heap (w' := W) (S' := S) (fun j hj => h.block j (hS j hj)) (fun _ h => h))
  have kT1 := Lib.hid (fun (W : World) (h : Below w.heap.size w W) (j : Nat) (hj : T1 j) => Nat.lt_of_lt_of_le (hT1 j hj) h.size)
  have kS := Lib.hid (fun (W : World) (h : Below w.heap.size w W) (j : Nat) (hj : S j) => Nat.lt_of_lt_of_le (hS j hj) h.size)
  have kp1 := Lib.hid hp1
  have ktab := Lib.hid htab
  have kerr := Lib.hid (fun (W : World) (h : Below w.heap.size w W) => herr.on h herr.2)
  have kA := Lib.hid (alive_calls w htab)
  have hB1 := Lib.hid (fun (W : World) (h : Below w.heap.size w W) => arbig_calls (k1.out W h) (kT1.out W h) (fun x hx => ⟨(hp1.1 x hx).1, (hp1.1 x hx).2.1⟩) hp1.2)
  clear h1 h2 hT1 hS hp1 htab herr
  go_enter Tryz.func5, Tryz.ntmps5
  go_upto_region 2 with (go_at_call 8; refine kA.out.mono ?_; rintro e w2 ⟨rfl, hb2⟩; have kb2 := Lib.hid hb2; clear hb2)
  go_wp2_with (fail)
  refine (hB1.out _ kb2.out).mono ?_
  rintro e w3 ⟨b1, rfl, hs1', hb3⟩
  have hs1 := Lib.hid hs1'
  have kb3 := Lib.hid (kb2.out.trans (hb3.mono kb2.out.size))
  clear hb3 hs1'
  cases b1 with
  | true =>
    go_wp2_with fail
    go_ret
    exact ⟨rfl, kb3.out⟩
  | false =>
  by_cases hlong : 70000 < b.length
  · have y0 : (70000 : Int) < (b.length : Int) := by omega
    go_wp2_with fail
    go_ret
    exact ⟨rfl, kb3.out⟩
  have y0 : ¬ (70000 : Int) < (b.length : Int) := by omega
  obtain ⟨hl1, hx1⟩ := tot_small (hs1.out (by simp))
  have kx1 := Lib.hid hx1
  clear hs1 hx1 hB1 kA
  have hW := Lib.hid (write_calls ((ktab.out.on kb3.out).mono kb3.out.size) (k1.out _ kb3.out) (kT1.out _ kb3.out) (fun x hx => by
    have h1 := kp1.out.1 x hx
    have h2 := kx1.out x hx
    exact ⟨h1.1, by omega, h1.2.2⟩) (by omega))
  go_upto_region 6 with (go_at_call 11; refine hW.out.mono ?_; rintro e w4 ⟨v4, rfl, hb1, hb2⟩; have ko4 := Lib.hid hb1; have kb34 := Lib.hid hb2; clear hb1 hb2)
  have kb4 := Lib.hid (kb3.out.trans (kb34.out.mono kb3.out.size))
  have hao := arch_out l
  go_upto_if 36 with (go_at_call 14; refine (num_calls _ _).mono ?_; rintro e w0 ⟨rfl, rfl⟩)
  go_cut [9, 10] from 36 to 50 (fun _ _ wx => Below w.heap.size w wx)
  case first =>
    by_cases he : (archP l).2 = 0
    · have kok := Lib.hid (show archP l = ((archP l).1, 0) from Prod.ext rfl he)
      have kP := Lib.hid (parse_calls (ko4.out.bytes (by omega)) (fun _ h => h.2) (by omega) (kerr.out _ kb4.out) ((ktab.out.on kb4.out).mono kb4.out.size))
      have hd : decide ((archP l).2 = 0) = true := decide_eq_true he
      have hd2 : ((archP l).2 == 0) = true := by rw [he]; rfl
      generalize (archP l).2 = ec at *
      subst he
      go_upto_region 8 with (fail)
      refine kP.out.mono ?_
      rintro e w5 ⟨⟨l', a, c, L, hl, rfl, hLm, hLo⟩ | ⟨hno, rfl⟩, hb5⟩
      · have hll : l' = l := by
          have h1 := read_arch hl
          have h2 := read_arch kok.out
          rw [h1] at h2; injection h2
        subst hll
        have kLo := Lib.hid hLo
        have kb5 := Lib.hid (kb4.out.trans (hb5.mono kb4.out.size))
        have kM := Lib.hid (show MemsAt w5 (.slice a l'.length c) l' _ from by have h := hLo.mems; rwa [hLm] at h)
        have hSm := Lib.hid (same_calls kM.out (k1.out _ kb5.out) (fun _ h => h.2) (kT1.out _ kb5.out) (by omega) (by omega))
        rw [sameB_true rfl] at hSm
        clear hl hLm hLo hb5
        go_wp2_with (first | (go_at_call 14; refine (num_calls _ _).mono ?_; rintro e w0 ⟨rfl, rfl⟩) | (go_at_call 17; refine hSm.out.mono ?_; rintro e w6 ⟨rfl, hb6⟩; have kb6 := Lib.hid (kb5.out.trans (hb6.mono kb5.out.size)); clear hb6))
        go_meet
        case rel => exact kb6.out
      · exact absurd kok.out (hno l)
    · have hd : decide ((archP l).2 = 0) = false := decide_eq_false he
      have hd2 : ((archP l).2 == 0) = false := by simpa using he
      generalize (archP l).2 = ec at *
      go_wp2_with fail
      go_meet
      case rel => exact kb4.out
  case rest =>
    have kb6 := Lib.hid hcut
    have kP := Lib.hid (parse_calls (k2.out _ kb6.out) (kS.out _ kb6.out) (by omega) (kerr.out _ kb6.out) ((ktab.out.on kb6.out).mono kb6.out.size))
    go_wp2_with (fail)
    refine kP.out.mono ?_
    rintro e w7 ⟨⟨l2, a, c, L, hl, rfl, hLm, hLo⟩ | ⟨hno, rfl⟩, hb7⟩
    · have kl2 := Lib.hid hl
      have kbd := Lib.hid (readP_bounds (read_arch hl))
      have kLo := Lib.hid hLo
      have kb7 := Lib.hid (kb6.out.trans (hb7.mono kb6.out.size))
      have kM := Lib.hid (show MemsAt w7 (.slice a l2.length c) l2 _ from by have h := hLo.mems; rwa [hLm] at h)
      have kW := Lib.hid (write_calls ((ktab.out.on kb7.out).mono kb7.out.size) kM.out (fun _ h => h.2) (fun x hx => by have := kbd.out.2 x hx; omega) (by have := kbd.out.1; omega))
      rw [kl2.out] at kW
      clear hl hLm hLo hb7
      go_upto_region 14 with (first | (go_at_call 14; refine (num_calls _ _).mono ?_; rintro e w0 ⟨rfl, rfl⟩) | (go_at_call 11; refine kW.out.mono ?_; rintro e w8 ⟨v8, rfl, ho, hb8⟩; have ko8 := Lib.hid ho; have kb8 := Lib.hid (kb7.out.trans (hb8.mono kb7.out.size)); clear ho hb8))
      have hcv1 := bytes_str (ko8.out.bytes (by show b.length ≤ _; omega))
      have hcv2 := bytes_str (k2.out _ kb8.out)
      have f1 : ((mk b).toList == (mk b).toList) = true := beq_self_eq_true _
      go_wp2_with (go_at_call 14; refine (num_calls _ _).mono ?_; rintro e w0 ⟨rfl, rfl⟩)
      go_ret
      exact ⟨rfl, kb8.out⟩
    · have kb7 := Lib.hid (kb6.out.trans (hb7.mono kb6.out.size))
      clear hno hb7
      by_cases h6 : 65536 < b.length
      · rw [if_pos h6]
        go_wp2_with (go_at_call 14; refine (num_calls _ _).mono ?_; rintro e w0 ⟨rfl, rfl⟩)
        go_ret
        exact ⟨rfl, kb7.out⟩
      · rw [if_neg h6]
        go_wp2_with (go_at_call 14; refine (num_calls _ _).mono ?_; rintro e w0 ⟨rfl, rfl⟩)
        go_ret
        exact ⟨rfl, kb7.out⟩
end
end Go.Proofs.YtnjagoglabllaaaGreatDoor
