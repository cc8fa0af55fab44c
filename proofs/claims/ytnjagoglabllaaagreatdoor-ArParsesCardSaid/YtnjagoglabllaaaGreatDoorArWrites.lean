/-
  ArWrites answers true. Conditions: texts of at most 2^47 bytes, at most 2^42 members; Itoa's table reads as laid.
-/
import Derived.Test.YtnjagoglabllaaaGreatDoorArStay
import Derived.Test.YtnjagoglabllaaaGreatDoorArArch
import Derived.Test.YtnjagoglabllaaaGreatDoorArLoose
namespace Go.Proofs.YtnjagoglabllaaaGreatDoor
open Go.RowKit

/-- What a row gives of the members that came in. -/
def MemsOk (l : List Mem) : Prop := (∀ x ∈ l, x.name.length ≤ 140737488355328 ∧ x.data.length ≤ 140737488355328 ∧ -9223372036854775808 ≤ x.date ∧ x.date ≤ 9223372036854775807) ∧ l.length ≤ 4398046511104
theorem tot_small {l : List Mem} (h : totM l ≤ 100000) : l.length ≤ 100000 ∧ ∀ x ∈ l, x.name.length ≤ 100000 ∧ x.data.length ≤ 100000 :=
  ⟨Nat.le_trans (totM_len l) h, fun x hx => by have := totM_mem hx; omega⟩
section
variable {l o : List Mem} {v1 v2 : Value} {T1 T2 : Nat → Prop} {w : World}
set_option maxRecDepth 100000 in
set_option maxHeartbeats 4000000 in
theorem writes_calls (htab : Tab w.heap.size w) (h1 : MemsAt w v1 l T1) (hT1 : ∀ k, T1 k → k < w.heap.size) (hp1 : MemsOk l) (h2 : MemsAt w v2 o T2) (hT2 : ∀ k, T2 k → k < w.heap.size) (hp2 : MemsOk o) :
    Calls Tryz.prog 3 #[v1, v2] w fun e w' => e = .returned (.bool true) ∧ Below w.heap.size w w' := by
  obtain ⟨a1, c1, e1⟩ := h1.form
  obtain ⟨a2, c2, e2⟩ := h2.form
  subst e1 e2
  have k1 := Lib.hid (fun (W : World) (h : Below w.heap.size w W) => h1.of_heap (w' := W) (T' := T1) (fun j hj => h.block j (hT1 j hj)) (fun _ h => h))
  have k2 := Lib.hid (fun (W : World) (h : Below w.heap.size w W) => h2.of_heap (w' := W) (T' := T2) (fun j hj => h.block j (hT2 j hj)) (fun _ h => h))
  have kT1 := Lib.hid (fun (W : World) (h : Below w.heap.size w W) (j : Nat) (hj : T1 j) => Nat.lt_of_lt_of_le (hT1 j hj) h.size)
  have kT2 := Lib.hid (fun (W : World) (h : Below w.heap.size w W) (j : Nat) (hj : T2 j) => Nat.lt_of_lt_of_le (hT2 j hj) h.size)
  have kp1 := Lib.hid hp1
  have kp2 := Lib.hid hp2
  have ktab := Lib.hid htab
  have kA := Lib.hid (alive_calls w htab)
  have hB1 := Lib.hid (fun (W : World) (h : Below w.heap.size w W) => arbig_calls (k1.out W h) (kT1.out W h) (fun x hx => ⟨(hp1.1 x hx).1, (hp1.1 x hx).2.1⟩) hp1.2)
  have hB2 := Lib.hid (fun (W : World) (h : Below w.heap.size w W) => arbig_calls (k2.out W h) (kT2.out W h) (fun x hx => ⟨(hp2.1 x hx).1, (hp2.1 x hx).2.1⟩) hp2.2)
  clear h1 h2 hT1 hT2 hp1 hp2 htab
  go_enter Tryz.func3, Tryz.ntmps3
  go_upto_region 2 with (go_at_call 8; refine kA.out.mono ?_; rintro e w2 ⟨rfl, hb2⟩; have kb2 := Lib.hid hb2; clear hb2)
  go_wp2_with (fail)
  refine (hB1.out _ kb2.out).mono ?_
  rintro e w3 ⟨b1, rfl, hs1', hb3⟩
  have hs1 := Lib.hid hs1'
  clear hs1'
  have kb3 := Lib.hid (kb2.out.trans (hb3.mono kb2.out.size))
  clear hb3
  cases b1 with
  | true =>
    go_wp2_with fail
    go_ret
    exact ⟨rfl, kb3.out⟩
  | false =>
  go_wp2_with (fail)
  refine (hB2.out _ kb3.out).mono ?_
  rintro e w4 ⟨b2, rfl, hs2', hb4⟩
  have hs2 := Lib.hid hs2'
  clear hs2'
  have kb4 := Lib.hid (kb3.out.trans (hb4.mono kb3.out.size))
  clear hb4
  cases b2 with
  | true =>
    go_wp2_with fail
    go_ret
    exact ⟨rfl, kb4.out⟩
  | false =>
  obtain ⟨hl1, hx1⟩ := tot_small (hs1.out (by simp))
  obtain ⟨hl2, hx2⟩ := tot_small (hs2.out (by simp))
  have kx1 := Lib.hid hx1
  have kx2 := Lib.hid hx2
  clear hs1 hs2 hx1 hx2 hB1 hB2 kA
  have hL := Lib.hid (lent_calls (k1.out _ kb4.out) (kT1.out _ kb4.out) (fun x hx => by have := (kx1.out x hx).2; omega) (by omega))
  go_upto_region 6 with (go_at_call 10; refine hL.out.mono ?_; rintro e w5 ⟨g, c, L, rfl, hLl, hLo, hLs, hLc, hLm, hb⟩; have kLl := Lib.hid hLl; have kLo := Lib.hid hLo; have kLs := Lib.hid hLs; have kLm := Lib.hid hLm; have kb45 := Lib.hid hb; clear hLl hLo hLs hLm hb)
  have kb5 := Lib.hid (kb4.out.trans (kb45.out.mono kb4.out.size))
  have hMs := Lib.hid (show MemsAt w5 (.slice (some ⟨g, 0, none⟩) l.length c) l (fun j => w4.heap.size ≤ j ∧ j < w5.heap.size) from by have h := kLo.out.mems; rwa [kLl.out] at h)
  have hW := Lib.hid (write_calls ((ktab.out.on kb5.out).mono kb5.out.size) hMs.out (fun _ h => h.2) (fun x hx => by
    have h1 := kp1.out.1 x hx
    have h2 := kx1.out x hx
    exact ⟨h1.1, by omega, h1.2.2⟩) (by omega))
  go_upto_region 7 with (go_at_call 11; refine hW.out.mono ?_; rintro e w6 ⟨vb, rfl, hb1, hb2⟩; have ko6 := Lib.hid hb1; have kb56 := Lib.hid hb2; clear hb1 hb2)
  have kb6 := Lib.hid (kb5.out.trans (kb56.out.mono kb5.out.size))
  have hSt := Lib.hid (stay_calls (w := w6) kLl.out (kLo.out.keepb kb56.out.block kb56.out.size) (fun x hx => (kLs.out x hx).on (fun j _ hj hne => ⟨kb56.out.block j hj, hne⟩) kb56.out.size) hLc ((kb56.out.cell (p := ⟨g, l.length * 3 + 1, none⟩) (kLo.out.lt g rfl).2).trans kLm.out) (k1.out _ kb6.out) (kT1.out _ kb6.out) (by omega) (fun x hx => by have := (kx1.out x hx).2; omega))
  go_upto_region 8 with (go_at_call 12; refine hSt.out.mono ?_; rintro e w7 ⟨rfl, hb⟩; have kb67 := Lib.hid hb; clear hb)
  have kb7 := Lib.hid (kb6.out.trans (kb67.out.mono kb6.out.size))
  have hW2 := Lib.hid (write_calls ((ktab.out.on kb7.out).mono kb7.out.size) (k2.out _ kb7.out) (kT2.out _ kb7.out) (fun x hx => by
    have h1 := kp2.out.1 x hx
    have h2 := kx2.out x hx
    exact ⟨h1.1, by omega, h1.2.2⟩) (by omega))
  have hao := arch_out o
  go_upto_region 9 with (go_at_call 11; refine hW2.out.mono ?_; rintro e w8 ⟨vc, rfl, hb1, hb2⟩; have ko8 := Lib.hid (hb1.loose (by omega)); have kb78 := Lib.hid hb2; clear hb1 hb2)
  obtain ⟨n, hn⟩ : ∃ n, n = (archP o).1.length := ⟨_, rfl⟩
  rw [← hn] at ko8 hao
  obtain ⟨ca, cc, hvc, -, -⟩ := ko8.out
  subst hvc
  clear hn hL hW hSt hW2
  go_wp2_with fail
  go_loopw [13] (fun iv wr => ∃ k : Nat, k ≤ n ∧ iv = .int .i64 k ∧ XLoose wr w7.heap.size (.slice ca n cc) n ∧ Below w7.heap.size w7 wr) (fun iv _ => n - (intOf iv).toNat)
  case atStart => exact ⟨0, Nat.zero_le _, rfl, ko8.out, kb78.out⟩
  case round =>
    obtain ⟨k, hk, rfl, hX, hB⟩ := hrel
    have kX := Lib.hid hX
    have kB := Lib.hid hB
    clear hX hB
    by_cases hlt : k < n
    · obtain ⟨b, u, rfl, hbB, hbl, hcu, hfu⟩ := kX.out.at hlt
      have y1 : (k : Int) < (n : Int) := by omega
      go_wp2_with fail
      obtain ⟨u', hu'⟩ := xor_byte u
      rw [hu']
      exact ⟨⟨k + 1, by omega, by go_num, kX.out.put _ _ rfl _, loose_below kB.out hbB⟩, by simp [intOf]; omega⟩
    · have y1 : ¬ (k : Int) < (n : Int) := by omega
      have kb9 := Lib.hid (kb7.out.trans (kB.out.mono kb7.out.size))
      have hAr := Lib.hid (refArch_calls (k1.out _ kb9.out) (kT1.out _ kb9.out) (fun x hx => by
        have h1 := kp1.out.1 x hx
        have h2 := kx1.out x hx
        exact ⟨h1.1, by omega, h1.2.2⟩) (by omega))
      go_upto_region 14 with (go_at_call 13; refine hAr.out.mono ?_; rintro e w9 ⟨vw, rfl, hb1, hb2⟩; have ko9 := Lib.hid hb1; have kbr9 := Lib.hid hb2; clear hb1 hb2)
      have kb10 := Lib.hid (kb9.out.trans (kbr9.out.mono kb9.out.size))
      have hal := arch_out l
      have hcv1 := bytes_str (ko9.out.bytes (by omega))
      have hcv2 := bytes_str ((((ko6.out.on kb67.out).on kB.out).on kbr9.out).bytes (by omega))
      have f1 : ((mk (archP l).1).toList == (mk (archP l).1).toList) = true := beq_self_eq_true _
      have f2 : ((archP l).2 == (archP l).2) = true := beq_self_eq_true _
      go_wp2_with (go_at_call 14; refine (num_calls _ _).mono ?_; rintro e w0 ⟨rfl, rfl⟩)
      go_ret
      exact ⟨rfl, kb10.out⟩
end
end Go.Proofs.YtnjagoglabllaaaGreatDoor
