/-
  The reference's Valid: what it answers is validB. Conditions: texts of at most 2^31 bytes.
-/
import Derived.Test.YtejofgdglpmlkaaGreatDoorVRefC
namespace Go.Proofs.YtejofgdglpmlkaaGreatDoor
open Go.RowKit

theorem okName_take {l : List Bs} {k : Nat} {n : Bs} (h : l[k]? = some n) : ((l.take (k + 1)).all okName) = (((l.take k).all okName) && okName n) := by
  rw [take_more h, List.all_append]; simp
theorem rvalid_not {p : Bs} {n : Bs} (hm : n ∈ rnames p) (h : okName n = false) : validB p = false := by
  rw [← rvalid_eq, ← Bool.not_eq_true]
  unfold rvalid
  simp only [Bool.and_eq_true, List.all_eq_true]
  rintro ⟨_, h'⟩
  rw [h' n hm] at h; cases h
set_option maxRecDepth 100000 in
set_option maxHeartbeats 2000000 in
theorem refValid_calls (p : ByteArray) (w : World) (hp : p.size ≤ 2147483647) :
    Calls Tryz.prog 29 #[.string p] w fun e w' => e = .returned (.bool (validB p.data.toList)) ∧ Below w.heap.size w w' := by
  have hp' : p.size ≤ 1099511627775 := by omega
  by_cases h1 : 1000 < p.size
  · have hv : validB p.data.toList = false := by
      rw [← Bool.not_eq_true, validB_iff]; rintro ⟨h, _⟩; rw [← Go.Lib.size_eq] at h; omega
    have kv := Lib.hid hv
    clear hv
    go_enter Tryz.func29, Tryz.ntmps29
    go_wp2
    go_ret
    exact ⟨by rw [kv.out]; rfl, Below.refl _ _⟩
  have h1' : p.size ≤ 1000 := by omega
  clear h1
  have hC := Lib.hid (fun w => refClean_calls p w hp')
  by_cases h2 : clean p.data.toList = p.data.toList
  · have h2' := Lib.hid h2
    have hmk : mk (clean p.data.toList) = p := by rw [h2, mk_back]
    have hCc := Lib.hid (show ∀ w, Calls Tryz.prog 54 #[.string p] w fun e w' => e = .returned (.string p) ∧ Below w.heap.size w w' from fun w => by have := hC.out w; rwa [hmk] at this)
    have hN := Lib.hid (fun w => refNames_calls p w hp')
    have hlen := rnames_len p.data.toList
    have htot := rnames_tot p.data.toList
    rw [← Go.Lib.size_eq] at hlen htot
    have kvb := Lib.hid (show validB p.data.toList = (rnames p.data.toList).all okName by
      rw [← rvalid_eq]
      unfold rvalid
      have : p.data.toList.length ≤ 1000 := by rw [← Go.Lib.size_eq]; exact h1'
      rw [decide_eq_true this, decide_eq_true h2]; rfl)
    have kvn := Lib.hid (fun (n : Bs) (hm : n ∈ rnames p.data.toList) (h : okName n = false) => rvalid_not hm h)
    clear h2 hmk hC
    go_enter Tryz.func29, Tryz.ntmps29
    go_wp2_with (first | (go_at_call 54; refine (hCc.out _).mono ?_; rintro e w1 ⟨rfl, hb⟩; have kb1 := Lib.hid hb; clear hb) | (go_at_call 55; refine (hN.out _).mono ?_; rintro e w3 ⟨v, rfl, hl, hb⟩; have kb3 := Lib.hid hb; obtain ⟨ao, cap, rfl⟩ := hl.form; have kl := Lib.hid hl; clear hb hl))
    have hB := Lib.hid (kb1.out.trans (kb3.out.mono kb1.out.size))
    clear kb1 kb3
    generalize rnames p.data.toList = L at *
    go_loop [4] (fun kv => ∃ k : Nat, k ≤ L.length ∧ kv = .int .i64 k ∧ ((L.take k).all okName) = true) (fun kv => L.length - (intOf kv).toNat)
    case atStart => exact ⟨0, Nat.zero_le _, rfl, rfl⟩
    case round =>
      obtain ⟨k, hk, rfl, hall⟩ := hrel
      have kall := Lib.hid hall
      clear hall
      by_cases hlt : k < L.length
      · obtain ⟨n, hn⟩ : ∃ n, L[k]? = some n := ⟨_, List.getElem?_eq_getElem hlt⟩
        obtain ⟨g, cap', e, hbg, hg, hcell⟩ := kl.out.cells hn
        injection e with e1 e2 e3
        subst e1 e3
        have kat := Lib.hid (okName_take hn)
        have kno := Lib.hid (fun h => kvn.out n (List.mem_of_getElem? hn) h)
        have hnl := tot_mem (List.mem_of_getElem? hn)
        have hms := mk_size n
        have hml := mk_list n
        have hI0 := Lib.hid (fun w => refIndex_calls (mk n) 0 w (by rw [mk_size]; omega) 0 rfl)
        have hI1 := Lib.hid (fun w => refIndex_calls (mk n) 10 w (by rw [mk_size]; omega) 10 rfl)
        rw [hml] at hI0 hI1
        have kq := Lib.hid hms
        have z1 : (0 : Int) ≤ (k : Int) := by omega
        have z2 : (k : Int) < (L.length : Int) := by omega
        generalize mk n = M at *
        clear hn hms hml
        by_cases h255 : n.length ≤ 255
        · have hm255 : M.size ≤ 255 := by rw [kq.out]; exact h255
          by_cases h0 : (0 : UInt8) ∈ n
          · have kf := Lib.hid (kno.out (by unfold okName; rw [decide_eq_true h0]; simp))
            have k0 := Lib.hid h0
            clear h0
            go_wp2_with (go_at_call_of 56 (Value.int .u8 0); refine (hI0.out _).mono ?_; rintro e w4 ⟨q, rfl, hq, rfl⟩; have hq0 := hq.2 k0.out; clear hq)
            go_ret
            exact ⟨by rw [kf.out]; rfl, hB.out⟩
          · have k0 := Lib.hid h0
            clear h0
            by_cases h10 : (10 : UInt8) ∈ n
            · have kf := Lib.hid (kno.out (by unfold okName; rw [decide_eq_true h10]; simp))
              have k1 := Lib.hid h10
              clear h10
              go_wp2_with (first | (go_at_call_of 56 (Value.int .u8 0); refine (hI0.out _).mono ?_; rintro e w4 ⟨q, rfl, hq, rfl⟩; have hq0 : q < 0 := Int.not_le.1 (fun h => k0.out (hq.1 h)); clear hq) | (go_at_call_of 56 (Value.int .u8 10); refine (hI1.out _).mono ?_; rintro e w4 ⟨q1, rfl, hq, rfl⟩; have hq1 := hq.2 k1.out; clear hq))
              go_ret
              exact ⟨by rw [kf.out]; rfl, hB.out⟩
            · have kf := Lib.hid (show okName n = true by unfold okName; rw [decide_eq_true h255, decide_eq_false k0.out, decide_eq_false h10]; rfl)
              have k1 := Lib.hid h10
              clear h10
              go_wp2_with (first | (go_at_call_of 56 (Value.int .u8 0); refine (hI0.out _).mono ?_; rintro e w4 ⟨q, rfl, hq, rfl⟩; have hq0 : q < 0 := Int.not_le.1 (fun h => k0.out (hq.1 h)); clear hq) | (go_at_call_of 56 (Value.int .u8 10); refine (hI1.out _).mono ?_; rintro e w4 ⟨q1, rfl, hq, rfl⟩; have hq1 : q1 < 0 := Int.not_le.1 (fun h => k1.out (hq.1 h)); clear hq))
              go_round
              case rel => exact ⟨k + 1, by omega, by go_num, by rw [kat.out, kall.out, kf.out]; rfl⟩
              case measure => simp [intOf]; omega
        · have hm255 : 255 < M.size := by rw [kq.out]; omega
          have kf := Lib.hid (kno.out (by unfold okName; rw [decide_eq_false h255]; rfl))
          go_wp2
          go_ret
          exact ⟨by rw [kf.out]; rfl, hB.out⟩
      · have kf := Lib.hid (show validB p.data.toList = true by
          have := kall.out
          rw [List.take_of_length_le (by omega)] at this
          rw [kvb.out]; exact this)
        go_wp2
        go_ret
        exact ⟨by rw [kf.out]; rfl, hB.out⟩
  · have hv : validB p.data.toList = false := by
      rw [← Bool.not_eq_true, validB_iff]; rintro ⟨_, h, _⟩; exact h2 h
    have kv := Lib.hid hv
    have hne : ((mk (clean p.data.toList)).toList == p.toList) = false := ba_ne (fun e => h2 (by have := congrArg (fun b : ByteArray => b.data.toList) e; rwa [mk_list] at this))
    clear hv h2
    generalize mk (clean p.data.toList) = Q at *
    go_enter Tryz.func29, Tryz.ntmps29
    go_wp2_with (go_at_call 54; refine (hC.out _).mono ?_; rintro e w1 ⟨rfl, hb⟩; have kb := Lib.hid hb; clear hb)
    go_ret
    exact ⟨by rw [kv.out]; rfl, kb.out⟩
end Go.Proofs.YtejofgdglpmlkaaGreatDoor
