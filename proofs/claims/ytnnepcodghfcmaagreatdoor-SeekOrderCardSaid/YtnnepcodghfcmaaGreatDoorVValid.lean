/-
  Valid of a path. Conditions: texts of at most 2^31 bytes.
-/
import Derived.Test.YtnnepcodghfcmaaGreatDoorVAny
namespace Go.Proofs.YtnnepcodghfcmaaGreatDoor
open Go.RowKit

theorem LooseS.form {w : World} {B : Nat} {v : Value} {l : List Bs} (h : LooseS w B v l) : ∃ a c, v = .slice a l.length c := by
  rcases h with ⟨rfl, rfl⟩ | ⟨g, cap, cur, rfl, _⟩
  · exact ⟨_, _, rfl⟩
  · exact ⟨_, _, rfl⟩
theorem all_take {l : List Bs} {k : Nat} {n : Bs} (h : l[k]? = some n) : ((l.take (k + 1)).all fun n => decide (n.length ≤ 255)) = (((l.take k).all fun n => decide (n.length ≤ 255)) && decide (n.length ≤ 255)) := by
  rw [take_more h, List.all_append]; simp
set_option maxRecDepth 100000 in
set_option maxHeartbeats 1000000 in
theorem valid_calls (p : ByteArray) (w : World) (hp : p.size ≤ 2147483647) :
    Calls Tryz.prog 21 #[.string p] w fun e w' => e = .returned (.bool (validB p.data.toList)) ∧ Below w.heap.size w w' := by
  have hp' : p.size ≤ 1099511627775 := by omega
  by_cases h1 : 1000 < p.size
  · have hv : validB p.data.toList = false := by
      rw [← Bool.not_eq_true, validB_iff]; rintro ⟨h, _⟩; rw [← Go.Lib.size_eq] at h; omega
    have kv := Lib.hid hv
    clear hv
    go_enter Tryz.func21, Tryz.ntmps21
    go_wp2
    go_ret
    exact ⟨by rw [kv.out]; rfl, Below.refl _ _⟩
  have h1' : p.size ≤ 1000 := by omega
  clear h1
  have hC := Lib.hid (fun w => clean_calls p w hp')
  by_cases h2 : clean p.data.toList = p.data.toList
  · have h2' := Lib.hid h2
    have hmk : mk (clean p.data.toList) = p := by rw [h2, mk_back]
    have hCc := Lib.hid (show ∀ w, Calls Tryz.prog 23 #[.string p] w fun e w' => e = .returned (.string p) ∧ Below w.heap.size w w' from fun w => by have := hC.out w; rwa [hmk] at this)
    have hA := Lib.hid (fun w => containsAny_calls p ⟨#[0, 10]⟩ rfl w (by omega))
    have hN := Lib.hid (fun w => names_calls p w hp')
    have hlen := cnames_len p.data.toList
    rw [← Go.Lib.size_eq] at hlen
    have hvb : hasZ p.data.toList = false → validB p.data.toList = (cnames p.data.toList).all fun n => decide (n.length ≤ 255) := by
      intro hz
      unfold validB
      have hz' : (decide ((0 : UInt8) ∈ p.data.toList) || decide ((10 : UInt8) ∈ p.data.toList)) = false := hz
      rw [hz', h2]
      have : p.data.toList.length ≤ 1000 := by rw [← Go.Lib.size_eq]; exact h1'
      simp
      exact fun _ => h1'
    have hvt : hasZ p.data.toList = true → validB p.data.toList = false := by
      intro hz
      unfold validB
      have hz' : (decide ((0 : UInt8) ∈ p.data.toList) || decide ((10 : UInt8) ∈ p.data.toList)) = true := hz
      rw [hz']; simp
    have kvb := Lib.hid hvb
    have kvt := Lib.hid hvt
    clear h2 hmk hvb hvt hC
    generalize hZ : hasZ p.data.toList = Z at *
    cases Z
    · have kz := Lib.hid (kvb.out rfl)
      clear kvb kvt
      go_enter Tryz.func21, Tryz.ntmps21
      go_wp2_with (first | (go_at_call 23; refine (hCc.out _).mono ?_; rintro e w1 ⟨rfl, hb⟩; have kb1 := Lib.hid hb; clear hb) | (go_at_call 34; refine (hA.out _).mono ?_; rintro e w2 ⟨rfl, hb⟩; have kb2 := Lib.hid hb; clear hb) | (go_at_call 35; refine (hN.out _).mono ?_; rintro e w3 ⟨v, rfl, hl, hb⟩; have kb3 := Lib.hid hb; obtain ⟨ao, cap, rfl⟩ := hl.form; have kl := Lib.hid hl; clear hb hl))
      have hB := Lib.hid (kb1.out.trans ((kb2.out.trans (kb3.out.mono kb2.out.size)).mono kb1.out.size))
      clear kb1 kb2 kb3
      generalize hL : cnames p.data.toList = L at *
      clear hL
      go_loop [4, 21] (fun _ kv => ∃ k : Nat, k ≤ L.length ∧ kv = .int .i64 k ∧ ((L.take k).all fun n => decide (n.length ≤ 255)) = true) (fun _ kv => L.length - (intOf kv).toNat)
      case atStart => exact ⟨0, Nat.zero_le _, rfl, rfl⟩
      case round =>
        obtain ⟨k, hk, rfl, hall⟩ := hrel
        have kall := Lib.hid hall
        clear hall
        by_cases hlt : k < L.length
        · obtain ⟨n, hn⟩ : ∃ n, L[k]? = some n := ⟨_, List.getElem?_eq_getElem hlt⟩
          obtain ⟨g, cap', e, hbg, hg, hcell⟩ := kl.out.cells hn
          injection e with e1 e2 e3
          subst e1 e3
          have kat := Lib.hid (all_take hn)
          have hms := mk_size n
          have kn := Lib.hid hn
          have kq := Lib.hid hms
          have z1 : (0 : Int) ≤ (k : Int) := by omega
          have z2 : (k : Int) < (L.length : Int) := by omega
          generalize hm : mk n = M at *
          have km := Lib.hid hm
          clear hn hms hm
          by_cases h255 : n.length ≤ 255
          · have hm255 : M.size ≤ 255 := by rw [kq.out]; exact h255
            go_wp2
            go_round
            case rel => exact ⟨k + 1, by omega, by go_num, by rw [kat.out, kall.out]; simpa using h255⟩
            case measure => simp [intOf]; omega
          · have hm255 : 255 < M.size := by rw [kq.out]; omega
            have kf := Lib.hid (show validB p.data.toList = false by
              rw [kz.out, ← Bool.not_eq_true, List.all_eq_true]
              intro h
              have := h n (List.mem_of_getElem? kn.out)
              simp at this; omega)
            go_wp2
            go_ret
            exact ⟨by rw [kf.out]; rfl, hB.out⟩
        · have kf := Lib.hid (show validB p.data.toList = true by
            have := kall.out
            rw [List.take_of_length_le (by omega)] at this
            rw [kz.out]; exact this)
          go_wp2
          go_ret
          exact ⟨by rw [kf.out]; rfl, hB.out⟩
    · have kz := Lib.hid (kvt.out rfl)
      clear kvb kvt
      go_enter Tryz.func21, Tryz.ntmps21
      go_wp2_with (first | (go_at_call 23; refine (hCc.out _).mono ?_; rintro e w1 ⟨rfl, hb⟩; have kb1 := Lib.hid hb; clear hb) | (go_at_call 34; refine (hA.out _).mono ?_; rintro e w2 ⟨rfl, hb⟩; have kb2 := Lib.hid hb; clear hb))
      go_ret
      exact ⟨by rw [kz.out]; rfl, kb1.out.trans (kb2.out.mono kb1.out.size)⟩
  · have hv : validB p.data.toList = false := by
      rw [← Bool.not_eq_true, validB_iff]; rintro ⟨_, h, _⟩; exact h2 h
    have kv := Lib.hid hv
    have hne : ¬ (mk (clean p.data.toList)).toList = p.toList := fun e0 => (fun e => h2 (by have := congrArg (fun b : ByteArray => b.data.toList) e; rwa [mk_list] at this)) (ba_eq_iff.1 e0)
    clear hv h2
    generalize mk (clean p.data.toList) = Q at *
    go_enter Tryz.func21, Tryz.ntmps21
    go_wp2_with (go_at_call 23; refine (hC.out _).mono ?_; rintro e w1 ⟨rfl, hb⟩; have kb := Lib.hid hb; clear hb)
    go_ret
    exact ⟨by rw [kv.out]; rfl, kb.out⟩
end Go.Proofs.YtnnepcodghfcmaaGreatDoor
