/-
  Clean, slash, Parent of a path. Conditions: texts of at most 2^40 bytes.
-/
import Derived.Test.YtnnepcodghfcmaaGreatDoorVNames
import Derived.Test.YtnnepcodghfcmaaGreatDoorShelf
namespace Go.Proofs.YtnnepcodghfcmaaGreatDoor
open Go.RowKit

theorem join_calls (B : Nat) (v : Value) (l : List Bs) (w : World) (h : LooseS w B v l) (hl : tot l ≤ 17592186044416) :
    Calls Tryz.prog 37 #[v, .string ⟨#[47]⟩] w fun e w' => e = .returned (.string (mk (joinS l))) ∧ Below w.heap.size w w' := by
  have hc := fun k x hk => h.cells (k := k) (x := x) hk
  rcases h with ⟨rfl, rfl⟩ | ⟨g, cap, cur, rfl, hb, hg, hn, hm, hcs, ht⟩
  · refine (Tryz.strings_Join_none none 0 ⟨#[47]⟩ w).mono ?_
    rintro e w' ⟨rfl, rfl⟩
    exact ⟨by rw [joinS_nil]; rfl, Below.refl _ _⟩
  · have e1 : (l.map mk).map (fun b : ByteArray => b.data.toList) = l := by
      rw [List.map_map]; conv => rhs; rw [← List.map_id l]
      exact List.map_congr_left fun x _ => mk_list x
    have e2 : (⟨#[47]⟩ : ByteArray).data.toList = [47] := rfl
    have hlen : (l.map mk).length = l.length := by simp
    have hj := joinS_len l
    have hll := tot_len l
    have hS := Tryz.strings_Join g 0 cap (l.map mk) ⟨#[47]⟩ w (fun k x hk => by
      rw [List.getElem?_map] at hk
      cases hx : l[k]? with
      | none => rw [hx] at hk; cases hk
      | some y =>
        rw [hx] at hk
        obtain rfl : mk y = x := Option.some.inj hk
        obtain ⟨g', cap', e, -, -, hcell⟩ := hc k y hx
        injection e with e1 e2 e3
        injection e1 with e1; injection e1 with e1
        subst e1
        rw [Nat.zero_add]; exact hcell) (heap_lt hg) (by rw [hlen]; omega) (by rw [hlen]; exact hn) (by rw [e1, e2]; show (joinS l).length ≤ _; omega)
    rw [e1, e2, hlen] at hS
    exact hS
theorem clean_calls (p : ByteArray) (w : World) (hp : p.size ≤ 1099511627775) :
    Calls Tryz.prog 23 #[.string p] w fun e w' => e = .returned (.string (mk (clean p.data.toList))) ∧ Below w.heap.size w w' := by
  have ht : tot (cnames p.data.toList) ≤ 17592186044416 := by
    have := cnames_tot p.data.toList
    rw [← Go.Lib.size_eq] at this
    omega
  go_enter Tryz.func23, Tryz.ntmps23
  go_wp2_with (go_at_call 35; refine (names_calls p _ hp).mono ?_; rintro e w1 ⟨v, rfl, hl, hb⟩; have kl := Lib.hid hl; have kb := Lib.hid hb; clear hl hb)
  go_wp2_with (go_at_call 37; refine (join_calls _ v _ _ kl.out ht).mono ?_; rintro e w2 ⟨rfl, hb2⟩; have kb2 := Lib.hid hb2; clear hb2)
  go_ret
  exact ⟨rfl, kb.out.trans (kb2.out.mono kb.out.size)⟩

theorem drop_all {s : ByteArray} {k : Nat} (h : k < s.size) (h1 : s[k]'h ≠ 47) (h2 : ∀ c ∈ s.data.toList.drop (k + 1), c ≠ 47) : ∀ c ∈ s.data.toList.drop k, c ≠ 47 := by
  intro c hc
  rw [drop_cons h] at hc
  rcases List.mem_cons.1 hc with rfl | hc
  · exact h1
  · exact h2 c hc
theorem lastSl_at {s : ByteArray} {k : Nat} (h : k < s.size) (h1 : s[k]'h = 47) (h2 : ∀ c ∈ s.data.toList.drop (k + 1), c ≠ 47) : lastSl s.data.toList = k := by
  have e : s.data.toList = s.data.toList.take k ++ 47 :: s.data.toList.drop (k + 1) := by
    rw [← h1, ← drop_cons h, List.take_append_drop]
  rw [e, lastSl_split h2, List.length_take, ← Go.Lib.size_eq, Nat.min_eq_left (by omega)]

set_option maxHeartbeats 1000000 in
theorem slash_calls (s : ByteArray) (w : World) (hs : s.size ≤ 1099511627775) :
    Calls Tryz.prog 36 #[.string s] w fun e w' => e = .returned (.int .i64 (lastSl s.data.toList)) ∧ w = w' := by
  go_enter Tryz.func36, Tryz.ntmps36
  go_wp2
  go_step3
  go_wp2
  go_step3
  go_wp2
  go_loop [3, 4] (fun av iv => av = .int .i64 (-1) ∧ ∃ i : Int, iv = .int .i64 i ∧ -1 ≤ i ∧ i < s.size ∧ ∀ c ∈ s.data.toList.drop (i + 1).toNat, c ≠ 47) (fun _ iv => (intOf iv + 1).toNat)
  case atStart => exact ⟨rfl, _, rfl, by omega, by omega, by
    intro c hc
    rw [show ((s.size : Int) - 1 + 1).toNat = s.size by omega, List.drop_eq_nil_of_le (by rw [← Go.Lib.size_eq]; exact Nat.le_refl _)] at hc
    simp at hc⟩
  case round =>
    obtain ⟨rfl, i, rfl, h1, h2, h3⟩ := hrel
    by_cases h0 : 0 ≤ i
    · obtain ⟨k, rfl⟩ : ∃ k : Nat, i = k := ⟨i.toNat, by omega⟩
      have hk : k < s.size := by omega
      rw [show ((k : Int) + 1).toNat = k + 1 by omega] at h3
      have k3 := Lib.hid h3
      clear h3
      by_cases h47 : s[k]'hk = 47
      · have e47 : ((((s[k]'hk).toNat : Nat) : Int) == 47) = true := by rw [h47]; rfl
        have kk := Lib.hid (lastSl_at hk h47 k3.out)
        clear h47
        go_wp2
        go_ret
        refine ⟨?_, rfl⟩
        rw [kk.out]; rfl
      · have e47 : ((((s[k]'hk).toNat : Nat) : Int) == 47) = false := by
          rw [beq_eq_false_iff_ne]; intro e; exact h47 (byte_eq (n := 47) e (by omega))
        have kk := Lib.hid (drop_all hk h47 k3.out)
        clear h47
        go_wp2
        go_round
        case rel => exact ⟨rfl, (k : Int) - 1, rfl, by omega, by omega, by rw [show ((k : Int) - 1 + 1).toNat = k by omega]; exact kk.out⟩
        case measure => simp [intOf]
    · obtain rfl : i = -1 := by omega
      have kk := Lib.hid (lastSl_none (s := s.data.toList) (by simpa using h3))
      clear h3
      go_wp2
      go_ret
      refine ⟨?_, rfl⟩
      rw [kk.out]; rfl

theorem extract_mk {q : Bs} {k : Nat} : (mk q).extract 0 k = mk (q.take k) := ba_ext (by rw [Go.Lib.extract_data, mk_list, mk_list, Nat.sub_zero, List.drop_zero])
theorem parent_calls (p : ByteArray) (w : World) (hp : p.size ≤ 1099511627775) :
    Calls Tryz.prog 22 #[.string p] w fun e w' => e = .returned (.string (mk (parentP p.data.toList))) ∧ Below w.heap.size w w' := by
  have hcl := clean_len p.data.toList
  have hb := lastSl_lt (clean p.data.toList)
  have hC := Lib.hid (fun w0 => clean_calls p w0 hp)
  have hpar := (clean_parts p.data.toList).1
  rw [← hpar]
  clear hpar
  generalize clean p.data.toList = q at *
  have hqs : q.length ≤ 1099511627775 := by rw [← Go.Lib.size_eq] at hcl; omega
  have hS := Lib.hid (fun w0 => slash_calls (mk q) w0 (by rw [mk_size]; exact hqs))
  rw [mk_list] at hS
  have hmk := mk_size q
  generalize hQ : mk q = Q at *
  have kq := Lib.hid hQ
  have hqQ : Q.size ≤ 1099511627775 := by omega
  have hbQ : lastSl q < Q.size := by omega
  generalize lastSl q = n at *
  clear hQ hcl hqs hmk
  by_cases h0 : 0 ≤ n
  · obtain ⟨k, rfl⟩ : ∃ k : Nat, n = k := ⟨n.toNat, by omega⟩
    have hk : k < Q.size := by omega
    go_enter Tryz.func22, Tryz.ntmps22
    go_wp2_with (go_at_call 23; refine (hC.out _).mono ?_; rintro e w1 ⟨rfl, hb⟩; have kb := Lib.hid hb; clear hb)
    go_wp2_with (go_at_call 36; refine (hS.out _).mono ?_; rintro e w2 ⟨rfl, rfl⟩)
    go_ret
    refine ⟨?_, kb.out⟩
    rw [← kq.out, show (max 0 (k : Int)).toNat = k by omega, ← extract_mk]; rfl
  · obtain rfl : n = -1 := by omega
    go_enter Tryz.func22, Tryz.ntmps22
    go_wp2_with (go_at_call 23; refine (hC.out _).mono ?_; rintro e w1 ⟨rfl, hb⟩; have kb := Lib.hid hb; clear hb)
    go_wp2_with (go_at_call 36; refine (hS.out _).mono ?_; rintro e w2 ⟨rfl, rfl⟩)
    go_ret
    refine ⟨?_, kb.out⟩
    rw [← kq.out, show (max 0 (-1 : Int)).toNat = 0 by decide, ← extract_mk]; rfl
end Go.Proofs.YtnnepcodghfcmaaGreatDoor
