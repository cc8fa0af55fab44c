/-
  The reference's slashed, Clean, Parent: walks. Conditions: texts of at most 2^40 bytes.
-/
import Derived.Test.YtejofgdglpmlkaaGreatDoorVRefN
namespace Go.Proofs.YtejofgdglpmlkaaGreatDoor
open Go.RowKit

theorem LooseS.less {w : World} {B n cap : Nat} {a : Option Addr} {l : List Bs} (h : LooseS w B (.slice a n cap) l) : LooseS w B (.slice a (n - 1) cap) l.dropLast := by
  rcases h with ⟨e, rfl⟩ | ⟨g', cap', cur, e, hb, hg, hn, hm, hc, ht⟩
  · injection e with e1 e2 e3
    subst e1 e2 e3
    exact Or.inl ⟨rfl, rfl⟩
  · injection e with e1 e2 e3
    subst e1 e2 e3
    refine Or.inr ⟨g', cap, cur, by simp, hb, hg, by simp; omega, hm, hc, ?_⟩
    rw [List.length_dropLast]
    have : (cur.toList.take l.length).take (l.length - 1) = (bcells l).take (l.length - 1) := by rw [ht]
    rw [List.take_take, Nat.min_eq_left (by omega)] at this
    rw [this, List.dropLast_eq_take]
    simp [bcells, List.map_take]
theorem LooseS.cap {w : World} {B n cap : Nat} {a : Option Addr} {l : List Bs} (h : LooseS w B (.slice a n cap) l) (h0 : l ≠ []) : (n : Int) - 1 ≤ (cap : Int) ∧ (cap : Int) ≤ 9223372036854775807 := by
  rcases h with ⟨e, e'⟩ | ⟨g', cap', cur, e, _, _, hn, hm, _⟩
  · exact absurd e' h0
  · injection e with e1 e2 e3
    subst e2 e3
    unfold maxLen at hm
    omega
theorem mk_empty : mk [] = ⟨#[]⟩ := rfl
theorem mk_slash : mk [47] = ⟨#[47]⟩ := rfl
theorem mk_app (a b : Bs) : mk a ++ mk b = mk (a ++ b) := ba_ext (by rw [ba_append, mk_list, mk_list, mk_list])
theorem joinS_take {l : List Bs} {k : Nat} {x : Bs} (h : l[k]? = some x) : joinS (l.take (k + 1)) = if k = 0 then x else joinS (l.take k) ++ 47 :: x := by
  rw [take_more h]
  split
  · subst k; rw [List.take_zero, List.nil_append, joinS_one]
  · have hk := (List.getElem?_eq_some_iff.1 h).1
    rw [joinS_snoc]
    intro e
    have := congrArg List.length e
    simp only [List.length_take, List.length_nil] at this
    omega
theorem tot_take (l : List Bs) (k : Nat) : tot (l.take k) ≤ tot l := by
  have := tot_append (l.take k) (l.drop k)
  rw [List.take_append_drop] at this
  omega
set_option maxRecDepth 100000 in
set_option maxHeartbeats 1000000 in
theorem refslashed_calls (B : Nat) (v : Value) (l : List Bs) (w : World) (h : LooseS w B v l) (hl : tot l ≤ 17592186044416) :
    Calls Tryz.prog 57 #[v] w fun e w' => e = .returned (.string (mk (joinS l))) ∧ w = w' := by
  obtain ⟨oa, oc, hov⟩ := h.form
  subst hov
  have hll := tot_len l
  have kh := Lib.hid h
  clear h
  go_enter Tryz.func57, Tryz.ntmps57
  go_wp2
  go_loop [3, 4] (fun sv iv => ∃ k : Nat, k ≤ l.length ∧ iv = .int .i64 k ∧ sv = .string (mk (joinS (l.take k)))) (fun _ iv => l.length - (intOf iv).toNat)
  case atStart => exact ⟨0, Nat.zero_le _, rfl, rfl⟩
  case round =>
    obtain ⟨k, hk, rfl, rfl⟩ := hrel
    by_cases hlt : k < l.length
    · obtain ⟨x, hx⟩ : ∃ x, l[k]? = some x := ⟨_, List.getElem?_eq_getElem hlt⟩
      obtain ⟨g, cap', e, hbg, hg, hcell⟩ := kh.out.cells hx
      injection e with e1 e2 e3
      subst e1 e3
      have kj := Lib.hid (joinS_take hx)
      have hs1 : (mk (joinS (l.take k))).size ≤ 17592186044416 := by rw [mk_size]; have := joinS_len (l.take k); have := tot_take l k; omega
      have hs2 : (mk x).size ≤ 17592186044416 := by rw [mk_size]; have := tot_mem (List.mem_of_getElem? hx); omega
      have kx := Lib.hid hx
      clear hx
      by_cases h0 : k = 0
      · have hk1 : ¬ (0 : Int) < (k : Int) := by omega
        have k0 := Lib.hid h0
        clear h0
        go_wp2
        go_round
        case rel => exact ⟨k + 1, by omega, by go_num, by rw [kj.out, if_pos k0.out, mk_app, k0.out]; simp [joinS_nil]⟩
        case measure => simp [intOf]; omega
      · have hk1 : (0 : Int) < (k : Int) := by omega
        go_wp2
        go_round
        case rel => exact ⟨k + 1, by omega, by go_num, by rw [kj.out, if_neg h0, ← mk_slash, mk_app, mk_app]; simp⟩
        case measure => simp [intOf]; omega
    · have hkl : k = l.length := by omega
      subst hkl
      rw [List.take_length]
      go_wp2
      go_ret
      exact ⟨rfl, rfl⟩
theorem rstep_tot (l : List Bs) (n : Bs) : tot (rstep l n) ≤ tot l + n.length + 1 := by
  unfold rstep
  split
  · omega
  · split
    · have := tot_dropLast l; omega
    · rw [tot_append]; simp [tot]; omega
theorem rfold_tot : ∀ (r acc : List Bs), tot (r.foldl rstep acc) ≤ tot acc + tot r
  | [], acc => by simp [tot]
  | x :: r, acc => by
    have h1 := rfold_tot r (rstep acc x)
    have h2 := rstep_tot acc x
    rw [List.foldl_cons]
    have : tot (x :: r) = x.length + 1 + tot r := by simp [tot]
    omega
theorem rfold_take {L : List Bs} {k : Nat} {x : Bs} (h : L[k]? = some x) : (L.take (k + 1)).foldl rstep [] = rstep ((L.take k).foldl rstep []) x := by
  rw [take_more h, List.foldl_append]; rfl
theorem mk_ne {a b : Bs} (h : a ≠ b) : ((mk a).toList == (mk b).toList) = false := ba_ne (fun e => h (mk_inj e))
set_option maxRecDepth 100000 in
set_option maxHeartbeats 1000000 in
theorem refClean_calls (p : ByteArray) (w : World) (hp : p.size ≤ 1099511627775) :
    Calls Tryz.prog 54 #[.string p] w fun e w' => e = .returned (.string (mk (clean p.data.toList))) ∧ Below w.heap.size w w' := by
  have hN := Lib.hid (refNames_calls p w hp)
  go_enter Tryz.func54, Tryz.ntmps54
  go_wp2_with (go_at_call 55; refine (hN.out).mono ?_; rintro e w1 ⟨v, rfl, hl, hb⟩; obtain ⟨na, nc, hnv⟩ := hl.form; subst hnv; have kl := Lib.hid hl; have kb := Lib.hid hb; clear hl hb)
  have kcl := Lib.hid (rclean_eq p.data.toList)
  have htot := rnames_tot p.data.toList
  rw [← Go.Lib.size_eq] at htot
  generalize rnames p.data.toList = L at *
  have hLl := tot_len L
  clear hN
  go_loopw [4, 5] (fun ov iv wr => ∃ i : Nat, i ≤ L.length ∧ iv = .int .i64 i ∧ LooseS wr w1.heap.size ov ((L.take i).foldl rstep []) ∧ Below w1.heap.size w1 wr) (fun _ iv _ => L.length - (intOf iv).toNat)
  case atStart => exact ⟨0, Nat.zero_le _, rfl, LooseS.nil _ _, Below.refl _ _⟩
  case round =>
    obtain ⟨i, hi, rfl, hL, hB⟩ := hrel
    have hft := rfold_tot (L.take i) []
    have htt := tot_take L i
    have hfl := tot_len ((L.take i).foldl rstep [])
    have h0t : tot [] = 0 := rfl
    by_cases hlt : i < L.length
    · obtain ⟨x, hx⟩ : ∃ x, L[i]? = some x := ⟨_, List.getElem?_eq_getElem hlt⟩
      obtain ⟨g, cap', e, hbg, hg, hcell0⟩ := kl.out.cells hx
      injection e with e1 e2 e3
      subst e1 e3
      have hcell := (hB.cell (p := ⟨g, i, none⟩) hg).trans hcell0
      have kf := Lib.hid (rfold_take hx)
      have kx := Lib.hid hx
      have kB := Lib.hid hB
      have hwB := hB.size
      clear hx hcell0 hB
      generalize hacc : (L.take i).foldl rstep [] = acc at *
      clear hacc
      obtain ⟨oa, oc, hov⟩ := hL.form
      subst hov
      have kL := Lib.hid hL
      by_cases h1 : x = [46]
      · have kr := Lib.hid (show rstep acc x = acc by unfold rstep; rw [if_pos h1])
        rw [h1, show mk [46] = ⟨#[46]⟩ from rfl] at hcell
        clear h1 hL
        go_wp2
        go_roundw
        case rel => exact ⟨i + 1, by omega, by go_num, by rw [kf.out, kr.out]; exact kL.out, kB.out⟩
        case measure => simp [intOf]; omega
      · by_cases h2 : x = [46, 46]
        · have kr := Lib.hid (show rstep acc x = acc.dropLast by unfold rstep; rw [if_neg h1, if_pos h2])
          rw [h2, show mk [46, 46] = ⟨#[46, 46]⟩ from rfl] at hcell
          clear h1 h2
          by_cases h0 : 0 < acc.length
          · have hcap : acc.length ≤ oc ∧ oc ≤ maxLen := by
              rcases hL with ⟨e, e'⟩ | ⟨g', cap', cur, e, _, _, hn, hm, _⟩
              · rw [e'] at h0; simp at h0
              · injection e with e1 e2 e3; subst e3; exact ⟨hn, hm⟩
            obtain ⟨hcap1, hcap2⟩ := hcap
            unfold maxLen at hcap2
            have z1 : (1 : Int) ≤ (acc.length : Int) := by omega
            have z2 : (acc.length : Int) - 1 ≤ (oc : Int) := by omega
            have kq := Lib.hid (LooseS.less kL.out)
            clear hL
            go_wp2
            go_roundw
            case rel => exact ⟨i + 1, by omega, by go_num, by rw [kf.out, kr.out]; simpa using kq.out, kB.out⟩
            case measure => simp [intOf]; omega
          · have hz : acc = [] := List.length_eq_zero_iff.1 (by omega)
            subst hz
            clear hL
            go_wp2
            go_roundw
            case rel => exact ⟨i + 1, by omega, by go_num, by rw [kf.out, kr.out]; exact kL.out, kB.out⟩
            case measure => simp [intOf]; omega
        · have kr := Lib.hid (show rstep acc x = acc ++ [x] by unfold rstep; rw [if_neg h1, if_neg h2])
          have q1 : ((mk x).toList == [46]) = false := by rw [Go.Lib.toList_data, mk_list, beq_eq_false_iff_ne]; exact h1
          have q2 : ((mk x).toList == [46, 46]) = false := by rw [Go.Lib.toList_data, mk_list, beq_eq_false_iff_ne]; exact h2
          clear h1 h2 hL
          have hn2 : acc.length ≤ 1099511627776 := by omega
          have kml := Lib.hid (mk_list x)
          generalize hS : mk x = S at *
          clear hS
          have kc := Lib.hid (one_new wr (.string S) 9)
          have kw := Lib.hid (kL.out.grown (World.grownBy_alloc wr (.cells #[.string S] 9) none) (none_lt w1.heap.size))
          have ka := Lib.hid (add_zero' wr.heap.size)
          have kz : w1.heap.size ≤ (wr.alloc (.cells #[.string S] 9)).heap.size := by simp; omega
          go_wp2_with (at_builtin; refine wpList_append_loose _ rfl _ _ rfl w1.heap.size (.slice oa acc.length oc) rfl acc kw.out ⟨wr.heap.size, 0, none⟩ 1 S rfl kc.out ka.out hn2 kz ?_; intro g9 cap9 w9 hL9 hg9 hat; have kL9 := Lib.hid hL9; have kg9 := Lib.hid hg9; clear hat hL9 hg9)
          go_roundw
          case rel => exact ⟨i + 1, by omega, by go_num, by have := kL9.out; rw [kml.out] at this; rw [kf.out, kr.out]; simpa using this, below_row kB.out kB.out.size kg9.out (fun g e => (kL.out.lt g e).1)⟩
          case measure => simp [intOf]; omega
    · have hil : i = L.length := by omega
      subst hil
      rw [List.take_length] at hL hft hfl
      have kL := Lib.hid hL
      have kB := Lib.hid hB
      clear hL hB
      generalize hacc : L.foldl rstep [] = acc at *
      clear hacc
      have hsl := Lib.hid (fun v h => refslashed_calls w1.heap.size v acc wr h (by omega))
      go_wp2_with (go_at_call 57; refine (hsl.out _ kL.out).mono ?_; rintro e w2 ⟨rfl, rfl⟩)
      go_ret
      exact ⟨by rw [kcl.out]; rfl, kb.out.trans (kB.out.mono kb.out.size)⟩
set_option maxRecDepth 100000 in
set_option maxHeartbeats 1000000 in
theorem refParent_calls (p : ByteArray) (w : World) (hp : p.size ≤ 1099511627775) :
    Calls Tryz.prog 30 #[.string p] w fun e w' => e = .returned (.string (mk (parentP p.data.toList))) ∧ Below w.heap.size w w' := by
  have hcl := clean_len p.data.toList
  rw [← Go.Lib.size_eq] at hcl
  have hC := Lib.hid (refClean_calls p w hp)
  have kpar := Lib.hid (rparent_eq p.data.toList)
  generalize clean p.data.toList = q at *
  have hN := Lib.hid (fun w => refNames_calls (mk q) w (by rw [mk_size]; omega))
  have htot := rnames_tot q
  rw [mk_list] at hN
  generalize rnames q = L at *
  have hLl := tot_len L
  by_cases h0 : L = []
  · subst h0
    go_enter Tryz.func30, Tryz.ntmps30
    go_wp2_with (first | (go_at_call 54; refine (hC.out).mono ?_; rintro e w1 ⟨rfl, hb⟩; have kb1 := Lib.hid hb; clear hb) | (go_at_call 55; refine (hN.out _).mono ?_; rintro e w2 ⟨v, rfl, hl, hb⟩; obtain ⟨na, nc, hnv⟩ := hl.form; subst hnv; have kl := Lib.hid hl; have kb := Lib.hid hb; clear hl hb))
    go_ret
    exact ⟨by rw [← kpar.out]; rfl, kb1.out.trans (kb.out.mono kb1.out.size)⟩
  · have h1 : 0 < L.length := List.length_pos_iff.2 h0
    have z1 : ((L.length : Int) == 0) = false := by rw [beq_eq_false_iff_ne]; omega
    have z2 : (1 : Int) ≤ (L.length : Int) := by omega
    have htd := tot_dropLast L
    have hsl := Lib.hid (fun (B : Nat) (v : Value) (W : World) (h : LooseS W B v L.dropLast) => refslashed_calls B v L.dropLast W h (by omega))
    have k0 := Lib.hid h0
    clear h0
    go_enter Tryz.func30, Tryz.ntmps30
    go_wp2_with (first | (go_at_call 54; refine (hC.out).mono ?_; rintro e w1 ⟨rfl, hb⟩; have kb1 := Lib.hid hb; clear hb) | (go_at_call 55; refine (hN.out _).mono ?_; rintro e w2 ⟨v, rfl, hl, hb⟩; obtain ⟨na, nc, hnv⟩ := hl.form; subst hnv; have kl := Lib.hid hl; have kb := Lib.hid hb; clear hb; obtain ⟨z3, z4⟩ := hl.cap k0.out; have kq := Lib.hid (LooseS.less hl); clear hl) | (go_at_call 57; refine (hsl.out _ _ _ kq.out).mono ?_; rintro e w3 ⟨rfl, rfl⟩))
    go_ret
    exact ⟨by rw [kpar.out]; rfl, kb1.out.trans (kb.out.mono kb1.out.size)⟩
end Go.Proofs.YtejofgdglpmlkaaGreatDoor
