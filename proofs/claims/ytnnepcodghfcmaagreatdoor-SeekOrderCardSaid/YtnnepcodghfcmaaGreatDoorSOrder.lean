/-
  SeekOrder answers true. Condition: MaxLen's cell holds a number.
-/
import Derived.Test.YtnnepcodghfcmaaGreatDoorSColon
namespace Go.Proofs.YtnnepcodghfcmaaGreatDoor
open Go.RowKit

theorem set_self {l : Bs} {k : Nat} {x : UInt8} (h : l[k]? = some x) : l.set k x = l := by
  refine List.ext_getElem? (fun j => ?_)
  rw [List.getElem?_set]
  by_cases e : k = j
  · subst e
    rw [if_pos rfl, if_pos (List.getElem?_eq_some_iff.1 h).1, h]
  · rw [if_neg e]
/-- The base's paths are laid. -/
theorem box_pairs {w w5 : World} {t u : TypeId} {a b c d : ByteArray} (h : w.heap[w5.heap.size]? = some (.cells #[.slice none 0 0, .slice none 0 0, .slice none 0 0, .slice none 0 0, .slice none 0 0, .string ⟨#[]⟩, .slice none 0 0] t (0, 0))) :
    ((w.setCell ⟨w5.heap.size, 2, none⟩ (.slice (some ⟨w.heap.size, 0, none⟩) 2 2)).alloc (.cells #[.string a, .string b, .string c, .string d] u)).heap[w5.heap.size]? = some (.cells #[.slice none 0 0, .slice none 0 0, .slice (some ⟨w.heap.size, 0, none⟩) 2 2, .slice none 0 0, .slice none 0 0, .string ⟨#[]⟩, .slice none 0 0] t (0, 0)) ∧
    PairsAt ((w.setCell ⟨w5.heap.size, 2, none⟩ (.slice (some ⟨w.heap.size, 0, none⟩) 2 2)).alloc (.cells #[.string a, .string b, .string c, .string d] u)) (.slice (some ⟨w.heap.size, 0, none⟩) 2 2) [(a, b), (c, d)] ∧
    Below w5.heap.size w ((w.setCell ⟨w5.heap.size, 2, none⟩ (.slice (some ⟨w.heap.size, 0, none⟩) 2 2)).alloc (.cells #[.string a, .string b, .string c, .string d] u)) := by
  have hl := heap_lt h
  have hz : (w.setCell ⟨w5.heap.size, 2, none⟩ (.slice (some ⟨w.heap.size, 0, none⟩) 2 2)).heap.size = w.heap.size := by simp [World.setCell]
  refine ⟨(Below.heap_alloc _ _ _ (by rw [hz]; exact hl)).trans (set_heap h 2 _), ⟨_, 2, rfl, fun _ => ⟨w.heap.size, 0, rfl, fun k x hk => ?_⟩⟩, ((Below.refl w5.heap.size w).setCell (p := ⟨w5.heap.size, 2, none⟩) (Nat.le_refl _) _).alloc (by rw [hz]; omega) _⟩
  have hb := World.alloc_heap_new (w.setCell ⟨w5.heap.size, 2, none⟩ (.slice (some ⟨w.heap.size, 0, none⟩) 2 2)) (.cells #[.string a, .string b, .string c, .string d] u)
  rw [hz] at hb
  have hc := fun i => Go.Joins.cell_of_block hb i
  match k, hk with
  | 0, hk =>
    injection hk with hk
    subst hk
    exact ⟨hc 0, hc 1⟩
  | 1, hk =>
    injection hk with hk
    subst hk
    exact ⟨hc 2, hc 3⟩
theorem chk_and {a b : Bool} (h : (a && b) = true) : a = true ∧ b = true := by simpa using h
/-- A round's making of a directory. -/
theorem sk_mkdir {w w1 : World} {f a i : Nat} (hO : OwnFs w f (skSt a i).1 (skSt a i).2 1000 w1) (hi : i < 9) (ha : a < 10) :
    Calls Tryz.prog 6 #[.pointer (some ⟨f, 0, none⟩), .string (mk (dnm i))] w1 fun e w' => e = .returned (.int .i64 0) ∧ OwnFs w f (skMid a i) ((skSt a i).2 + 1) 1000 w' := by
  have hc := chk1_all i hi a ha
  unfold chk1 at hc
  obtain ⟨hc, h7⟩ := chk_and hc
  obtain ⟨hc, h6⟩ := chk_and hc
  obtain ⟨hc, h5⟩ := chk_and hc
  obtain ⟨hc, h4⟩ := chk_and hc
  obtain ⟨hc, h3⟩ := chk_and hc
  obtain ⟨h1, h2⟩ := chk_and hc
  have e4 := of_decide_eq_true h4
  have e6 := of_decide_eq_true h6
  have e7 := of_decide_eq_true h7
  refine own_mkdir hO (by rw [mk_size]; simp [dnm]) (by rw [mk_list]; exact (chk5_all i (by omega)).1) (lookNone_eq h1) (by omega) e6 (by omega) ?_
  unfold mkdirP
  rw [if_neg (by simp [h2])]
  rfl
/-- A round's making of a file. -/
theorem sk_write {w w1 : World} {f a i : Nat} (hO : OwnFs w f (skMid a i) ((skSt a i).2 + 1) 1000 w1) (hi : i < 9) (ha : a < 10) (hai : a ≤ i) :
    Calls Tryz.prog 7 #[.pointer (some ⟨f, 0, none⟩), .string (mk (fnm i)), .slice none 0 0, .bool false] w1 fun e w' => e = .returned (.int .i64 0) ∧ OwnFs w f (skSt a (i + 1)).1 (skSt a (i + 1)).2 1000 w' := by
  have hc := chk1_all i hi a ha
  unfold chk1 at hc
  obtain ⟨hc, h7⟩ := chk_and hc
  obtain ⟨hc, h6⟩ := chk_and hc
  obtain ⟨hc, h5⟩ := chk_and hc
  obtain ⟨hc, h4⟩ := chk_and hc
  obtain ⟨hc, h3⟩ := chk_and hc
  have h3' : (lookNone (lookQ (skMid a i) (fnm i)) && fitsB (skMid a i) 1000 1 0) = true := by simpa [hai] using h3
  obtain ⟨h1, h2⟩ := chk_and h3'
  have e5 := of_decide_eq_true h5
  have e6 := of_decide_eq_true h6
  have e7 := of_decide_eq_true h7
  refine own_write (bb := []) (Tb := fun _ => False) hO (Below.refl _ _) (by rw [mk_size]; simp [fnm, dnm]) (by rw [mk_list]; exact (chk5_all i (by omega)).2.1) (lookNone_eq h1) (by omega) (by omega) (by omega) (BytesAt.nil _ _) (fun _ hk => hk.elim) (by decide) ?_
  unfold writeTail
  rw [if_neg (by simp), show ((([] : Bs).length : Nat) : Int) = 0 from rfl, if_neg (by simp [h2]), skSt, if_pos hai]
  rfl
/-- The file that stands by itself. -/
theorem sk_here {w w1 : World} {f a n : Nat} (hO : OwnFs w f (skSt a n).1 (skSt a n).2 1000 w1) (hn : n < 10) (ha : a < 10) :
    Calls Tryz.prog 7 #[.pointer (some ⟨f, 0, none⟩), .string ⟨#[120]⟩, .slice none 0 0, .bool false] w1 fun e w' => e = .returned (.int .i64 0) ∧ OwnFs w f (skEnd a n true) ((skSt a n).2 + 1) 1000 w' := by
  have hc := chk2_all n hn a ha
  unfold chk2 at hc
  obtain ⟨hc, h5⟩ := chk_and hc
  obtain ⟨hc, h4⟩ := chk_and hc
  obtain ⟨hc, h3⟩ := chk_and hc
  obtain ⟨h1, h2⟩ := chk_and hc
  have e3 := of_decide_eq_true h3
  have e4 := of_decide_eq_true h4
  have e5 := of_decide_eq_true h5
  refine own_write (bb := []) (Tb := fun _ => False) hO (Below.refl _ _) (by decide) (chk5_all 0 (by decide)).2.2 (lookNone_eq h1) (by omega) (by omega) (by omega) (BytesAt.nil _ _) (fun _ hk => hk.elim) (by decide) ?_
  unfold writeTail
  rw [if_neg (by simp), show ((([] : Bs).length : Nat) : Int) = 0 from rfl, if_neg (by simp [h2])]
  rfl
/-- What is found. -/
theorem sk_find {w w1 : World} {f a n : Nat} {clock mx : Int} {here vp : Bool} (hO : OwnFs w f (skEnd a n here) clock 1000 w1) (hn : n < 10) (hn1 : 1 ≤ n) (ha : a < 10) (han : a ≤ n) (pv : Value) (hpv : PairsAt w1 pv (plOf vp n)) (hmx : w1.cell? ⟨1, 0, none⟩ = some (.int .i64 mx)) :
    Calls Tryz.prog 8 #[baseV pv, .string (dsOf vp n), .pointer (some ⟨f, 0, none⟩), .string ⟨#[120]⟩] w1 fun e w' => e = .returned (.tuple #[.string (mk (want a n here).1), .bool (want a n here).2]) ∧ OwnFs w f (skEnd a n here) clock 1000 w' ∧ Below w1.heap.size w1 w' := by
  have hc := chk3_all n hn a ha han hn1 here vp
  unfold chk3 at hc
  obtain ⟨hc, h3⟩ := chk_and hc
  obtain ⟨h1, h2⟩ := chk_and hc
  have hd := chk4_all n hn vp
  unfold chk4 at hd
  obtain ⟨hd, g4⟩ := chk_and hd
  obtain ⟨hd, g3⟩ := chk_and hd
  obtain ⟨g1, g2⟩ := chk_and hd
  have e1 := of_decide_eq_true g1
  have e2 := of_decide_eq_true g2
  have e3 := of_decide_eq_true g3
  have e4 := of_decide_eq_true g4
  refine own_find hO pv ⟨#[120]⟩ (dsOf vp n) (plOf vp n) mx (mk (want a n here).1, (want a n here).2) (by decide) (by omega) (by omega) (by omega) ?_ ?_ hpv hmx ?_ ?_
  · intro x hx
    cases vp with
    | false => cases hx
    | true =>
      simp only [plOf, if_true, skPl, List.mem_cons, List.not_mem_nil, or_false] at hx
      rcases hx with rfl | rfl
      · exact ⟨by decide, by decide⟩
      · refine ⟨show (⟨#[37]⟩ : ByteArray).size ≤ 2147483647 by decide, ?_⟩
        show (mk (noColon (skDirs n))).size ≤ 2147483647
        rw [mk_size]; simp [noColon]; omega
  · cases vp <;> simp [plOf, skPl]
  · intro x hx
    have := List.all_eq_true.1 h3 x hx
    obtain ⟨k1, k2⟩ := chk_and this
    have := of_decide_eq_true k1
    exact ⟨by omega, by simpa using k2⟩
  · have q1 := eq_of_beq h1
    have q2 := eq_of_beq h2
    refine Prod.ext ?_ q2
    show (findL _ _ _).1 = mk _
    rw [← q1, mk_back]
theorem sk_digit {i : Nat} (hi : i < 10) : (⟨#[48, 49, 50, 51, 52, 53, 54, 55, 56, 57]⟩ : ByteArray).extract i (i + 1) = mk [UInt8.ofNat (48 + i)] := ba_ext (by rw [digit_at i hi, mk_list])
theorem sk_dname (i : Nat) : (⟨#[100]⟩ : ByteArray) ++ mk [UInt8.ofNat (48 + i)] = mk (dnm i) := ba_ext (by rw [ba_append, mk_list, mk_list]; rfl)
theorem sk_fname (i : Nat) : mk (dnm i) ++ (⟨#[47, 120]⟩ : ByteArray) = mk (fnm i) := ba_ext (by rw [ba_append, mk_list, mk_list]; rfl)
theorem sk_dirs {i : Nat} {ds : ByteArray} (h : ds = mk (skDirs i)) : (if 0 < i then ds ++ ⟨#[58]⟩ else ds) ++ mk (dnm i) = mk (skDirs (i + 1)) := by
  subst h
  refine ba_ext ?_
  rw [skDirs]
  by_cases h0 : 0 < i
  · rw [if_pos h0, if_pos h0, ba_append, ba_append, mk_list, mk_list, mk_list]
  · rw [if_neg h0, if_neg h0, ba_append, mk_list, mk_list, mk_list]
theorem sk_dlen {i : Nat} (hi : i < 10) : (skDirs i).length ≤ 100 := by
  have hd := chk4_all i hi true
  unfold chk4 at hd
  exact of_decide_eq_true (chk_and hd).2
theorem skSt_low {a i : Nat} (h : ¬ a ≤ i) : skSt a (i + 1) = (skMid a i, (skSt a i).2 + 1) := by rw [skSt, if_neg h]; rfl
set_option maxRecDepth 100000 in
set_option maxHeartbeats 8000000 in
theorem order_calls (n a : Int) (here vp : Bool) (mx : Int) (w : World) (hmx : w.cell? ⟨1, 0, none⟩ = some (.int .i64 mx)) : Calls Tryz.prog 3 #[.int .i64 n, .int .i64 a, .bool here, .bool vp] w fun e w' => e = .returned (.bool true) ∧ Below w.heap.size w w' := by
  have hA := Lib.hid (skalive_calls mx w hmx)
  have hm0 := World.block_lt_of_cell? w _ hmx
  have km := Lib.hid (fun (W : World) (h : Below w.heap.size w W) => (h.cell (p := ⟨1, 0, none⟩) hm0).trans hmx)
  clear hmx
  by_cases h1 : n < 1
  · go_enter Tryz.func3, Tryz.ntmps3
    go_wp2_with (go_at_call 4; refine hA.out.mono ?_; rintro e w1 ⟨rfl, hb⟩; have kb := Lib.hid hb; clear hb)
    go_ret
    exact ⟨rfl, kb.out⟩
  by_cases h2 : 9 < n
  · go_enter Tryz.func3, Tryz.ntmps3
    go_wp2_with (go_at_call 4; refine hA.out.mono ?_; rintro e w1 ⟨rfl, hb⟩; have kb := Lib.hid hb; clear hb)
    go_ret
    exact ⟨rfl, kb.out⟩
  by_cases h3 : a < 0
  · go_enter Tryz.func3, Tryz.ntmps3
    go_wp2_with (go_at_call 4; refine hA.out.mono ?_; rintro e w1 ⟨rfl, hb⟩; have kb := Lib.hid hb; clear hb)
    go_ret
    exact ⟨rfl, kb.out⟩
  by_cases h4 : n < a
  · go_enter Tryz.func3, Tryz.ntmps3
    go_wp2_with (go_at_call 4; refine hA.out.mono ?_; rintro e w1 ⟨rfl, hb⟩; have kb := Lib.hid hb; clear hb)
    go_ret
    exact ⟨rfl, kb.out⟩
  obtain ⟨n, rfl⟩ : ∃ m : Nat, n = m := ⟨n.toNat, by omega⟩
  obtain ⟨a, rfl⟩ : ∃ m : Nat, a = m := ⟨a.toNat, by omega⟩
  have hn : n < 10 := by omega
  have ha : a < 10 := by omega
  have han : a ≤ n := by omega
  have hn1 : 1 ≤ n := by omega
  go_enter Tryz.func3, Tryz.ntmps3
  go_wp2_with (first
    | (go_at_call 4; refine hA.out.mono ?_; rintro e w1 ⟨rfl, hb⟩; have kb := Lib.hid hb; clear hb)
    | (go_at_call 5; refine (own_new (w := w) (T := fun _ => False) kb.out (TreeAt.nil _ _) (fun _ hk => hk.elim) (fun _ hx => by cases hx) (fun _ hx => by cases hx) (by decide : rightP [] 0 1000 = 0)).mono ?_; rintro e w2 ⟨f, rfl, hO⟩; have kO := Lib.hid hO; clear hO))
  go_loopw [12, 13, 14] (fun dv iv _ wr => ∃ (i : Nat) (ds : ByteArray), i ≤ n ∧ iv = .int .i64 i ∧ dv = .string ds ∧ Hid (ds = mk (skDirs i)) ∧ Hid (OwnFs w f (skSt a i).1 (skSt a i).2 1000 wr)) (fun _ iv _ _ => n - (intOf iv).toNat)
  case atStart => exact ⟨0, ⟨#[]⟩, Nat.zero_le _, rfl, rfl, Lib.hid rfl, kO⟩
  case round =>
    obtain ⟨i, ds, hi, rfl, rfl, hds, kOi⟩ := hrel
    by_cases hlt : i < n
    · have hx1 := sk_digit (i := i) (by omega)
      have hx2 := sk_dname i
      have hx3 := sk_fname i
      have hs1 : (mk [UInt8.ofNat (48 + i)]).size = 1 := by rw [mk_size]; rfl
      have hs2 : (mk (dnm i)).size = 2 := by rw [mk_size]; rfl
      have hs3 : ds.size ≤ 100 := by rw [hds.out, mk_size]; exact sk_dlen (by omega)
      have hD := Lib.hid (sk_dirs hds.out)
      have kMk := Lib.hid (sk_mkdir kOi.out (by omega) ha)
      have kWr := Lib.hid (fun (hai : a ≤ i) (W : World) (hO : OwnFs w f (skMid a i) ((skSt a i).2 + 1) 1000 W) => sk_write hO (by omega) ha hai)
      have y1 : (i : Int) < (n : Int) := by omega
      have y2 : IntKind.i64.wrap ((i : Int) + 1) = ((i + 1 : Nat) : Int) := by rw [IntWalk.i64_in _ (by omega)]; omega
      have y3 : (0 : Int) ≤ (i : Int) := by omega
      have y4 : (i : Int) ≤ ((i + 1 : Nat) : Int) := by omega
      have y5 : ((i + 1 : Nat) : Int) ≤ 10 := by omega
      generalize mk [UInt8.ofNat (48 + i)] = E at *
      generalize mk (dnm i) = D at *
      generalize mk (fnm i) = F at *
      by_cases hai : a ≤ i
      · have y6 : (a : Int) ≤ (i : Int) := by omega
        have kWr := Lib.hid (kWr.out hai)
        by_cases h0 : 0 < i
        · have y7 : (0 : Int) < (i : Int) := by omega
          go_wp2_with (first
            | (go_at_call 6; refine (kMk.out).mono ?_; rintro e w3 ⟨rfl, hO⟩; have kO3 := Lib.hid hO; clear hO)
            | (go_at_call 7; refine (kWr.out _ kO3.out).mono ?_; rintro e w4 ⟨rfl, hO⟩; have kO4 := Lib.hid hO; clear hO))
          exact ⟨⟨i + 1, _, by omega, by go_num, rfl, Lib.hid (by have h := hD.out; rwa [if_pos h0] at h), kO4⟩, by simp [intOf]; omega⟩
        · have y7 : ¬ (0 : Int) < (i : Int) := by omega
          go_wp2_with (first
            | (go_at_call 6; refine (kMk.out).mono ?_; rintro e w3 ⟨rfl, hO⟩; have kO3 := Lib.hid hO; clear hO)
            | (go_at_call 7; refine (kWr.out _ kO3.out).mono ?_; rintro e w4 ⟨rfl, hO⟩; have kO4 := Lib.hid hO; clear hO))
          exact ⟨⟨i + 1, _, by omega, by go_num, rfl, Lib.hid (by have h := hD.out; rwa [if_neg h0] at h), kO4⟩, by simp [intOf]; omega⟩
      · have y6 : ¬ (a : Int) ≤ (i : Int) := by omega
        have hlow := Lib.hid (skSt_low hai)
        by_cases h0 : 0 < i
        · have y7 : (0 : Int) < (i : Int) := by omega
          go_wp2_with (first
            | (go_at_call 6; refine (kMk.out).mono ?_; rintro e w3 ⟨rfl, hO⟩; have kO3 := Lib.hid hO; clear hO)
            | (go_at_call 7; refine (kWr.out _ kO3.out).mono ?_; rintro e w4 ⟨rfl, hO⟩; have kO4 := Lib.hid hO; clear hO))
          exact ⟨⟨i + 1, _, by omega, by go_num, rfl, Lib.hid (by have h := hD.out; rwa [if_pos h0] at h), Lib.hid (by rw [hlow.out]; exact kO3.out)⟩, by simp [intOf]; omega⟩
        · have y7 : ¬ (0 : Int) < (i : Int) := by omega
          go_wp2_with (first
            | (go_at_call 6; refine (kMk.out).mono ?_; rintro e w3 ⟨rfl, hO⟩; have kO3 := Lib.hid hO; clear hO)
            | (go_at_call 7; refine (kWr.out _ kO3.out).mono ?_; rintro e w4 ⟨rfl, hO⟩; have kO4 := Lib.hid hO; clear hO))
          exact ⟨⟨i + 1, _, by omega, by go_num, rfl, Lib.hid (by have h := hD.out; rwa [if_neg h0] at h), Lib.hid (by rw [hlow.out]; exact kO3.out)⟩, by simp [intOf]; omega⟩
    · -- BEGIN PRINTED BY skorder.py
      obtain rfl : n = i := by omega
      obtain rfl := hds.out
      have y1 : ¬ (n : Int) < (n : Int) := by omega
      have hLd := sk_dlen hn
      cases here with
      | false =>
        have kE := Lib.hid (show OwnFs w f (skEnd a n false) (skSt a n).2 1000 wr from kOi.out)
        generalize (skSt a n).2 = cl at *
        go_upto_region 20 with (fail)
        obtain ⟨w5, hw5⟩ : ∃ x, x = wr := ⟨_, rfl⟩
        subst hw5
        clear kOi
        have kE0 := Lib.hid (kE.out.below (below_al (o := .cells #[.slice none 0 0, .slice none 0 0, .slice none 0 0, .slice none 0 0, .slice none 0 0, .string ⟨#[]⟩, .slice none 0 0] 38) (Below.refl _ _)))
        cases vp with
        | false =>
          have kE1 := kE0
          have kpv := Lib.hid (pairs_nil (w5.alloc (.cells #[.slice none 0 0, .slice none 0 0, .slice none 0 0, .slice none 0 0, .slice none 0 0, .string ⟨#[]⟩, .slice none 0 0] 38)))
          by_cases hae : a = n
          · have y8 : (a : Int) = (n : Int) := by omega
            have y9 : ((a : Int) == (n : Int)) = true := beq_iff_eq.2 y8
            have hw : want a n false = ([120], false) := by unfold want; simp [hae]
            have hf0 := sk_find (here := false) (vp := false) kE1.out hn hn1 ha han _ kpv.out (km.out _ kE1.out.1)
            rw [hw] at hf0
            have hF := Lib.hid (show Calls Tryz.prog 8 #[baseV (.slice none 0 0), .string (mk (skDirs n)), .pointer (some ⟨f, 0, none⟩), .string ⟨#[120]⟩] (w5.alloc (.cells #[.slice none 0 0, .slice none 0 0, .slice none 0 0, .slice none 0 0, .slice none 0 0, .string ⟨#[]⟩, .slice none 0 0] 38)) fun e w' => e = .returned (.tuple #[.string ⟨#[120]⟩, .bool false]) ∧ OwnFs w f (skEnd a n false) cl 1000 w' ∧ Below (World.heap (w5.alloc (.cells #[.slice none 0 0, .slice none 0 0, .slice none 0 0, .slice none 0 0, .slice none 0 0, .string ⟨#[]⟩, .slice none 0 0] 38))).size (w5.alloc (.cells #[.slice none 0 0, .slice none 0 0, .slice none 0 0, .slice none 0 0, .slice none 0 0, .string ⟨#[]⟩, .slice none 0 0] 38)) w' from hf0)
            clear y8 hf0 hw hae
            go_wp2_with (go_at_call 8; refine hF.out.mono ?_; rintro e wz ⟨rfl, hO, hb⟩; have kOz := Lib.hid hO; clear hO hb)
            go_ret
            exact ⟨rfl, kOz.out.1⟩
          · have y8 : ¬ (a : Int) = (n : Int) := by omega
            have y9 : ((a : Int) == (n : Int)) = false := beq_eq_false_iff_ne.2 y8
            have hw : want a n false = (fnm a, true) := by unfold want; simp [hae]
            have hf0 := sk_find (here := false) (vp := false) kE1.out hn hn1 ha han _ kpv.out (km.out _ kE1.out.1)
            rw [hw] at hf0
            have hF := Lib.hid (show Calls Tryz.prog 8 #[baseV (.slice none 0 0), .string (mk (skDirs n)), .pointer (some ⟨f, 0, none⟩), .string ⟨#[120]⟩] (w5.alloc (.cells #[.slice none 0 0, .slice none 0 0, .slice none 0 0, .slice none 0 0, .slice none 0 0, .string ⟨#[]⟩, .slice none 0 0] 38)) fun e w' => e = .returned (.tuple #[.string (mk (fnm a)), .bool true]) ∧ OwnFs w f (skEnd a n false) cl 1000 w' ∧ Below (World.heap (w5.alloc (.cells #[.slice none 0 0, .slice none 0 0, .slice none 0 0, .slice none 0 0, .slice none 0 0, .string ⟨#[]⟩, .slice none 0 0] 38))).size (w5.alloc (.cells #[.slice none 0 0, .slice none 0 0, .slice none 0 0, .slice none 0 0, .slice none 0 0, .string ⟨#[]⟩, .slice none 0 0] 38)) w' from hf0)
            have hx1 := sk_digit (i := a) ha
            have hx2 := sk_dname a
            have hx3 := sk_fname a
            have hs1 : (mk [UInt8.ofNat (48 + a)]).size = 1 := by rw [mk_size]; rfl
            have hs2 : (mk (dnm a)).size = 2 := by rw [mk_size]; rfl
            have z2 : IntKind.i64.wrap ((a : Int) + 1) = ((a + 1 : Nat) : Int) := by rw [IntWalk.i64_in _ (by omega)]; omega
            have z3 : (0 : Int) ≤ (a : Int) := by omega
            have z4 : (a : Int) ≤ ((a + 1 : Nat) : Int) := by omega
            have z5 : ((a + 1 : Nat) : Int) ≤ 10 := by omega
            have f1 : ((mk (fnm a)).toList == (mk (fnm a)).toList) = true := beq_self_eq_true _
            clear hf0 hw hae
            generalize mk [UInt8.ofNat (48 + a)] = E at *
            generalize mk (dnm a) = D at *
            generalize mk (fnm a) = F at *
            go_wp2_with (go_at_call 8; refine hF.out.mono ?_; rintro e wz ⟨rfl, hO, hb⟩; have kOz := Lib.hid hO; clear hO hb)
            go_ret
            exact ⟨rfl, kOz.out.1⟩
        | true =>
          go_upto_region 22 with (fail)
          have kX6 := Lib.hid (World.alloc_heap_new w5 (.cells #[.slice none 0 0, .slice none 0 0, .slice none 0 0, .slice none 0 0, .slice none 0 0, .string ⟨#[]⟩, .slice none 0 0] 38))
          have kz6 := Lib.hid (show (w5.alloc (.cells #[.slice none 0 0, .slice none 0 0, .slice none 0 0, .slice none 0 0, .slice none 0 0, .string ⟨#[]⟩, .slice none 0 0] 38)).heap.size = w5.heap.size + 1 by simp)
          have kb6 := Lib.hid (below_al (o := .cells #[.slice none 0 0, .slice none 0 0, .slice none 0 0, .slice none 0 0, .slice none 0 0, .string ⟨#[]⟩, .slice none 0 0] 38) (Below.refl w5.heap.size w5))
          generalize w5.alloc (.cells #[.slice none 0 0, .slice none 0 0, .slice none 0 0, .slice none 0 0, .slice none 0 0, .string ⟨#[]⟩, .slice none 0 0] 38) = w6 at *
          obtain ⟨Dn, hDn⟩ : ∃ D, skDirs n = D := ⟨_, rfl⟩
          have kDn := Lib.hid hDn
          rw [hDn] at hLd ⊢
          clear hDn
          have hbc := byte_conv w6 Dn
          have kB0 := Lib.hid (BRow.conv w6 Dn (by omega))
          have kb0 := Lib.hid (byte_below w6 Dn)
          have hlc := grownCap_ge w6 Dn.length 0 5
          generalize grownCap w6 Dn.length 0 5 = gc at *
          generalize byteW w6 Dn = w7 at *
          go_wp2_with fail
          go_loopw [17] (fun iv wr => ∃ k : Nat, k ≤ Dn.length ∧ iv = .int .i64 k ∧ Hid (BRow wr w6.heap.size gc (colTo k Dn)) ∧ Hid (Below w6.heap.size w6 wr)) (fun iv _ => Dn.length - (intOf iv).toNat)
          case atStart => exact ⟨0, Nat.zero_le _, rfl, Lib.hid (by rw [colTo_0]; exact kB0.out), kb0⟩
          case round =>
            obtain ⟨k, hk, rfl, kB, kb⟩ := hrel
            by_cases hlk : k < Dn.length
            · obtain ⟨x, hx⟩ : ∃ x, Dn[k]? = some x := ⟨_, List.getElem?_eq_getElem hlk⟩
              obtain ⟨c0, hl0⟩ := kB.out.at (colTo_at hx)
              have f0 := kB.out.free k (by rw [colTo_len]; exact hlk)
              have y2 : (k : Int) < (Dn.length : Int) := by omega
              have kst := Lib.hid (colTo_step hx)
              have kat := Lib.hid (colTo_at hx)
              clear hx
              by_cases h58 : x = 58
              · subst h58
                have c1 : wr.cell? ⟨w6.heap.size, k, none⟩ = some (.int .u8 58) := c0
                clear c0
                go_wp2_with fail
                exact ⟨⟨k + 1, by omega, by go_num, Lib.hid (by rw [kst.out, if_pos rfl]; exact kB.out.set (u := 32) (by rw [colTo_len]; exact hlk)), Lib.hid (kb.out.setCell (p := ⟨w6.heap.size, k, none⟩) (Nat.le_refl _) _)⟩, by simp [intOf]; omega⟩
              · have e58 : ((x.toNat : Int) == 58) = false := by
                  rw [beq_eq_false_iff_ne]; intro e; exact h58 (UInt8.toNat_inj.1 (by show x.toNat = 58; omega))
                have kst2 := Lib.hid (show colTo (k + 1) Dn = colTo k Dn by rw [kst.out, if_neg h58]; exact set_self kat.out)
                clear h58
                go_wp2_with fail
                exact ⟨⟨k + 1, by omega, by go_num, Lib.hid (by rw [kst2.out]; exact kB.out), kb⟩, by simp [intOf]; omega⟩
            · obtain rfl : Dn.length = k := by omega
              have y2 : ¬ (Dn.length : Int) < (Dn.length : Int) := by omega
              have hcv : (convert 39 9 (.slice (some ⟨w6.heap.size, 0, none⟩) Dn.length gc)).run Tryz.prog wr = .ok (.string (mk (noColon Dn))) wr := by
                have h := bytes_str kB.out.bytes
                rw [colTo_len, colTo_all] at h; exact h
              obtain ⟨wc, hwc⟩ : ∃ x, x = wr := ⟨_, rfl⟩
              subst hwc
              have hXc := (kb.out.block w5.heap.size (by have := kz6.out; omega)).trans kX6.out
              have kXc := Lib.hid hXc
              have x2 := Go.Joins.cell_of_block hXc 2
              have fx2 := Go.Joins.unfrozen_of_block hXc 2
              have hxl := heap_lt hXc
              clear hXc
              go_upto_region 30 with (fail)
              obtain ⟨hW, hP, hS⟩ := box_pairs (t := 38) (u := 41) (a := ⟨#[121, 37]⟩) (b := ⟨#[100, 48]⟩) (c := ⟨#[37]⟩) (d := mk (noColon Dn)) kXc.out
              generalize ((wc.setCell ⟨w5.heap.size, 2, none⟩ (.slice (some ⟨wc.heap.size, 0, none⟩) 2 2)).alloc (.cells #[.string ⟨#[121, 37]⟩, .string ⟨#[100, 48]⟩, .string ⟨#[37]⟩, .string (mk (noColon Dn))] 41)) = w8 at *
              have kE1 := Lib.hid (kE.out.below ((kb6.out.trans (kb.out.mono (by have := kz6.out; omega))).trans (hS.mono (by have := kb6.out.size; have := kb.out.size; omega))))
              have kpv := Lib.hid (show PairsAt w8 (.slice (some ⟨wc.heap.size, 0, none⟩) 2 2) (plOf true n) by show PairsAt w8 _ (skPl n); unfold skPl; rw [kDn.out]; exact hP)
              have g0 := Go.Joins.cell_of_block hW 0
              have g1 := Go.Joins.cell_of_block hW 1
              have g2 := Go.Joins.cell_of_block hW 2
              have g3 := Go.Joins.cell_of_block hW 3
              have g4 := Go.Joins.cell_of_block hW 4
              have g5 := Go.Joins.cell_of_block hW 5
              have g6 := Go.Joins.cell_of_block hW 6
              have hwl := heap_lt hW
              clear x2 fx2 hP hS hW
              by_cases hae : a = n
              · have y8 : (a : Int) = (n : Int) := by omega
                have y9 : ((a : Int) == (n : Int)) = true := beq_iff_eq.2 y8
                have hw : want a n false = ([120], false) := by unfold want; simp [hae]
                have hf0 := sk_find (here := false) (vp := true) kE1.out hn hn1 ha han _ kpv.out (km.out _ kE1.out.1)
                rw [hw] at hf0
                have hF := Lib.hid (show Calls Tryz.prog 8 #[baseV (.slice (some ⟨wc.heap.size, 0, none⟩) 2 2), .string (⟨#[]⟩), .pointer (some ⟨f, 0, none⟩), .string ⟨#[120]⟩] w8 fun e w' => e = .returned (.tuple #[.string ⟨#[120]⟩, .bool false]) ∧ OwnFs w f (skEnd a n false) cl 1000 w' ∧ Below (World.heap w8).size w8 w' from hf0)
                clear y8 hf0 hw hae
                go_wp2_with (go_at_call 8; refine hF.out.mono ?_; rintro e wz ⟨rfl, hO, hb⟩; have kOz := Lib.hid hO; clear hO hb)
                go_ret
                exact ⟨rfl, kOz.out.1⟩
              · have y8 : ¬ (a : Int) = (n : Int) := by omega
                have y9 : ((a : Int) == (n : Int)) = false := beq_eq_false_iff_ne.2 y8
                have hw : want a n false = (fnm a, true) := by unfold want; simp [hae]
                have hf0 := sk_find (here := false) (vp := true) kE1.out hn hn1 ha han _ kpv.out (km.out _ kE1.out.1)
                rw [hw] at hf0
                have hF := Lib.hid (show Calls Tryz.prog 8 #[baseV (.slice (some ⟨wc.heap.size, 0, none⟩) 2 2), .string (⟨#[]⟩), .pointer (some ⟨f, 0, none⟩), .string ⟨#[120]⟩] w8 fun e w' => e = .returned (.tuple #[.string (mk (fnm a)), .bool true]) ∧ OwnFs w f (skEnd a n false) cl 1000 w' ∧ Below (World.heap w8).size w8 w' from hf0)
                have hx1 := sk_digit (i := a) ha
                have hx2 := sk_dname a
                have hx3 := sk_fname a
                have hs1 : (mk [UInt8.ofNat (48 + a)]).size = 1 := by rw [mk_size]; rfl
                have hs2 : (mk (dnm a)).size = 2 := by rw [mk_size]; rfl
                have z2 : IntKind.i64.wrap ((a : Int) + 1) = ((a + 1 : Nat) : Int) := by rw [IntWalk.i64_in _ (by omega)]; omega
                have z3 : (0 : Int) ≤ (a : Int) := by omega
                have z4 : (a : Int) ≤ ((a + 1 : Nat) : Int) := by omega
                have z5 : ((a + 1 : Nat) : Int) ≤ 10 := by omega
                have f1 : ((mk (fnm a)).toList == (mk (fnm a)).toList) = true := beq_self_eq_true _
                clear hf0 hw hae
                generalize mk [UInt8.ofNat (48 + a)] = E at *
                generalize mk (dnm a) = D at *
                generalize mk (fnm a) = F at *
                go_wp2_with (go_at_call 8; refine hF.out.mono ?_; rintro e wz ⟨rfl, hO, hb⟩; have kOz := Lib.hid hO; clear hO hb)
                go_ret
                exact ⟨rfl, kOz.out.1⟩
      | true =>
        have kHr := Lib.hid (sk_here kOi.out hn ha)
        obtain ⟨cl, hcl⟩ : ∃ c, c = (skSt a n).2 + 1 := ⟨_, rfl⟩
        rw [← hcl] at kHr
        clear hcl
        go_upto_region 20 with (go_at_call 7; refine (kHr.out).mono ?_; rintro e w5 ⟨rfl, hO⟩; have kE := Lib.hid hO; clear hO)
        clear kOi
        have kE0 := Lib.hid (kE.out.below (below_al (o := .cells #[.slice none 0 0, .slice none 0 0, .slice none 0 0, .slice none 0 0, .slice none 0 0, .string ⟨#[]⟩, .slice none 0 0] 38) (Below.refl _ _)))
        cases vp with
        | false =>
          have kE1 := kE0
          have kpv := Lib.hid (pairs_nil (w5.alloc (.cells #[.slice none 0 0, .slice none 0 0, .slice none 0 0, .slice none 0 0, .slice none 0 0, .string ⟨#[]⟩, .slice none 0 0] 38)))
          have hF := Lib.hid (show Calls Tryz.prog 8 #[baseV (.slice none 0 0), .string (mk (skDirs n)), .pointer (some ⟨f, 0, none⟩), .string ⟨#[120]⟩] (w5.alloc (.cells #[.slice none 0 0, .slice none 0 0, .slice none 0 0, .slice none 0 0, .slice none 0 0, .string ⟨#[]⟩, .slice none 0 0] 38)) fun e w' => e = .returned (.tuple #[.string ⟨#[120]⟩, .bool true]) ∧ OwnFs w f (skEnd a n true) cl 1000 w' ∧ Below (World.heap (w5.alloc (.cells #[.slice none 0 0, .slice none 0 0, .slice none 0 0, .slice none 0 0, .slice none 0 0, .string ⟨#[]⟩, .slice none 0 0] 38))).size (w5.alloc (.cells #[.slice none 0 0, .slice none 0 0, .slice none 0 0, .slice none 0 0, .slice none 0 0, .string ⟨#[]⟩, .slice none 0 0] 38)) w' from sk_find (here := true) (vp := false) kE1.out hn hn1 ha han _ kpv.out (km.out _ kE1.out.1))
          go_wp2_with (go_at_call 8; refine hF.out.mono ?_; rintro e wz ⟨rfl, hO, hb⟩; have kOz := Lib.hid hO; clear hO hb)
          go_ret
          exact ⟨rfl, kOz.out.1⟩
        | true =>
          go_upto_region 22 with (fail)
          have kX6 := Lib.hid (World.alloc_heap_new w5 (.cells #[.slice none 0 0, .slice none 0 0, .slice none 0 0, .slice none 0 0, .slice none 0 0, .string ⟨#[]⟩, .slice none 0 0] 38))
          have kz6 := Lib.hid (show (w5.alloc (.cells #[.slice none 0 0, .slice none 0 0, .slice none 0 0, .slice none 0 0, .slice none 0 0, .string ⟨#[]⟩, .slice none 0 0] 38)).heap.size = w5.heap.size + 1 by simp)
          have kb6 := Lib.hid (below_al (o := .cells #[.slice none 0 0, .slice none 0 0, .slice none 0 0, .slice none 0 0, .slice none 0 0, .string ⟨#[]⟩, .slice none 0 0] 38) (Below.refl w5.heap.size w5))
          generalize w5.alloc (.cells #[.slice none 0 0, .slice none 0 0, .slice none 0 0, .slice none 0 0, .slice none 0 0, .string ⟨#[]⟩, .slice none 0 0] 38) = w6 at *
          obtain ⟨Dn, hDn⟩ : ∃ D, skDirs n = D := ⟨_, rfl⟩
          have kDn := Lib.hid hDn
          rw [hDn] at hLd ⊢
          clear hDn
          have hbc := byte_conv w6 Dn
          have kB0 := Lib.hid (BRow.conv w6 Dn (by omega))
          have kb0 := Lib.hid (byte_below w6 Dn)
          have hlc := grownCap_ge w6 Dn.length 0 5
          generalize grownCap w6 Dn.length 0 5 = gc at *
          generalize byteW w6 Dn = w7 at *
          go_wp2_with fail
          go_loopw [17] (fun iv wr => ∃ k : Nat, k ≤ Dn.length ∧ iv = .int .i64 k ∧ Hid (BRow wr w6.heap.size gc (colTo k Dn)) ∧ Hid (Below w6.heap.size w6 wr)) (fun iv _ => Dn.length - (intOf iv).toNat)
          case atStart => exact ⟨0, Nat.zero_le _, rfl, Lib.hid (by rw [colTo_0]; exact kB0.out), kb0⟩
          case round =>
            obtain ⟨k, hk, rfl, kB, kb⟩ := hrel
            by_cases hlk : k < Dn.length
            · obtain ⟨x, hx⟩ : ∃ x, Dn[k]? = some x := ⟨_, List.getElem?_eq_getElem hlk⟩
              obtain ⟨c0, hl0⟩ := kB.out.at (colTo_at hx)
              have f0 := kB.out.free k (by rw [colTo_len]; exact hlk)
              have y2 : (k : Int) < (Dn.length : Int) := by omega
              have kst := Lib.hid (colTo_step hx)
              have kat := Lib.hid (colTo_at hx)
              clear hx
              by_cases h58 : x = 58
              · subst h58
                have c1 : wr.cell? ⟨w6.heap.size, k, none⟩ = some (.int .u8 58) := c0
                clear c0
                go_wp2_with fail
                exact ⟨⟨k + 1, by omega, by go_num, Lib.hid (by rw [kst.out, if_pos rfl]; exact kB.out.set (u := 32) (by rw [colTo_len]; exact hlk)), Lib.hid (kb.out.setCell (p := ⟨w6.heap.size, k, none⟩) (Nat.le_refl _) _)⟩, by simp [intOf]; omega⟩
              · have e58 : ((x.toNat : Int) == 58) = false := by
                  rw [beq_eq_false_iff_ne]; intro e; exact h58 (UInt8.toNat_inj.1 (by show x.toNat = 58; omega))
                have kst2 := Lib.hid (show colTo (k + 1) Dn = colTo k Dn by rw [kst.out, if_neg h58]; exact set_self kat.out)
                clear h58
                go_wp2_with fail
                exact ⟨⟨k + 1, by omega, by go_num, Lib.hid (by rw [kst2.out]; exact kB.out), kb⟩, by simp [intOf]; omega⟩
            · obtain rfl : Dn.length = k := by omega
              have y2 : ¬ (Dn.length : Int) < (Dn.length : Int) := by omega
              have hcv : (convert 39 9 (.slice (some ⟨w6.heap.size, 0, none⟩) Dn.length gc)).run Tryz.prog wr = .ok (.string (mk (noColon Dn))) wr := by
                have h := bytes_str kB.out.bytes
                rw [colTo_len, colTo_all] at h; exact h
              obtain ⟨wc, hwc⟩ : ∃ x, x = wr := ⟨_, rfl⟩
              subst hwc
              have hXc := (kb.out.block w5.heap.size (by have := kz6.out; omega)).trans kX6.out
              have kXc := Lib.hid hXc
              have x2 := Go.Joins.cell_of_block hXc 2
              have fx2 := Go.Joins.unfrozen_of_block hXc 2
              have hxl := heap_lt hXc
              clear hXc
              go_upto_region 30 with (fail)
              obtain ⟨hW, hP, hS⟩ := box_pairs (t := 38) (u := 41) (a := ⟨#[121, 37]⟩) (b := ⟨#[100, 48]⟩) (c := ⟨#[37]⟩) (d := mk (noColon Dn)) kXc.out
              generalize ((wc.setCell ⟨w5.heap.size, 2, none⟩ (.slice (some ⟨wc.heap.size, 0, none⟩) 2 2)).alloc (.cells #[.string ⟨#[121, 37]⟩, .string ⟨#[100, 48]⟩, .string ⟨#[37]⟩, .string (mk (noColon Dn))] 41)) = w8 at *
              have kE1 := Lib.hid (kE.out.below ((kb6.out.trans (kb.out.mono (by have := kz6.out; omega))).trans (hS.mono (by have := kb6.out.size; have := kb.out.size; omega))))
              have kpv := Lib.hid (show PairsAt w8 (.slice (some ⟨wc.heap.size, 0, none⟩) 2 2) (plOf true n) by show PairsAt w8 _ (skPl n); unfold skPl; rw [kDn.out]; exact hP)
              have g0 := Go.Joins.cell_of_block hW 0
              have g1 := Go.Joins.cell_of_block hW 1
              have g2 := Go.Joins.cell_of_block hW 2
              have g3 := Go.Joins.cell_of_block hW 3
              have g4 := Go.Joins.cell_of_block hW 4
              have g5 := Go.Joins.cell_of_block hW 5
              have g6 := Go.Joins.cell_of_block hW 6
              have hwl := heap_lt hW
              clear x2 fx2 hP hS hW
              have hF := Lib.hid (show Calls Tryz.prog 8 #[baseV (.slice (some ⟨wc.heap.size, 0, none⟩) 2 2), .string (⟨#[]⟩), .pointer (some ⟨f, 0, none⟩), .string ⟨#[120]⟩] w8 fun e w' => e = .returned (.tuple #[.string ⟨#[120]⟩, .bool true]) ∧ OwnFs w f (skEnd a n true) cl 1000 w' ∧ Below (World.heap w8).size w8 w' from sk_find (here := true) (vp := true) kE1.out hn hn1 ha han _ kpv.out (km.out _ kE1.out.1))
              go_wp2_with (go_at_call 8; refine hF.out.mono ?_; rintro e wz ⟨rfl, hO, hb⟩; have kOz := Lib.hid hO; clear hO hb)
              go_ret
              exact ⟨rfl, kOz.out.1⟩
      -- END PRINTED
end Go.Proofs.YtnnepcodghfcmaaGreatDoor
