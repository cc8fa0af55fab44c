/-
  Find, the reference's Member; a member put in a list. Conditions: texts of at most 2^40 bytes.
-/
import Derived.Test.YtnjagoglabllaaaGreatDoorArStay
namespace Go.Proofs.YtnjagoglabllaaaGreatDoor
open Go.RowKit

/-- The first member's place of a name; -1: there is none. -/
def placeFrom (name : Bs) : Nat → List Mem → Int
  | _, [] => -1
  | k, x :: r => if x.name = name then (k : Int) else placeFrom name (k + 1) r
def placeB (l : List Mem) (name : Bs) : Int := placeFrom name 0 l
theorem place_skip {l : List Mem} {k : Nat} {x : Mem} (h : l[k]? = some x) (name : Bs) : placeFrom name k (l.drop k) = if x.name = name then (k : Int) else placeFrom name (k + 1) (l.drop (k + 1)) := by
  rw [getElem_split h, placeFrom]
theorem place_end (l : List Mem) (name : Bs) : placeFrom name l.length (l.drop l.length) = -1 := by rw [List.drop_length]; rfl
/-- A member put in the place of the first of its name, or behind all. -/
def putP (l : List Mem) (m : Mem) : List Mem := if 0 ≤ placeB l m.name then l.set (placeB l m.name).toNat m else l ++ [m]
theorem place_form (name : Bs) : ∀ (l : List Mem) (k : Nat), (placeFrom name k l = -1 ∧ ∀ x ∈ l, x.name ≠ name) ∨ ∃ a x r, l = a ++ x :: r ∧ x.name = name ∧ (∀ y ∈ a, y.name ≠ name) ∧ placeFrom name k l = ((k + a.length : Nat) : Int)
  | [], k => Or.inl ⟨rfl, fun _ h => by cases h⟩
  | y :: r, k => by
    rw [placeFrom]
    by_cases h : y.name = name
    · rw [if_pos h]
      exact Or.inr ⟨[], y, r, rfl, h, (fun _ h => by cases h), by simp⟩
    · rw [if_neg h]
      rcases place_form name r (k + 1) with ⟨h1, h2⟩ | ⟨a, x, s, e1, e2, e3, e4⟩
      · exact Or.inl ⟨h1, fun x hx => by
          rcases List.mem_cons.1 hx with rfl | hx
          · exact h
          · exact h2 x hx⟩
      · refine Or.inr ⟨y :: a, x, s, by rw [e1]; rfl, e2, fun z hz => ?_, ?_⟩
        · rcases List.mem_cons.1 hz with rfl | hz
          · exact h
          · exact e3 z hz
        · rw [e4, List.length_cons]; congr 1; omega
theorem place_app (name : Bs) {a : List Mem} (ha : ∀ y ∈ a, y.name ≠ name) (x : Mem) (hx : x.name = name) (r : List Mem) : ∀ k, placeFrom name k (a ++ x :: r) = ((k + a.length : Nat) : Int) := by
  induction a with
  | nil => intro k; rw [List.nil_append, placeFrom, if_pos hx]; rfl
  | cons y s ih =>
    intro k
    rw [List.cons_append, placeFrom, if_neg (ha y (by simp)), ih (fun z hz => ha z (by simp [hz])) (k + 1), List.length_cons]
    congr 1; omega
/-- What is put is found where it was put. -/
theorem put_place (l : List Mem) (m : Mem) : ∃ at' : Nat, placeB (putP l m) m.name = at' ∧ (at' : Int) = (if placeB l m.name < 0 then (l.length : Int) else placeB l m.name) ∧ (putP l m)[at']? = some m ∧ at' ≤ l.length ∧ (0 ≤ placeB l m.name → at' < l.length) ∧ -1 ≤ placeB l m.name := by
  rcases place_form m.name l 0 with ⟨h1, h2⟩ | ⟨a, x, r, e1, e2, e3, e4⟩
  · have hp : placeB l m.name = -1 := h1
    refine ⟨l.length, ?_, by rw [hp]; rfl, ?_, Nat.le_refl _, by rw [hp]; intro h; omega, by omega⟩
    · unfold putP
      rw [if_neg (by omega)]
      unfold placeB
      rw [place_app m.name h2 m rfl [] 0, Nat.zero_add]
    · unfold putP
      rw [if_neg (by omega)]
      simp
  · have hp : placeB l m.name = ((a.length : Nat) : Int) := by unfold placeB; rw [e4, Nat.zero_add]
    refine ⟨a.length, ?_, by rw [hp, if_neg (by omega)], ?_, by rw [e1]; simp, fun _ => by rw [e1]; simp, by omega⟩
    · unfold putP
      rw [if_pos (by omega), hp, Int.toNat_natCast, e1]
      unfold placeB
      rw [show (a ++ x :: r).set a.length m = a ++ m :: r by simp, place_app m.name e3 m rfl r 0, Nat.zero_add]
    · unfold putP
      rw [if_pos (by omega), hp, Int.toNat_natCast, e1]
      simp
section
variable {l : List Mem} {nv : Value} {T : Nat → Prop} {w : World}
set_option maxRecDepth 100000 in
set_option maxHeartbeats 4000000 in
theorem find_calls (ht : MemsAt w nv l T) (hT : ∀ k, T k → k < w.heap.size) (hl : l.length ≤ 1099511627775) (name : Bs) :
    Calls Tryz.prog 19 #[nv, .string (mk name)] w fun e w' => e = .returned (.int .i64 (placeB l name)) ∧ Below w.heap.size w w' := by
  obtain ⟨ta, tc, hnv⟩ := ht.form
  subst hnv
  have kt := Lib.hid ht
  have kT := Lib.hid hT
  clear ht hT
  go_enter Tryz.func19, Tryz.ntmps19
  go_wp2
  go_loopw [5, 6, 9] (fun _ _ iv wr => ∃ k : Nat, k ≤ l.length ∧ iv = .int .i64 k ∧ placeB l name = placeFrom name k (l.drop k) ∧ Below w.heap.size w wr) (fun _ _ iv _ => l.length - (intOf iv).toNat)
  case atStart => exact ⟨0, Nat.zero_le _, rfl, rfl, Below.refl _ _⟩
  case round =>
    obtain ⟨k, hk, rfl, hp, hB⟩ := hrel
    have kp := Lib.hid hp
    have kB := Lib.hid hB
    clear hp hB
    by_cases hlt : k < l.length
    · obtain ⟨x, hx⟩ : ∃ x, l[k]? = some x := ⟨_, List.getElem?_eq_getElem hlt⟩
      obtain ⟨b, off, dv, hta, hTb, hbl, hc0, hc1, hc2, hdv⟩ := (kt.out.of_heap (w' := wr) (T' := T) (fun j hj => kB.out.block j (kT.out j hj)) (fun _ h => h)).at hx
      obtain ⟨da, dc, hdf⟩ := hdv.form
      subst hta hdf
      have kX := Lib.hid (heap_alloc_new wr (.cells #[.string (mk x.name), .int .i64 x.date, .slice da x.data.length dc] 37))
      have kA := Lib.hid (below_al (o := .cells #[.string (mk x.name), .int .i64 x.date, .slice da x.data.length dc] 37) (Below.refl wr.heap.size wr))
      have ks := Lib.hid (place_skip hx name)
      have y0 : (k : Int) < (l.length : Int) := by omega
      clear hTb hdv hx
      go_upto_region 4 with (fail)
      generalize wr.alloc (.cells #[.string (mk x.name), .int .i64 x.date, .slice da x.data.length dc] 37) = w2 at *
      obtain ⟨m0, m1, m2, -⟩ := cells3 kX.out
      have hml := heap_lt kX.out
      have kB2 := Lib.hid (kB.out.trans (kA.out.mono kB.out.size))
      clear hc0 hc1 hc2 hbl
      by_cases hn : x.name = name
      · have f1 : ((mk x.name).toList == (mk name).toList) = true := by rw [hn]; exact beq_self_eq_true _
        have kr := Lib.hid (show placeB l name = (k : Int) by rw [kp.out, ks.out, if_pos hn])
        clear hn
        go_wp2_with fail
        go_ret
        exact ⟨by rw [kr.out]; rfl, kB2.out⟩
      · have f1 := mk_str_ne hn
        have kr := Lib.hid (show placeB l name = placeFrom name (k + 1) (l.drop (k + 1)) by rw [kp.out, ks.out, if_neg hn])
        clear hn
        go_wp2_with fail
        exact ⟨⟨k + 1, by omega, by go_num, kr.out, kB2.out⟩, by simp [intOf]; omega⟩
    · have hkl : k = l.length := by omega
      have y0 : ¬ (k : Int) < (l.length : Int) := by omega
      have kr := Lib.hid (show placeB l name = -1 by rw [kp.out, hkl, place_end])
      clear hkl
      go_wp2_with fail
      go_ret
      exact ⟨by rw [kr.out]; rfl, kB.out⟩
set_option maxRecDepth 100000 in
set_option maxHeartbeats 4000000 in
theorem member_calls (ht : MemsAt w nv l T) (hl : l.length ≤ 1099511627775) (name : Bs) :
    Calls Tryz.prog 21 #[nv, .string (mk name)] w fun e w' => e = .returned (.int .i64 (placeB l name)) ∧ w = w' := by
  obtain ⟨ta, tc, hnv⟩ := ht.form
  subst hnv
  have kt := Lib.hid ht
  clear ht
  go_enter Tryz.func21, Tryz.ntmps21
  go_wp2
  go_loop [5] (fun iv => ∃ k : Nat, k ≤ l.length ∧ iv = .int .i64 k ∧ placeB l name = placeFrom name k (l.drop k)) (fun iv => l.length - (intOf iv).toNat)
  case atStart => exact ⟨0, Nat.zero_le _, rfl, rfl⟩
  case round =>
    obtain ⟨k, hk, rfl, hp⟩ := hrel
    have kp := Lib.hid hp
    clear hp
    by_cases hlt : k < l.length
    · obtain ⟨x, hx⟩ : ∃ x, l[k]? = some x := ⟨_, List.getElem?_eq_getElem hlt⟩
      obtain ⟨b, off, dv, hta, hTb, hbl, hc0, hc1, hc2, hdv⟩ := kt.out.at hx
      subst hta
      have ks := Lib.hid (place_skip hx name)
      have y0 : (k : Int) < (l.length : Int) := by omega
      clear hTb hdv hx
      by_cases hn : x.name = name
      · have f1 : ((mk x.name).toList == (mk name).toList) = true := by rw [hn]; exact beq_self_eq_true _
        have kr := Lib.hid (show placeB l name = (k : Int) by rw [kp.out, ks.out, if_pos hn])
        clear hn
        go_wp2
        go_ret
        exact ⟨by rw [kr.out]; rfl, rfl⟩
      · have f1 := mk_str_ne hn
        have kr := Lib.hid (show placeB l name = placeFrom name (k + 1) (l.drop (k + 1)) by rw [kp.out, ks.out, if_neg hn])
        clear hn
        go_wp2
        go_round
        case rel => exact ⟨k + 1, by omega, by go_num, kr.out⟩
        case measure => simp [intOf]; omega
    · have hkl : k = l.length := by omega
      have y0 : ¬ (k : Int) < (l.length : Int) := by omega
      have kr := Lib.hid (show placeB l name = -1 by rw [kp.out, hkl, place_end])
      clear hkl
      go_wp2
      go_ret
      exact ⟨by rw [kr.out]; rfl, rfl⟩
end
end Go.Proofs.YtnjagoglabllaaaGreatDoor
