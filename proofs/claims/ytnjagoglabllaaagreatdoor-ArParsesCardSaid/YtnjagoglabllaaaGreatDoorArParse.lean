/-
  Parse. Conditions: at most 70000 bytes; strconv.ErrSyntax holds an error; Itoa's table reads as laid.
-/
import Derived.Test.YtnjagoglabllaaaGreatDoorArRead
import Derived.Test.YtnjagoglabllaaaGreatDoorArReadL
import Derived.Test.YtnjagoglabllaaaGreatDoorArLoose
namespace Go.Proofs.YtnjagoglabllaaaGreatDoor
open Go.RowKit

theorem suf_len (s : Bs) : (Lib.trimSuffix s [47]).length ≤ s.length := by
  unfold Lib.trimSuffix
  split
  · rw [List.length_take]; omega
  · exact Nat.le_refl _
theorem long_len {nm names r : Bs} (h : longAt nm names = some r) : r.length ≤ nm.length + names.length := by
  unfold longAt at h
  split at h
  · split at h
    · cases h
    · split at h
      · cases h
      · injection h with h
        subst h
        have := cut_len (names.drop (Int.toNat ‹Int›))
        rw [List.length_drop] at this
        omega
  · injection h with h; subst h; omega
theorem step_bounds {b : Bs} {k : Nat} {names : Bs} {r : Option Mem} {nm : Bs} {a : Nat} (hn : names.length ≤ b.length) (h : stepP b k names = some (r, nm, a)) :
    nm.length ≤ b.length ∧ ∀ m, r = some m → m.name.length ≤ b.length + 16 ∧ m.data.length ≤ b.length ∧ -1000000000000000000 < m.date ∧ m.date < 1000000000000000000 := by
  have hdl : ∀ n, ((b.drop (k + 60)).take n).length ≤ b.length := fun n => by rw [List.length_take, List.length_drop]; omega
  have hfl : (fieldAt b k).length ≤ 16 := by unfold fieldAt; exact Nat.le_trans (trim_len _ _) (List.length_take_le _ _)
  unfold stepP at h
  split at h
  · cases h
  · split at h
    · cases h
    · split at h
      · injection h with h
        injection h with h1 h2
        injection h2 with h2 h3
        subst h1 h2
        exact ⟨hdl _, fun m hm => by cases hm⟩
      · split at h
        · cases h
        · rename_i d hd
          split at h
          · cases h
          · rename_i nm' hnm
            injection h with h
            injection h with h1 h2
            injection h2 with h2 h3
            subst h1 h2
            refine ⟨hn, fun m hm => ?_⟩
            injection hm with hm
            subst hm
            have h1 := long_len hnm
            have h2 := suf_len nm'
            have h3 := Lib.atoi_bound (show Lib.atoi _ = some d from hd) (Nat.le_trans (trim_len _ _) (Nat.le_trans (List.length_take_le _ _) (by decide)))
            exact ⟨by show (Lib.trimSuffix nm' [47]).length ≤ _; omega, hdl _, h3.1, h3.2⟩
theorem read_bounds {b : Bs} : ∀ (f k : Nat) (names : Bs) (l : List Mem), names.length ≤ b.length → readFrom b f k names = some l → l.length ≤ f ∧ ∀ m ∈ l, m.name.length ≤ b.length + 16 ∧ m.data.length ≤ b.length ∧ -1000000000000000000 < m.date ∧ m.date < 1000000000000000000
  | 0, k, names, l, _, h => by cases h
  | f + 1, k, names, l, hn, h => by
    rw [readFrom] at h
    split at h
    · injection h with h; subst h; exact ⟨Nat.zero_le _, fun _ hm => by cases hm⟩
    · split at h
      · cases h
      · rename_i nm a hs
        obtain ⟨h1, -⟩ := step_bounds hn hs
        obtain ⟨h2, h3⟩ := read_bounds f a nm l h1 h
        exact ⟨by omega, h3⟩
      · rename_i m nm a hs
        obtain ⟨h1, h1'⟩ := step_bounds hn hs
        obtain ⟨r, hr, rfl⟩ := Option.map_eq_some_iff.1 h
        obtain ⟨h2, h3⟩ := read_bounds f a nm r h1 hr
        refine ⟨by rw [List.length_cons]; omega, fun x hx => ?_⟩
        rcases List.mem_cons.1 hx with rfl | hx
        · exact h1' _ rfl
        · exact h3 x hx
theorem readP_bounds {b : Bs} {l : List Mem} (h : readP b = some l) : l.length ≤ b.length + 1 ∧ ∀ m ∈ l, m.name.length ≤ b.length + 16 ∧ m.data.length ≤ b.length ∧ -1000000000000000000 < m.date ∧ m.date < 1000000000000000000 := by
  unfold readP at h
  split at h
  · exact read_bounds _ _ _ l (Nat.zero_le _) h
  · cases h
/-- What Parse leaves. -/
def ParsePost (w : World) (b : Bs) (e : Ending) (w' : World) : Prop :=
  ((∃ l a c L, archP l = (b, 0) ∧ e = .returned (.tuple #[.slice a l.length c, .int .i64 0]) ∧ L.map NV.m = l ∧ MemsOwn w' w.heap.size (.slice a l.length c) L) ∨
    ((∀ l, archP l ≠ (b, 0)) ∧ e = .returned (.tuple #[.slice none 0 0, .int .i64 (if 65536 < b.length then 2 else 20)]))) ∧ Below w.heap.size w w'
set_option maxRecDepth 100000 in
set_option maxHeartbeats 8000000 in
theorem parse_calls {w : World} {bv : Value} {b : Bs} {S : Nat → Prop} (hb : BytesAt w bv b S) (hS : ∀ j, S j → j < w.heap.size) (hlen : b.length ≤ 70000) (herr : ErrV w) (htab : Tab w.heap.size w) :
    Calls Tryz.prog 15 #[bv] w (ParsePost w b) := by
  obtain ⟨ba, bc, hbf⟩ := hb.form
  subst hbf
  have kb := Lib.hid (fun (W : World) (h : Below w.heap.size w W) => hb.of_heap (w' := W) (S' := S) (fun j hj => h.block j (hS j hj)) (fun _ h => h))
  have ktab := Lib.hid htab
  have kR := Lib.hid (read_calls hb hS hlen herr)
  clear hb hS herr htab
  go_enter Tryz.func15, Tryz.ntmps15
  by_cases hbig : 65536 < b.length
  · have y0 : (65536 : Int) < (b.length : Int) := by omega
    have hno := Lib.hid (show ∀ l, archP l ≠ (b, 0) from fun l h => by have := arch_out l; rw [h] at this; dsimp only at this; omega)
    have kif := Lib.hid (show (if 65536 < b.length then (2 : Int) else 20) = 2 from if_pos hbig)
    clear hbig
    go_wp2_with fail
    go_ret2
    exact ⟨Or.inr ⟨hno.out, by rw [kif.out]; rfl⟩, Below.refl _ _⟩
  · have y0 : ¬ (65536 : Int) < (b.length : Int) := by omega
    have kif := Lib.hid (show (if 65536 < b.length then (2 : Int) else 20) = 20 from if_neg hbig)
    clear hbig
    go_wp2_with (fail)
    refine kR.out.mono ?_
    rintro e w1 ⟨⟨l, a, c, L, hl, rfl, hLm, hLo⟩ | ⟨hl, n, rfl⟩, hb1⟩
    · have kl := Lib.hid hl
      have kLm := Lib.hid hLm
      have kLo := Lib.hid hLo
      have kb1 := Lib.hid hb1
      have kbd := Lib.hid (readP_bounds hl)
      clear hl hLm hLo hb1
      have hM := Lib.hid (show MemsAt w1 (.slice a l.length c) l _ from by have h := kLo.out.mems; rwa [kLm.out] at h)
      have kW := Lib.hid (write_calls ((ktab.out.on kb1.out).mono kb1.out.size) hM.out (fun _ h => h.2) (fun x hx => by have := kbd.out.2 x hx; omega) (by have := kbd.out.1; omega))
      have hao := arch_out l
      go_upto_region 6 with (go_at_call 32; refine (is_none 20 _).mono ?_; rintro e w1' ⟨rfl, rfl⟩)
      go_upto_region 7 with (go_at_call 11; refine kW.out.mono ?_; rintro e w2 ⟨v2, rfl, ho, hb2⟩; have ko2 := Lib.hid ho; have kb12 := Lib.hid hb2; clear ho hb2)
      have kb2 := Lib.hid (kb1.out.trans (kb12.out.mono kb1.out.size))
      have kE := Lib.hid (Tryz.bytes_Equal_strs v2 (.slice ba b.length bc) (mk (archP l).1) (mk b) w2 (bytes_str (ko2.out.bytes (by omega))) (bytes_str (kb.out _ kb2.out)))
      have kL2 := Lib.hid (kLo.out.keepb kb12.out.block kb12.out.size)
      by_cases he : (archP l).2 = 0
      · by_cases hq : (archP l).1 = b
        · have f0 : ((archP l).2 != 0) = false := by rw [he]; rfl
          have f1 : ((mk (archP l).1).toList == (mk b).toList) = true := by rw [hq]; exact beq_self_eq_true _
          rw [f1] at kE
          have kok := Lib.hid (show archP l = (b, 0) from Prod.ext hq he)
          clear hq f1 hao
          rw [he]
          go_wp2_with (go_at_call 33; refine kE.out.mono ?_; rintro e w3 ⟨rfl, rfl⟩)
          go_ret2
          exact ⟨Or.inl ⟨l, a, c, L, kok.out, rfl, kLm.out, kL2.out⟩, kb2.out⟩
        · have f1 : ((mk (archP l).1).toList == (mk b).toList) = false := ba_ne (fun e => hq (mk_inj e))
          rw [f1] at kE
          have hno := Lib.hid (show ∀ l', archP l' ≠ (b, 0) from fun l' h => by
            have := read_arch h
            rw [kl.out] at this
            injection this with this
            subst this
            exact hq (by rw [h]))
          clear hq f1 hao
          rw [he]
          go_wp2_with (go_at_call 33; refine kE.out.mono ?_; rintro e w3 ⟨rfl, rfl⟩)
          go_ret2
          exact ⟨Or.inr ⟨hno.out, by rw [kif.out]; rfl⟩, kb2.out⟩
      · have hno := Lib.hid (show ∀ l', archP l' ≠ (b, 0) from fun l' h => by
          have := read_arch h
          rw [kl.out] at this
          injection this with this
          subst this
          exact he (by rw [h]))
        clear hao
        generalize (archP l).2 = ec at *
        go_wp2_with fail
        go_ret2
        exact ⟨Or.inr ⟨hno.out, by rw [kif.out]; rfl⟩, kb2.out⟩
    · have kb1 := Lib.hid hb1
      have hno := Lib.hid (show ∀ l', archP l' ≠ (b, 0) from fun l' h => by
        have := read_arch h
        rw [hl] at this; cases this)
      clear hl hb1
      have kI := Lib.hid (is_calls n 20 w1)
      go_wp2_with (go_at_call 32; refine kI.out.mono ?_; rintro e w2 ⟨rfl, hb2⟩; have kb2 := Lib.hid (kb1.out.trans (hb2.mono kb1.out.size)); clear hb2)
      go_ret2
      exact ⟨Or.inr ⟨hno.out, by rw [kif.out]; rfl⟩, kb2.out⟩
end Go.Proofs.YtnjagoglabllaaaGreatDoor
