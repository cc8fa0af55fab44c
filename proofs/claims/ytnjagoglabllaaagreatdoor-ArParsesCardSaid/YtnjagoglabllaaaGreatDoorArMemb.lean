/-
  Members, the reference's. Conditions: at most 70000 bytes.
-/
import Derived.Test.YtnjagoglabllaaaGreatDoorArDig
import Derived.Test.YtnjagoglabllaaaGreatDoorArRows
import Derived.Test.YtnjagoglabllaaaGreatDoorArArch
import Derived.Test.YtnjagoglabllaaaGreatDoorArReadC
namespace Go.Proofs.YtnjagoglabllaaaGreatDoor
open Go.RowKit

theorem dig_bounds (s : Bs) : -1 ≤ digP s ∧ digP s < 1000000000000 := by
  unfold digP
  split
  · omega
  · rename_i h
    split
    · rename_i n hn
      have h1 := dec_lt _ _ _ hn
      have h2 : (s.take (blankAt s)).length ≤ 12 := by rw [List.length_take]; omega
      have h3 : 10 ^ (s.take (blankAt s)).length ≤ 10 ^ 12 := Nat.pow_le_pow_right (by decide) h2
      have h4 : (10 : Nat) ^ 12 = 1000000000000 := by decide
      omega
    · omega
theorem mname_len {nm names r : Bs} (h : mnameP nm names = some r) : r.length ≤ nm.length + names.length := by
  unfold mnameP at h
  split at h
  · split at h
    · cases h
    · split at h
      · cases h
      · injection h with h; subst h
        rw [List.length_take, List.length_drop]; omega
  · split at h
    · cases h
    · injection h with h; subst h
      rw [List.length_take]; omega
theorem mstep_bounds {b : Bs} {k : Nat} {names : Bs} {r : Option Mem} {nm : Bs} {a : Nat} (hn : names.length ≤ b.length) (h : mstepP b k names = some (r, nm, a)) :
    nm.length ≤ b.length ∧ ∀ m, r = some m → m.name.length ≤ b.length + 16 ∧ m.data.length ≤ b.length ∧ -1000000000000000000 < m.date ∧ m.date < 1000000000000000000 := by
  have hdl : ∀ n, ((b.drop (k + 60)).take n).length ≤ b.length := fun n => by rw [List.length_take, List.length_drop]; omega
  unfold mstepP at h
  split at h
  · cases h
  · split at h
    · injection h with h
      injection h with h1 h2
      injection h2 with h2 h3
      subst h1 h2
      exact ⟨hdl _, fun m hm => by cases hm⟩
    · split at h
      · cases h
      · rename_i nm' hnm
        injection h with h
        injection h with h1 h2
        injection h2 with h2 h3
        subst h1 h2
        refine ⟨hn, fun m hm => ?_⟩
        injection hm with hm
        subst hm
        have h1 := mname_len hnm
        have h2 := List.length_take_le 16 (headAt b k)
        have h3 := dig_bounds (((headAt b k).drop 16).take 12)
        exact ⟨by show nm'.length ≤ _; omega, hdl _, by show _ < digP _; omega, by show digP _ < _; omega⟩
theorem mFrom_bounds {b : Bs} : ∀ (f k : Nat) (names : Bs) (l : List Mem), names.length ≤ b.length → mFrom b f k names = some l → l.length ≤ f ∧ ∀ m ∈ l, m.name.length ≤ b.length + 16 ∧ m.data.length ≤ b.length ∧ -1000000000000000000 < m.date ∧ m.date < 1000000000000000000
  | 0, k, names, l, _, h => by cases h
  | f + 1, k, names, l, hn, h => by
    rw [mFrom] at h
    split at h
    · injection h with h; subst h; exact ⟨Nat.zero_le _, fun _ hm => by cases hm⟩
    · split at h
      · cases h
      · rename_i nm a hs
        obtain ⟨h1, -⟩ := mstep_bounds hn hs
        obtain ⟨h2, h3⟩ := mFrom_bounds f a nm l h1 h
        exact ⟨by omega, h3⟩
      · rename_i m nm a hs
        obtain ⟨h1, h1'⟩ := mstep_bounds hn hs
        obtain ⟨r, hr, rfl⟩ := Option.map_eq_some_iff.1 h
        obtain ⟨h2, h3⟩ := mFrom_bounds f a nm r h1 hr
        refine ⟨by rw [List.length_cons]; omega, fun x hx => ?_⟩
        rcases List.mem_cons.1 hx with rfl | hx
        · exact h1' _ rfl
        · exact h3 x hx
/-- What Members leaves. -/
def MembPost (w : World) (b : Bs) (e : Ending) (w' : World) : Prop :=
  ((∃ l v, archP l = (b, 0) ∧ e = .returned (.tuple #[v, .int .i64 0]) ∧ MemsAt w' v l (fun j => j < w'.heap.size)) ∨
    ((∀ l, archP l ≠ (b, 0)) ∧ e = .returned (.tuple #[.slice none 0 0, .int .i64 (if 65536 < b.length then 2 else 20)]))) ∧ Below w.heap.size w w'
/-- The list that Members has built. -/
def MembL (w : World) (lv : Value) (L : List NV) (W : World) : Prop := Below w.heap.size w W ∧ MemsRow W w.heap.size lv L (fun j => w.heap.size ≤ j ∧ j < W.heap.size ∧ lv.ownBlock ≠ some j)
theorem field_at {b : Bs} {k : Nat} (i j : Nat) (h : i + j ≤ 60) : (b.drop (k + i)).take j = ((headAt b k).drop i).take j := by
  unfold headAt
  rw [List.drop_take, List.take_take, List.drop_drop, Nat.min_eq_left (by omega)]
theorem find_upF (s : Bs) : ∀ (f i : Nat), findFrom s [47, 10] i f ≤ ((i + f : Nat) : Int)
  | 0, i => by rw [findFrom]; omega
  | f + 1, i => by
    rw [findFrom]
    split
    · omega
    · have := find_upF s f (i + 1); omega
theorem find_up (s : Bs) : findB s [47, 10] ≤ (s.length : Int) := by
  have h := find_upF s (s.length + 1 - 2) 0
  unfold findB
  show findFrom s [47, 10] 0 (s.length + 1 - 2) ≤ _
  omega
theorem memb_more {w wc w5 : World} {lv dv : Value} {L : List NV} {m : Mem} (hL : MembL w lv L wc) (h5 : Below wc.heap.size wc w5) (hd : BytesAt w5 dv m.data (fun j => j = wc.heap.size)) (hlt : wc.heap.size < w5.heap.size) :
    ∃ T, MemsRow (w5.alloc (.cells (NV.make m dv).cells.toArray 37)) w.heap.size lv L T ∧ BytesAt (w5.alloc (.cells (NV.make m dv).cells.toArray 37)) dv m.data T ∧ (∀ j, T j → w.heap.size ≤ j) ∧ w.heap.size ≤ (w5.alloc (.cells (NV.make m dv).cells.toArray 37)).heap.size ∧ Below w.heap.size w (w5.alloc (.cells (NV.make m dv).cells.toArray 37)) := by
  have h6 := below_al (o := .cells (NV.make m dv).cells.toArray 37) h5
  have hz := hL.1.size
  refine ⟨fun j => (w.heap.size ≤ j ∧ j < wc.heap.size ∧ lv.ownBlock ≠ some j) ∨ j = wc.heap.size, (hL.2.on h6).weak (fun j hj => Or.inl hj) (fun j hj => ?_), hd.of_heap (fun j hj => heap_alloc_old _ _ (by subst hj; exact hlt)) (fun j hj => Or.inr hj), fun j hj => hj.elim (fun h => h.1) (fun h => by omega), Nat.le_trans hz h6.size, hL.1.trans (h6.mono hz)⟩
  rcases hj with hj | rfl
  · exact ⟨Nat.lt_of_lt_of_le hj.2.1 h6.size, hj.2.2⟩
  · exact ⟨by simp; omega, fun e => by have := (hL.2.lt _ e).2; omega⟩
set_option maxRecDepth 100000 in
set_option maxHeartbeats 8000000 in
theorem members_calls {w : World} {bv : Value} {b : Bs} {S : Nat → Prop} (hb : BytesAt w bv b S) (hS : ∀ j, S j → j < w.heap.size) (hlen : b.length ≤ 70000) :
    Calls Tryz.prog 16 #[bv] w (MembPost w b) := by
  obtain ⟨ba, bc, hbf⟩ := hb.form
  subst hbf
  have hcv := bytes_str hb
  clear hb hS
  go_enter Tryz.func16, Tryz.ntmps16
  by_cases hbig : 65536 < b.length
  · have y0 : (65536 : Int) < (b.length : Int) := by omega
    have hno := Lib.hid (show ∀ l, archP l ≠ (b, 0) from fun l h => by have := arch_out l; rw [h] at this; dsimp only at this; omega)
    have kif := Lib.hid (show (if 65536 < b.length then (2 : Int) else 20) = 2 from if_pos hbig)
    clear hbig
    go_wp2_with fail
    go_ret2
    exact ⟨Or.inr ⟨hno.out, by rw [kif.out]; rfl⟩, Below.refl _ _⟩
  · have y0 : ¬ (65536 : Int) < (b.length : Int) := by omega
    have kif := Lib.hid (show (if 65536 < b.length then (2 : Int) else 20) = 20 from if_neg hbig)
    have kno := Lib.hid (show memP b = none → ∀ l, archP l ≠ (b, 0) from fun h l hl => by have := mem_arch hl; rw [h] at this; cases this)
    have hms := mk_size b
    clear hbig
    go_wp2_with fail
    go_loopw [5, 6, 7, 8, 9, 10, 11, 12, 13, 14, 15, 16] (fun lv tv av _ _ _ _ _ _ _ _ _ wr => ∃ (k f : Nat) (names : Bs) (L : List NV), av = .int .i64 k ∧ tv = .string (mk names) ∧ k ≤ b.length + 8 ∧ b.length - k < f ∧ names.length ≤ 70000 ∧ L.length ≤ k ∧ MembL w lv L wr ∧ memP b = (mFrom b f k names).map (L.map NV.m ++ ·)) (fun _ _ av _ _ _ _ _ _ _ _ _ _ => b.length + 70 - (intOf av).toNat)
    case atStart => exact ⟨8, b.length + 1, [], [], rfl, rfl, by omega, by omega, by decide, by decide, ⟨Below.refl _ _, World.ownsRow_nil _ _ _ _, (fun _ h => by cases h), fun j hj => ⟨hj.2.1, hj.2.2⟩⟩, by unfold memP; simp⟩
    case round =>
      obtain ⟨k, f, names, L, rfl, rfl, hk, hf, hnl, hLl, hL, hrd⟩ := hrel
      have kL := Lib.hid hL
      have krd := Lib.hid hrd
      clear hL hrd
      cases f with
      | zero => omega
      | succ f =>
      have krf := Lib.hid (show mFrom b (f + 1) k names = if b.length < k + 60 then some [] else match mstepP b k names with
        | none => none
        | some (none, nm, a) => mFrom b f a nm
        | some (some m, nm, a) => (mFrom b f a nm).map (m :: ·) from rfl)
      obtain ⟨k6, hk6⟩ : ∃ k6 : Nat, k6 = k + 60 := ⟨_, rfl⟩
      have e1 : IntKind.i64.wrap ((k : Int) + 60) = (k6 : Int) := by rw [IntWalk.i64_in _ (by omega)]; omega
      by_cases hend : b.length < k6
      · have kp := Lib.hid (show memP b = some (L.map NV.m) by rw [krd.out, krf.out, if_pos (by omega)]; simp)
        have y1 : ¬ (k6 : Int) ≤ (b.length : Int) := by omega
        have kbd := Lib.hid (mFrom_bounds _ _ _ _ (Nat.zero_le _) (show mFrom b (b.length + 1) 8 [] = some (L.map NV.m) from kp.out))
        have kk6 := Lib.hid hk6
        have kM := Lib.hid kL.out.2.mems
        have kAr := Lib.hid (refArch_calls kM.out (fun _ h => h) (fun x hx => by have := kbd.out.2 x hx; omega) (by have := kbd.out.1; omega))
        generalize hl9 : L.map NV.m = l at *
        have hao := arch_out l
        clear hk6 hend
        go_upto_region 33 with (go_at_call 13; refine kAr.out.mono ?_; rintro e w2 ⟨v2, rfl, ho, hb2⟩; have ko2 := Lib.hid ho; have kb2 := Lib.hid hb2; clear ho hb2)
        have kB2 := Lib.hid (kL.out.1.trans (kb2.out.mono kL.out.1.size))
        have kM2 := Lib.hid (kM.out.of_heap (w' := w2) (T' := fun j => j < w2.heap.size) (fun j hj => kb2.out.block j hj) (fun j hj => Nat.lt_of_lt_of_le hj kb2.out.size))
        have hcv2 := bytes_str (ko2.out.bytes (by omega))
        by_cases he : (archP l).2 = 0
        · by_cases hq : (archP l).1 = b
          · have f1 : ((mk (archP l).1).toList == (mk b).toList) = true := by rw [hq]; exact beq_self_eq_true _
            have kok := Lib.hid (show archP l = (b, 0) from Prod.ext hq he)
            clear hq hao
            generalize (archP l).2 = ec at *
            subst he
            go_wp2_with fail
            go_ret2
            exact ⟨Or.inl ⟨l, _, kok.out, rfl, kM2.out⟩, kB2.out⟩
          · have f1 : ((mk (archP l).1).toList == (mk b).toList) = false := ba_ne (fun e => hq (mk_inj e))
            have hno := Lib.hid (show ∀ l', archP l' ≠ (b, 0) from fun l' h => by
              have := mem_arch h
              rw [kp.out] at this
              injection this with this
              subst this
              exact hq (by rw [h]))
            clear hq hao
            generalize (archP l).2 = ec at *
            subst he
            go_wp2_with fail
            go_ret2
            exact ⟨Or.inr ⟨hno.out, by rw [kif.out]; rfl⟩, kB2.out⟩
        · have hno := Lib.hid (show ∀ l', archP l' ≠ (b, 0) from fun l' h => by
            have := mem_arch h
            rw [kp.out] at this
            injection this with this
            subst this
            exact he (by rw [h]))
          clear hao
          generalize (archP l).2 = ec at *
          go_wp2_with fail
          go_ret2
          exact ⟨Or.inr ⟨hno.out, by rw [kif.out]; rfl⟩, kB2.out⟩
      · have kst := Lib.hid (show mFrom b (f + 1) k names = match mstepP b k names with
          | none => none
          | some (none, nm, a) => mFrom b f a nm
          | some (some m, nm, a) => (mFrom b f a nm).map (m :: ·) by rw [krf.out, if_neg (by omega)])
        have y1 : (k6 : Int) ≤ (b.length : Int) := by omega
        obtain ⟨k48, hk48⟩ : ∃ q : Nat, q = k + 48 := ⟨_, rfl⟩
        obtain ⟨k58, hk58⟩ : ∃ q : Nat, q = k + 58 := ⟨_, rfl⟩
        obtain ⟨k16, hk16⟩ : ∃ q : Nat, q = k + 16 := ⟨_, rfl⟩
        obtain ⟨k28, hk28⟩ : ∃ q : Nat, q = k + 28 := ⟨_, rfl⟩
        have e2 : IntKind.i64.wrap ((k : Int) + 48) = (k48 : Int) := by rw [IntWalk.i64_in _ (by omega)]; omega
        have e3 : IntKind.i64.wrap ((k : Int) + 58) = (k58 : Int) := by rw [IntWalk.i64_in _ (by omega)]; omega
        have e4 : IntKind.i64.wrap ((k : Int) + 16) = (k16 : Int) := by rw [IntWalk.i64_in _ (by omega)]; omega
        have e5 : IntKind.i64.wrap ((k : Int) + 28) = (k28 : Int) := by rw [IntWalk.i64_in _ (by omega)]; omega
        have hx1 : (mk b).extract k48 k58 = mk (((headAt b k).drop 48).take 10) := by rw [ext_mk, hk48, hk58, show k + 58 - (k + 48) = 10 by omega, field_at 48 10 (by omega)]
        have hx2 : (mk b).extract k16 k28 = mk (((headAt b k).drop 16).take 12) := by rw [ext_mk, hk16, hk28, show k + 28 - (k + 16) = 12 by omega, field_at 16 12 (by omega)]
        have hx3 : (mk b).extract k k16 = mk ((headAt b k).take 16) := by
          have := field_at (b := b) (k := k) 0 16 (by omega)
          rw [ext_mk, hk16, show k + 16 - k = 16 by omega]
          exact congrArg mk (by simpa using this)
        have kD1 := Lib.hid (fun (W : World) => digits_calls (((headAt b k).drop 48).take 10) W (by rw [List.length_take]; omega))
        have kD2 := Lib.hid (fun (W : World) => digits_calls (((headAt b k).drop 16).take 12) W (by rw [List.length_take]; omega))
        have z1 : k6 ≤ b.length := by omega
        have z2 : k48 ≤ k58 := by omega
        have z3 : k58 ≤ b.length := by omega
        have z4 : k16 ≤ k28 := by omega
        have z5 : k28 ≤ b.length := by omega
        have z6 : k ≤ k16 := by omega
        have z7 : k16 ≤ b.length := by omega
        have kke := Lib.hid hk6
        have hdb := dig_bounds (((headAt b k).drop 48).take 10)
        have hdb2 := dig_bounds (((headAt b k).drop 16).take 12)
        have ksp := Lib.hid (show mstepP b k names = if digP (((headAt b k).drop 48).take 10) < 0 ∨ ((b.length - (k + 60) : Nat) : Int) < digP (((headAt b k).drop 48).take 10) then none else
          if k = 8 ∧ (headAt b k).take 16 = padB [47, 47] 16 then some (none, (b.drop (k + 60)).take (digP (((headAt b k).drop 48).take 10)).toNat, k + 60 + evenN (digP (((headAt b k).drop 48).take 10)).toNat) else
          match mnameP ((headAt b k).take 16) names with
          | none => none
          | some n => some (some ⟨n, digP (((headAt b k).drop 16).take 12), (b.drop (k + 60)).take (digP (((headAt b k).drop 48).take 10)).toNat⟩, names, k + 60 + evenN (digP (((headAt b k).drop 48).take 10)).toNat) from rfl)
        obtain ⟨R, hR⟩ : ∃ R : Nat, R = b.length - (k + 60) := ⟨_, rfl⟩
        have e6 : IntKind.i64.wrap ((b.length : Int) - (k6 : Int)) = (R : Int) := by rw [IntWalk.i64_in _ (by omega)]; omega
        rw [← hR] at ksp
        generalize digP (((headAt b k).drop 48).take 10) = sz at *
        generalize digP (((headAt b k).drop 16).take 12) = dt at *
        generalize mk (((headAt b k).drop 48).take 10) = s1 at *
        generalize mk (((headAt b k).drop 16).take 12) = s2 at *
        have kR := Lib.hid hR
        clear hk6 hk48 hk58 hk16 hk28 hR hend
        by_cases hbad : sz < 0 ∨ (R : Int) < sz
        · have kp := Lib.hid (kno.out (show memP b = none by rw [krd.out, kst.out, ksp.out, if_pos hbad]; rfl))
          by_cases hb1 : sz < 0
          · clear hbad
            go_wp2_with (first | (go_at_call_of 34 (Value.string s1); refine (kD1.out _).mono ?_; rintro e w1 ⟨rfl, rfl⟩) | (go_at_call_of 34 (Value.string s2); refine (kD2.out _).mono ?_; rintro e w1 ⟨rfl, rfl⟩))
            go_ret2
            exact ⟨Or.inr ⟨kp.out, by rw [kif.out]; rfl⟩, kL.out.1⟩
          · have hb2 : (R : Int) < sz := by omega
            clear hbad
            go_wp2_with (first | (go_at_call_of 34 (Value.string s1); refine (kD1.out _).mono ?_; rintro e w1 ⟨rfl, rfl⟩) | (go_at_call_of 34 (Value.string s2); refine (kD2.out _).mono ?_; rintro e w1 ⟨rfl, rfl⟩))
            go_ret2
            exact ⟨Or.inr ⟨kp.out, by rw [kif.out]; rfl⟩, kL.out.1⟩
        · obtain ⟨N, rfl⟩ : ∃ N : Nat, sz = (N : Int) := ⟨sz.toNat, by omega⟩
          rw [if_neg hbad, Int.toNat_natCast] at ksp
          have hb1 : ¬ (N : Int) < 0 := by omega
          have hb2 : ¬ (R : Int) < (N : Int) := by omega
          obtain ⟨kd, hkd⟩ : ∃ q : Nat, q = k6 + N := ⟨_, rfl⟩
          obtain ⟨r, hr⟩ : ∃ q : Nat, q = N % 2 := ⟨_, rfl⟩
          obtain ⟨k9, hk9⟩ : ∃ q : Nat, q = kd + r := ⟨_, rfl⟩
          have d1 : (N : Int) % 2 = (r : Int) := by omega
          have hkeo := kke.out
          have hRo := kR.out
          have e7 : IntKind.i64.wrap ((k6 : Int) + (N : Int)) = (kd : Int) := by rw [IntWalk.i64_in _ (by omega)]; omega
          have e8 : IntKind.i64.wrap ((kd : Int) + (r : Int)) = (k9 : Int) := by rw [IntWalk.i64_in _ (by omega)]; omega
          have z8 : k6 ≤ kd := by omega
          have z9 : kd ≤ b.length := by omega
          have z10 : k9 ≤ b.length + 1 := by omega
          have z11 : k6 ≤ k9 := by omega
          have kk9 := Lib.hid (show k + 60 + evenN N = k9 by unfold evenN; omega)
          have hx4 : (mk b).extract k6 kd = mk ((b.drop (k + 60)).take N) := by rw [ext_mk, hkeo, hkd, hkeo, show k + 60 + N - (k + 60) = N by omega]
          have hdl : ((b.drop (k + 60)).take N).length ≤ 70000 := by rw [List.length_take]; omega
          generalize (b.drop (k + 60)).take N = data at *
          have kPd := Lib.hid (fun (W : World) => refpad_calls [47, 47] 16 W (by decide) (by decide))
          have hn16 : ((headAt b k).take 16).length = 16 := by
            unfold headAt
            rw [List.length_take, List.length_take, List.length_drop]; omega
          have kkl := Lib.hid (And.intro hkeo hRo)
          clear hkd hr hk9 hkeo hRo hbad
          by_cases htb : k = 8 ∧ (headAt b k).take 16 = padB [47, 47] 16
          · have kp9 := Lib.hid (show memP b = (mFrom b f k9 data).map (L.map NV.m ++ ·) by rw [krd.out, kst.out, ksp.out, if_pos htb, kk9.out])
            obtain ⟨hk8, hpd⟩ := htb
            have f1 : ((mk ((headAt b k).take 16)).toList == (mk (padB [47, 47] 16)).toList) = true := by rw [hpd]; exact beq_self_eq_true _
            have y8 : ((k : Int) == 8) = true := by rw [hk8]; rfl
            have khl := Lib.hid (And.intro hk8 hpd)
            clear hpd hk8
            generalize mk ((headAt b k).take 16) = s3 at *
            generalize mk (padB [47, 47] 16) = s4 at *
            go_wp2_with (first | (go_at_call_of 34 (Value.string s1); refine (kD1.out _).mono ?_; rintro e w1 ⟨rfl, rfl⟩) | (go_at_call_of 34 (Value.string s2); refine (kD2.out _).mono ?_; rintro e w1 ⟨rfl, rfl⟩) | (go_at_call 35; refine (kPd.out _).mono ?_; rintro e w1 ⟨rfl, rfl⟩))
            have h1 := kkl.out.1
            exact ⟨⟨k9, f, data, L, rfl, rfl, by omega, by omega, hdl, by omega, kL.out, kp9.out⟩, by simp [intOf]; omega⟩
          · have kntb := Lib.hid htb
            clear htb
            generalize hnm16 : (headAt b k).take 16 = nm at *
            have hsz16 := mk_size nm
            rw [hn16] at hsz16
            go_upto_region 15 with (first | (go_at_call_of 34 (Value.string s1); refine (kD1.out _).mono ?_; rintro e w1 ⟨rfl, rfl⟩) | (go_at_call_of 34 (Value.string s2); refine (kD2.out _).mono ?_; rintro e w1 ⟨rfl, rfl⟩))
            have hRN : decide (R < N) = false := decide_eq_false (by omega)
            simp only [hRN, Bool.or_false]
            go_cut [72] from 66 to 72 (fun bv wx => bv = .bool false ∧ wx = wr)
            case first =>
              by_cases hk8 : k = 8
              · have hne : ¬ nm = padB [47, 47] 16 := fun h => kntb.out ⟨hk8, h⟩
                have f1 : ((mk nm).toList == (mk (padB [47, 47] 16)).toList) = false := ba_ne (fun e => hne (mk_inj e))
                have y8 : ((k : Int) == 8) = true := by rw [hk8]; rfl
                clear hk8 hne
                generalize mk (padB [47, 47] 16) = s4 at *
                go_wp2_with (go_at_call 35; refine (kPd.out _).mono ?_; rintro e w1 ⟨rfl, rfl⟩)
                go_meet
                case rel => exact ⟨rfl, rfl⟩
              · have y8 : ((k : Int) == 8) = false := by rw [beq_eq_false_iff_ne]; omega
                go_wp2_with fail
                go_meet
                case rel => exact ⟨by simp [hk8], rfl⟩
            case rest =>
              obtain ⟨rfl, rfl⟩ := hcut
              obtain ⟨c0, nr, hnc⟩ : ∃ c0 nr, nm = c0 :: nr := by
                cases nm with
                | nil => simp at hn16
                | cons c r => exact ⟨c, r, rfl⟩
              have hidx : ∀ h : 0 < (mk nm).size, (mk nm)[0]'h = c0 := by subst hnc; intro h; rfl
              have h0s : 0 < (mk nm).size := by omega
              have hi0 := hidx h0s
              have hx5 : (mk nm).extract 1 16 = mk (nm.drop 1) := by rw [ext_mk, List.take_of_length_le (by rw [List.length_drop]; omega)]
              have kD3 := Lib.hid (fun (W : World) => digits_calls (nm.drop 1) W (by rw [List.length_drop]; omega))
              have kI1 := Lib.hid (fun (W : World) => refIndex_calls nm 47 W (by omega) 47 rfl)
              have hd3 := dig_bounds (nm.drop 1)
              have hmn := mk_size names
              have kmn := Lib.hid (show mnameP nm names = if nm.head? = some 47 then
                  if digP (nm.drop 1) < 0 ∨ (names.length : Int) < digP (nm.drop 1) then none else
                  if findB (names.drop (digP (nm.drop 1)).toNat) [47, 10] < 0 then none else some ((names.drop (digP (nm.drop 1)).toNat).take (findB (names.drop (digP (nm.drop 1)).toNat) [47, 10]).toNat)
                else if idxB nm 47 < 0 then none else some (nm.take (idxB nm 47).toNat) from rfl)
              have khd := Lib.hid (show nm.head? = some 47 ↔ c0 = 47 by rw [hnc]; simp)
              have kbad := Lib.hid (show mnameP nm names = none → memP b = none from fun h => by rw [krd.out, kst.out, ksp.out, if_neg kntb.out, h]; rfl)
              have kgood := Lib.hid (show ∀ n, mnameP nm names = some n → memP b = (mFrom b f k9 names).map (L.map NV.m ++ [(⟨n, dt, data⟩ : Mem)] ++ ·) from fun n h => by
                rw [krd.out, kst.out, ksp.out, if_neg kntb.out, h]
                dsimp only
                rw [kk9.out]
                cases mFrom b f k9 names with
                | none => rfl
                | some r => simp)
              clear hidx
              by_cases h47 : c0 = 47
              · have e47 : ((((mk nm)[0]'h0s).toNat : Int) == 47) = true := by rw [hi0, h47]; rfl
                rw [if_pos (khd.out.2 h47)] at kmn
                clear hi0 hnc h47
                generalize digP (nm.drop 1) = dq at *
                generalize mk (nm.drop 1) = s5 at *
                by_cases hq : dq < 0 ∨ (names.length : Int) < dq
                · have kp := Lib.hid (kno.out (kbad.out (by rw [kmn.out, if_pos hq])))
                  by_cases hq1 : dq < 0
                  · clear hq
                    go_wp2_with (go_at_call 34; refine (kD3.out _).mono ?_; rintro e w1 ⟨rfl, rfl⟩)
                    go_ret2
                    exact ⟨Or.inr ⟨kp.out, by rw [kif.out]; rfl⟩, kL.out.1⟩
                  · have hq2 : (names.length : Int) < dq := by omega
                    clear hq
                    go_wp2_with (go_at_call 34; refine (kD3.out _).mono ?_; rintro e w1 ⟨rfl, rfl⟩)
                    go_ret2
                    exact ⟨Or.inr ⟨kp.out, by rw [kif.out]; rfl⟩, kL.out.1⟩
                · obtain ⟨Q, rfl⟩ : ∃ Q : Nat, dq = (Q : Int) := ⟨dq.toNat, by omega⟩
                  rw [if_neg hq, Int.toNat_natCast] at kmn
                  have hq1 : ¬ (Q : Int) < 0 := by omega
                  have hq2 : ¬ (names.length : Int) < (Q : Int) := by omega
                  have hq3 : Q ≤ names.length := by omega
                  have hx6 : (mk names).extract Q names.length = mk (names.drop Q) := by rw [ext_mk, List.take_of_length_le (by rw [List.length_drop]; omega)]
                  have kF := Lib.hid (fun (W : World) => refFind_calls (names.drop Q) [47, 10] W (by rw [List.length_drop]; omega) (by decide))
                  have hfl := find_up (names.drop Q)
                  rw [List.length_drop] at hfl
                  generalize findB (names.drop Q) [47, 10] = fe at *
                  by_cases hf1 : fe < 0
                  · have kp := Lib.hid (kno.out (kbad.out (by rw [kmn.out, if_pos hf1])))
                    clear hq kmn
                    generalize mk (names.drop Q) = s6 at *
                    go_wp2_with (first | (go_at_call 34; refine (kD3.out _).mono ?_; rintro e w1 ⟨rfl, rfl⟩) | (go_at_call 18; refine (kF.out _).mono ?_; rintro e w1 ⟨rfl, rfl⟩))
                    go_ret2
                    exact ⟨Or.inr ⟨kp.out, by rw [kif.out]; rfl⟩, kL.out.1⟩
                  · obtain ⟨F, rfl⟩ : ∃ F : Nat, fe = (F : Int) := ⟨fe.toNat, by omega⟩
                    rw [if_neg hf1, Int.toNat_natCast] at kmn
                    obtain ⟨qf, hqf⟩ : ∃ qf : Nat, qf = Q + F := ⟨_, rfl⟩
                    have e9 : IntKind.i64.wrap ((Q : Int) + (F : Int)) = (qf : Int) := by rw [IntWalk.i64_in _ (by omega)]; omega
                    have z12 : Q ≤ qf := by omega
                    have z13 : qf ≤ names.length := by omega
                    have hx7 : (mk names).extract Q qf = mk ((names.drop Q).take F) := by rw [ext_mk, hqf, show Q + F - Q = F by omega]
                    generalize (names.drop Q).take F = nmR at *
                    generalize mk (names.drop Q) = s6 at *
                    clear hq hqf
                    have kp9 := Lib.hid (kgood.out _ kmn.out)
                    have hbc := byte_conv wc data
                    obtain ⟨TT, hR6, hB6, hT6, hz6, hb6⟩ := memb_more (m := ⟨nmR, dt, data⟩) kL.out (byte_below wc data) (byte_row wc data (by omega)) (by simp [byteW])
                    have kR6 := Lib.hid hR6
                    have kB6 := Lib.hid hB6
                    have kT6 := Lib.hid hT6
                    have kz6 := Lib.hid hz6
                    have kb6 := Lib.hid hb6
                    have kN6 := Lib.hid (cells_new (byteW wc data) (NV.make ⟨nmR, dt, data⟩ (.slice (some ⟨wc.heap.size, 0, none⟩) data.length (grownCap wc data.length 0 5))).cells 37)
                    clear hR6 hB6 hT6 hz6 hb6 kmn
                    go_upto_region 31 with (first | (go_at_call 34; refine (kD3.out _).mono ?_; rintro e w1 ⟨rfl, rfl⟩) | (go_at_call 18; refine (kF.out _).mono ?_; rintro e w1 ⟨rfl, rfl⟩) | (at_builtin; refine wpList_append_row _ rfl _ _ rfl w.heap.size _ L TT rfl kR6.out (NV.make ⟨nmR, dt, data⟩ (.slice (some ⟨wc.heap.size, 0, none⟩) data.length (grownCap wc data.length 0 5))) ⟨(byteW wc data).heap.size, 0, none⟩ 1 rfl kN6.out kB6.out (by omega) kz6.out ?_; intro a9 c9 w9 h9 hg9; have k9m := Lib.hid h9; have kg9 := Lib.hid hg9; clear h9 hg9))
                    go_wp2_with fail
                    have h1 := kkl.out.1
                    refine ⟨⟨k9, f, names, L ++ [NV.make ⟨nmR, dt, data⟩ (.slice (some ⟨wc.heap.size, 0, none⟩) data.length (grownCap wc data.length 0 5))], rfl, rfl, by omega, by omega, hnl, by rw [List.length_append, List.length_singleton]; omega, ⟨?_, ?_⟩, by rw [kp9.out, List.map_append]; rfl⟩, by simp [intOf]; omega⟩
                    · exact kb6.out.trans ⟨kg9.out.os, kg9.out.tape, kg9.out.output, kg9.out.size, fun j hj => kg9.out.block j (Nat.lt_of_lt_of_le hj kb6.out.size) (fun e => by have := (kR6.out.lt j e.symm).1; omega)⟩
                    · exact k9m.out.weak (fun j hj => ⟨kT6.out j hj, (k9m.out.2.2 j hj).1, (k9m.out.2.2 j hj).2⟩) (fun j hj => ⟨hj.2.1, hj.2.2⟩)
              · have e47 : ((((mk nm)[0]'h0s).toNat : Int) == 47) = false := by
                  rw [hi0, beq_eq_false_iff_ne]; intro e; exact h47 (UInt8.toNat_inj.1 (by show c0.toNat = 47; omega))
                rw [if_neg (fun h => h47 (khd.out.1 h))] at kmn
                clear hi0 hnc h47
                have hix := idx_le nm 47
                generalize hie : idxB nm 47 = ie at *
                by_cases hi1 : ie < 0
                · have kp := Lib.hid (kno.out (kbad.out (by rw [kmn.out, if_pos hi1])))
                  go_wp2_with (go_at_call 36; refine (kI1.out _).mono ?_; rintro e w1 ⟨rfl, rfl⟩)
                  go_ret2
                  exact ⟨Or.inr ⟨kp.out, by rw [kif.out]; rfl⟩, kL.out.1⟩
                · obtain ⟨I, rfl⟩ : ∃ I : Nat, ie = (I : Int) := ⟨ie.toNat, by omega⟩
                  rw [if_neg hi1, Int.toNat_natCast] at kmn
                  have hI16 : I ≤ 16 := by omega
                  have hx6 : (mk nm).extract 0 I = mk (nm.take I) := by rw [ext_mk]; simp
                  have kp9 := Lib.hid (kgood.out _ kmn.out)
                  have hbc := byte_conv wc data
                  obtain ⟨TT, hR6, hB6, hT6, hz6, hb6⟩ := memb_more (m := ⟨nm.take I, dt, data⟩) kL.out (byte_below wc data) (byte_row wc data (by omega)) (by simp [byteW])
                  have kR6 := Lib.hid hR6
                  have kB6 := Lib.hid hB6
                  have kT6 := Lib.hid hT6
                  have kz6 := Lib.hid hz6
                  have kb6 := Lib.hid hb6
                  have kN6 := Lib.hid (cells_new (byteW wc data) (NV.make ⟨nm.take I, dt, data⟩ (.slice (some ⟨wc.heap.size, 0, none⟩) data.length (grownCap wc data.length 0 5))).cells 37)
                  clear hR6 hB6 hT6 hz6 hb6 kmn
                  go_upto_region 31 with (first | (go_at_call 36; refine (kI1.out _).mono ?_; rintro e w1 ⟨rfl, rfl⟩) | (at_builtin; refine wpList_append_row _ rfl _ _ rfl w.heap.size _ L TT rfl kR6.out (NV.make ⟨nm.take I, dt, data⟩ (.slice (some ⟨wc.heap.size, 0, none⟩) data.length (grownCap wc data.length 0 5))) ⟨(byteW wc data).heap.size, 0, none⟩ 1 rfl kN6.out kB6.out (by omega) kz6.out ?_; intro a9 c9 w9 h9 hg9; have k9m := Lib.hid h9; have kg9 := Lib.hid hg9; clear h9 hg9))
                  go_wp2_with fail
                  have h1 := kkl.out.1
                  refine ⟨⟨k9, f, names, L ++ [NV.make ⟨nm.take I, dt, data⟩ (.slice (some ⟨wc.heap.size, 0, none⟩) data.length (grownCap wc data.length 0 5))], rfl, rfl, by omega, by omega, hnl, by rw [List.length_append, List.length_singleton]; omega, ⟨?_, ?_⟩, by rw [kp9.out, List.map_append]; rfl⟩, by simp [intOf]; omega⟩
                  · exact kb6.out.trans ⟨kg9.out.os, kg9.out.tape, kg9.out.output, kg9.out.size, fun j hj => kg9.out.block j (Nat.lt_of_lt_of_le hj kb6.out.size) (fun e => by have := (kR6.out.lt j e.symm).1; omega)⟩
                  · exact k9m.out.weak (fun j hj => ⟨kT6.out j hj, (k9m.out.2.2 j hj).1, (k9m.out.2.2 j hj).2⟩) (fun j hj => ⟨hj.2.1, hj.2.2⟩)
end Go.Proofs.YtnjagoglabllaaaGreatDoor
