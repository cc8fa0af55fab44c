/-
  read. Conditions: at most 70000 bytes; strconv.ErrSyntax holds an error.
-/
import Derived.Test.YtnjagoglabllaaaGreatDoorArReadC
import Derived.Test.YtnjagoglabllaaaGreatDoorArOwnF
import Derived.Test.YtnjagoglabllaaaGreatDoorArLive
namespace Go.Proofs.YtnjagoglabllaaaGreatDoor
open Go.RowKit

/-- A scope with a label to fall through (number 1) and one to end at (number 0). -/
theorem wp_scope_two {P : Program} {a : Act} {w : World} {Q : Exit → Act → World → Prop} {c tail : Code} (J : Nat → Act → World → Prop) (μ : Nat → Act → World → Nat) (hf : findLabel c 1 = some (Code.skip.seq tail)) (only : ∀ l a w, J l a w → l = 0 ∨ l = 1)
    (zero : ∀ a w, J 0 a w → ∃ rest, findLabel c 0 = some rest ∧ rest.wp P (jumps (fun l' a' w' => J l' a' w' ∧ μ l' a' w' < μ 0 a w) Q) a w)
    (round : ∀ a w, J 1 a w → tail.wp P (jumps (fun l' a' w' => J l' a' w' ∧ μ l' a' w' < μ 1 a w) Q) a w)
    (first : (∀ a w, J 1 a w → tail.wp P (jumps J Q) a w) → c.wp P (jumps J Q) a w) : (Code.scope c).wp P Q a w := by
  refine wp_scope_gotos J μ (first fun a w hJ => wp_mono (round a w hJ) ?_) ?_
  · intro e a' w' h
    cases e with
    | goto l => exact h.1
    | normal => exact h
    | exit id => exact h
    | ret => exact h
    | panic ch => exact h
    | outgrown => exact h
  · intro l a w hJ
    rcases only l a w hJ with rfl | rfl
    · exact zero a w hJ
    · exact ⟨_, hf, wp_seq (wp_skip (round a w hJ))⟩
/-- What read leaves. -/
def ReadPost (w : World) (b : Bs) (e : Ending) (w' : World) : Prop :=
  ((∃ l a c L, readP b = some l ∧ e = .returned (.tuple #[.slice a l.length c, .nilIface]) ∧ L.map NV.m = l ∧ MemsOwn w' w.heap.size (.slice a l.length c) L) ∨
    (readP b = none ∧ ∃ n, e = .returned (.tuple #[.slice none 0 0, .iface 74 (.agg #[.int .i64 n, .iface 27 (.int .i64 20)])]))) ∧ Below w.heap.size w w'
/-- What holds where read jumps. -/
def ReadJ (w : World) (bv : Value) (b : Bs) (l : Nat) (a : Act) (W : World) : Prop :=
  (l = 0 ∧ readP b = none ∧ Below w.heap.size w W ∧ ∃ n v0 v1 v4 v6 v7 v8 v9 v10 v11 v12 v13 v14 v15, Fr31 a v0 v1 v4 (.int .i64 n) v6 v7 v8 v9 v10 v11 v12 v13 v14 v15) ∨
  (l = 1 ∧ Below w.heap.size w W ∧ ∃ (k f : Nat) (names : Bs) (L : List NV) (v1 v4 v6 v7 v8 v9 v10 v12 v13 v14 v15 : Value), Fr31 a bv v1 v4 (.int .i64 k) v6 v7 v8 v9 v10 (.string (mk names)) v12 v13 v14 v15 ∧
    k ≤ b.length ∧ b.length - k < f ∧ names.length ≤ 70000 ∧ L.length ≤ k ∧ MemsOwn W w.heap.size v4 L ∧ readP b = (readFrom b f k names).map (L.map NV.m ++ ·))
def readMu (b : Bs) (l : Nat) (a : Act) : Nat := if l = 0 then 0 else b.length - (intOf (a.tmps.getD 5 undef)).toNat + 1
theorem sub_bytes {w : World} {g off n c : Nat} {b : Bs} {S : Nat → Prop} (h : BytesAt w (.slice (some ⟨g, off, none⟩) n c) b S) (i j : Nat) (hij : i ≤ j) (hj : j ≤ b.length) (hb : 0 < b.length) : BytesAt w (.slice (some ⟨g, off + i, none⟩) (j - i) (j - i)) ((b.drop i).take (j - i)) S := by
  have hl : ((b.drop i).take (j - i)).length = j - i := by rw [List.length_take, List.length_drop]; omega
  obtain ⟨a, c', e, h1, h2, h3, h4⟩ := h
  obtain ⟨g', off', ea, hs, hlt, hc⟩ := h4 hb
  injection e with e1 e2 e3
  rw [← e1] at ea
  injection ea with ea; injection ea with ea1 ea2
  subst ea1 ea2
  refine ⟨_, _, by rw [hl], by omega, by omega, (fun e => by cases e), fun _ => ⟨g, off + i, rfl, hs, hlt, fun k x hk => ?_⟩⟩
  have hk2 : k < j - i := by have := (List.getElem?_eq_some_iff.1 hk).1; omega
  rw [List.getElem?_take, if_pos hk2, List.getElem?_drop] at hk
  have := hc _ _ hk
  rwa [Nat.add_assoc]
theorem bytes_nz {w : World} {a : Option Addr} {n c : Nat} {b : Bs} {S : Nat → Prop} (h : BytesAt w (.slice a n c) b S) (hb : 0 < b.length) : ∃ g off, a = some ⟨g, off, none⟩ ∧ g < w.heap.size ∧ n = b.length ∧ (n : Int) ≤ (c : Int) ∧ (c : Int) ≤ 9223372036854775807 := by
  obtain ⟨a', c', e, h1, h2, h3, h4⟩ := h
  obtain ⟨g, off, ea, -, hl, -⟩ := h4 hb
  injection e with e1 e2 e3
  unfold maxLen at h2
  exact ⟨g, off, by rw [e1, ea], hl, e2, by omega, by omega⟩
theorem trim_len (l : Bs) (c : UInt8) : (Lib.trimRightB l c).length ≤ l.length := by
  unfold Lib.trimRightB
  rw [List.length_reverse]
  have := (List.dropWhile_sublist (· == c) (l := l.reverse)).length_le
  rwa [List.length_reverse] at this
theorem own_more {w wr w4 : World} {m : Mem} {lv dv' : Value} {L : List NV} (h4 : Below wr.heap.size wr w4) (hU : w4.ownsRow wr.heap.size 5 1 dv' m.data.length (ucells m.data)) (hN : MemsOwn wr w.heap.size lv L) (hw2 : w.heap.size ≤ wr.heap.size) :
    MemsOwn (w4.alloc (.cells #[.string (mk m.name), .int .i64 m.date, dv'] 37)) w.heap.size lv L ∧
    (∀ j u, (NV.make m dv').cells[j]? = some u → (w4.alloc (.cells #[.string (mk m.name), .int .i64 m.date, dv'] 37)).cell? ((⟨w4.heap.size, 0, none⟩ : Addr).add j) = some u) ∧
    UBytes (w4.alloc (.cells #[.string (mk m.name), .int .i64 m.date, dv'] 37)) dv' m.data (fun j => w.heap.size ≤ j ∧ j < (w4.alloc (.cells #[.string (mk m.name), .int .i64 m.date, dv'] 37)).heap.size ∧ lv.ownBlock ≠ some j) ∧
    Below wr.heap.size wr (w4.alloc (.cells #[.string (mk m.name), .int .i64 m.date, dv'] 37)) := by
  have h5 := below_al (o := .cells #[.string (mk m.name), .int .i64 m.date, dv'] 37) h4
  refine ⟨hN.keepb h5.block h5.size, cells_new w4 (NV.make m dv').cells 37, (ubytes_own hU).of_heap (fun j hj => heap_alloc_old _ _ hj.2) (fun j hj => ⟨by omega, by simp; omega, fun e => by have := (hN.lt _ e).2; omega⟩), h5⟩
theorem prefix_one {s : Bs} (h : Lib.hasPrefix s [47] = true) : 1 ≤ s.length := by
  unfold Lib.hasPrefix at h
  rw [List.isPrefixOf_iff_prefix] at h
  exact h.length_le
theorem cut_len (s : Bs) : (Lib.cut s [10]).1.length ≤ s.length := by
  unfold Lib.cut
  split
  · exact List.length_take_le' _ _
  · exact Nat.le_refl _
theorem bytes_in {w : World} {a : Option Addr} {n c : Nat} {b : Bs} {S : Nat → Prop} (h : BytesAt w (.slice a n c) b S) : Lib.BytesIn w a n (b.map fun c => (c.toNat : Int)) ∧ n = b.length ∧ n ≤ c := by
  obtain ⟨a', c', e, h1, h2, h3, h4⟩ := h
  injection e with e1 e2 e3
  subst e1 e3
  refine ⟨fun hn => ?_, e2, by omega⟩
  obtain ⟨g, off, ea, -, -, hc⟩ := h4 (by omega)
  refine ⟨g, off, ea, fun i hi => ?_⟩
  have hi' : i < b.length := by omega
  rw [hc i _ (List.getElem?_eq_getElem hi')]
  congr 2
  rw [List.getD, List.getElem?_map, List.getElem?_eq_getElem hi']; rfl
theorem bytes_of (b : Bs) : Lib.bytesOf (b.map fun c => (c.toNat : Int)) = b := by
  unfold Lib.bytesOf
  rw [List.map_map]
  exact (List.map_congr_left (fun x _ => by simp)).trans (List.map_id _)
theorem bytes_zero (w : World) (a : Addr) (S : Nat → Prop) : BytesAt w (.slice (some a) 0 0) [] S := ⟨some a, 0, rfl, Nat.le_refl _, Nat.zero_le _, (fun e => by cases e), fun h => absurd h (Nat.lt_irrefl _)⟩
theorem step_open {b : Bs} {k : Nat} {names : Bs} (h : ¬ b.length - k < 60) : stepP b k names = match sizeAt b k with
    | none => none
    | some n =>
      if fieldAt b k = [47, 47] then some (none, (b.drop (k + 60)).take n, k + (60 + evenN n)) else
      match dateAt b k with
      | none => none
      | some d =>
        match longAt (fieldAt b k) names with
        | none => none
        | some nm => some (some ⟨Lib.trimSuffix nm [47], d, (b.drop (k + 60)).take n⟩, names, k + (60 + evenN n)) := by
  unfold stepP
  rw [if_neg h]
  rfl
theorem prefix_len {b : Bs} (h : Lib.hasPrefix b magicB = true) : 8 ≤ b.length := by
  unfold Lib.hasPrefix at h
  rw [List.isPrefixOf_iff_prefix] at h
  exact h.length_le
set_option maxRecDepth 100000 in
set_option maxHeartbeats 8000000 in
theorem read_calls {w : World} {bv : Value} {b : Bs} {S : Nat → Prop} (hb : BytesAt w bv b S) (hS : ∀ j, S j → j < w.heap.size) (hlen : b.length ≤ 70000) (herr : ErrV w) :
    Calls Tryz.prog 31 #[bv] w (ReadPost w b) := by
  obtain ⟨ba, bc, hbf⟩ := hb.form
  subst hbf
  have kb := Lib.hid (fun (W : World) (h : Below w.heap.size w W) => hb.of_heap (w' := W) (S' := S) (fun j hj => h.block j (hS j hj)) (fun _ h => h))
  have kerr := Lib.hid (fun (W : World) (h : Below w.heap.size w W) => herr.on h herr.2)
  have kmB := Lib.hid (show Below w.heap.size w (magicW w) from below_al (Below.refl _ _))
  have hmc := magic_conv w
  have hHP : Hid (Calls Tryz.prog 44 #[.slice ba b.length bc, .slice (some ⟨w.heap.size, 0, none⟩) 8 8] (magicW w) fun e w' => e = .returned (.bool (Lib.hasPrefix b magicB)) ∧ w' = magicW w) := by
    obtain ⟨p1, -, p3⟩ := bytes_in (kb.out _ kmB.out)
    obtain ⟨r1, -, -⟩ := bytes_in ((magic_row w (Nat.le_refl _) |> fun h => OutX.bytes (Or.inr h) (by decide)))
    have h := Tryz.bytes_HasPrefix_all ba (some ⟨w.heap.size, 0, none⟩) b.length bc 8 8 (b.map fun c => (c.toNat : Int)) (magicB.map fun c => (c.toNat : Int)) (magicW w) (by simp) rfl p3 p1 r1
    rw [bytes_of, bytes_of] at h
    exact Lib.hid h
  go_enter Tryz.func31, Tryz.ntmps31
  go_wp2
  refine wp_scope_two (ReadJ w (.slice ba b.length bc) b) (fun l a _ => readMu b l a) rfl ?only ?zero ?round ?one
  case only =>
    rintro l a W (⟨rfl, -⟩ | ⟨rfl, -⟩)
    · exact Or.inl rfl
    · exact Or.inr rfl
  case zero =>
    rintro a W (⟨-, kr, kB, n, v0, v1, v4, v6, v7, v8, v9, v10, v11, v12, v13, v14, v15, T, rfl⟩ | ⟨h, -⟩)
    · refine ⟨_, rfl, ?_⟩
      have kr' := Lib.hid kr
      clear kr
      go_wp2
      rw [jumps_ret]
      go_ret2
      exact ⟨Or.inr ⟨kr'.out, n, rfl⟩, kB⟩
    · cases h
  case one =>
    intro again
    have kag := Lib.hid again
    clear again
    cases hp : Lib.hasPrefix b magicB with
    | false =>
      rw [hp] at hHP
      have kr := Lib.hid (show readP b = none by unfold readP; rw [if_neg (by rw [hp]; simp)])
      clear hp
      go_wp2_with (go_at_call 44; refine hHP.out.mono ?_; rintro e w3 ⟨rfl, rfl⟩)
      go_step3
      exact Or.inl ⟨rfl, kr.out, kmB.out, _, _, _, _, _, _, _, _, _, _, _, _, _, _, Fr31.mk _ rfl rfl⟩
    | true =>
      rw [hp] at hHP
      have kr := Lib.hid (show readP b = readFrom b (b.length + 1) 8 [] by unfold readP; rw [if_pos hp])
      have k8 := Lib.hid (prefix_len hp)
      clear hp
      go_wp2_with (go_at_call 44; refine hHP.out.mono ?_; rintro e w3 ⟨rfl, rfl⟩)
      rename_i hK
      refine wp_label (hK _ _ (kag.out _ _ (Or.inr ⟨rfl, kmB.out, 8, b.length + 1, [], [], _, _, _, _, _, _, _, _, _, _, _, Fr31.mk _ rfl rfl, k8.out, by omega, by decide, by decide, MemsOwn.nil _ _, ?_⟩)))
      rw [kr.out]
      simp
  case round =>
    rintro a W (⟨h, -⟩ | ⟨-, hB, k, f, names, L, v1, v4, v6, v7, v8, v9, v10, v12, v13, v14, v15, ⟨T, rfl⟩, hk, hf, hnl, hLl, hL, hrd⟩)
    · cases h
    · have kB := Lib.hid hB
      have kL := Lib.hid hL
      have krd := Lib.hid hrd
      have kbw := Lib.hid (kb.out _ hB)
      cases f with
      | zero => omega
      | succ f =>
      have krf := Lib.hid (show readFrom b (f + 1) k names = if k = b.length then some [] else match stepP b k names with
        | none => none
        | some (none, nm, a) => readFrom b f a nm
        | some (some m, nm, a) => (readFrom b f a nm).map (m :: ·) from rfl)
      clear hB hL hrd
      by_cases hend : k = b.length
      · have kp := Lib.hid (show readP b = some (L.map NV.m) by rw [krd.out, krf.out, if_pos hend]; simp)
        have y0 : ((k : Int) == (b.length : Int)) = true := by rw [beq_iff_eq]; omega
        obtain ⟨va, vc, hvf⟩ := kL.out.form
        subst hvf
        clear hend
        go_wp2_with fail
        rw [jumps_ret]
        go_ret2
        have kll : (L.map NV.m).length = L.length := List.length_map _
        exact ⟨Or.inl ⟨L.map NV.m, va, vc, L, kp.out, by rw [kll]; rfl, rfl, by rw [kll]; exact kL.out⟩, kB.out⟩
      · have y0 : ((k : Int) == (b.length : Int)) = false := by rw [beq_eq_false_iff_ne]; omega
        obtain ⟨R, hR⟩ : ∃ R : Nat, R = b.length - k := ⟨_, rfl⟩
        have e0 : IntKind.i64.wrap ((b.length : Int) - (k : Int)) = (R : Int) := by rw [IntWalk.i64_in _ (by omega)]; omega
        by_cases hsh : R < 60
        · have kp := Lib.hid (show readP b = none by
            rw [krd.out, krf.out, if_neg hend]
            unfold stepP
            rw [if_pos (by omega)]; rfl)
          have y1 : (R : Int) < 60 := by omega
          clear hend hR
          go_wp2_with fail
          go_step3
          exact ⟨Or.inl ⟨rfl, kp.out, kB.out, _, _, _, _, _, _, _, _, _, _, _, _, _, _, Fr31.mk _ rfl rfl⟩, by unfold readMu; simp⟩
        · have y1 : ¬ (R : Int) < 60 := by omega
          have hb0 : 0 < b.length := by omega
          obtain ⟨g, off, rfl, hgl, -, hcap1, hcap2⟩ := bytes_nz kbw.out hb0
          obtain ⟨k6, hk6⟩ : ∃ k6 : Nat, k6 = k + 60 := ⟨_, rfl⟩
          have e1 : IntKind.i64.wrap ((k : Int) + 60) = (k6 : Int) := by rw [IntWalk.i64_in _ (by omega)]; omega
          have kH := Lib.hid (sub_bytes kbw.out k k6 (by omega) (by omega) hb0)
          have hcv := bytes_str kH.out
          have kHd := Lib.hid (show (b.drop k).take (k6 - k) = headAt b k by unfold headAt; rw [hk6]; congr 1; omega)
          rw [kHd.out] at hcv
          have z1 : k6 ≤ b.length := by omega
          have z2 : k ≤ k6 := by omega
          have z3 : b.length ≤ bc := by omega
          have kke := Lib.hid (And.intro hk6 hR)
          have kend := Lib.hid hend
          have ksh := Lib.hid hsh
          have z4 : ¬ k6 = k := by omega
          have z5 : R ≤ 70000 := by omega
          have hHl : (headAt b k).length = 60 := by unfold headAt; rw [List.length_take, List.length_drop]; omega
          have hms := mk_size (headAt b k)
          rw [hHl] at hms
          have hx1 : (mk (headAt b k)).extract 48 58 = mk (((headAt b k).drop 48).take 10) := ext_mk _ _ _
          have hx2 : (mk (headAt b k)).extract 0 16 = mk ((headAt b k).take 16) := ext_mk _ _ _
          have hx3 : (mk (headAt b k)).extract 16 28 = mk (((headAt b k).drop 16).take 12) := ext_mk _ _ _
          have kT1 := Lib.hid (fun (W : World) => trim_calls (((headAt b k).drop 48).take 10) W (by rw [List.length_take]; omega))
          have kT2 := Lib.hid (fun (W : World) => trim_calls ((headAt b k).take 16) W (by rw [List.length_take]; omega))
          have kT3 := Lib.hid (fun (W : World) => trim_calls (((headAt b k).drop 16).take 12) W (by rw [List.length_take]; omega))
          have l1 := Lib.hid (Nat.le_trans (trim_len (((headAt b k).drop 48).take 10) 32) (List.length_take_le _ _))
          have l2 := Lib.hid (Nat.le_trans (trim_len ((headAt b k).take 16) 32) (List.length_take_le _ _))
          have l3 := Lib.hid (Nat.le_trans (trim_len (((headAt b k).drop 16).take 12) 32) (List.length_take_le _ _))
          have ksz := Lib.hid (show sizeAt b k = match Lib.atoi (Lib.trimRightB (((headAt b k).drop 48).take 10) 32) with
            | none => none
            | some n => if n < 0 ∨ ((b.length - k - 60 : Nat) : Int) < n ∨ b.length - k - 60 < evenN n.toNat then none else some n.toNat from rfl)
          have kfd := Lib.hid (show fieldAt b k = Lib.trimRightB ((headAt b k).take 16) 32 from rfl)
          have kdt := Lib.hid (show dateAt b k = Lib.atoi (Lib.trimRightB (((headAt b k).drop 16).take 12) 32) from rfl)
          have kst := Lib.hid (step_open (names := names) (show ¬ b.length - k < 60 by omega))
          generalize Lib.trimRightB (((headAt b k).drop 48).take 10) 32 = t1 at *
          generalize Lib.trimRightB ((headAt b k).take 16) 32 = t2 at *
          generalize Lib.trimRightB (((headAt b k).drop 16).take 12) 32 = t3 at *
          generalize mk (((headAt b k).drop 48).take 10) = s1 at *
          generalize mk ((headAt b k).take 16) = s2 at *
          generalize mk (((headAt b k).drop 16).take 12) = s3 at *
          generalize mk (headAt b k) = HS at *
          clear hk6 hR hend hsh hHl
          cases ha : Lib.atoi t1 with
          | none =>
            have kA := Lib.hid (atoi_bad t1 W (by have := l1.out; omega) ha (kerr.out _ kB.out))
            have kp := Lib.hid (show readP b = none by
              rw [krd.out, krf.out, if_neg kend.out, kst.out, ksz.out, ha]; rfl)
            clear ha
            go_wp2_with (first | (go_at_call_of 46 (Value.string s1); refine (kT1.out _).mono ?_; rintro e w1 ⟨rfl, rfl⟩) | (go_at_call 45; refine kA.out.mono ?_; rintro e w1 ⟨N, rfl, hb1⟩; have kb1 := Lib.hid (kB.out.trans (hb1.mono kB.out.size)); clear hb1))
            go_step3
            exact ⟨Or.inl ⟨rfl, kp.out, kb1.out, _, _, _, _, _, _, _, _, _, _, _, _, _, _, Fr31.mk _ rfl rfl⟩, by unfold readMu; simp⟩
          | some n =>
            have kA := Lib.hid (atoi_ok t1 n W (by have := l1.out; omega) ha)
            have hbd := Go.Lib.atoi_bound ha (by have := l1.out; omega)
            have ksz2 := Lib.hid (show sizeAt b k = if n < 0 ∨ ((b.length - k - 60 : Nat) : Int) < n ∨ b.length - k - 60 < evenN n.toNat then none else some n.toNat by rw [ksz.out, ha])
            obtain ⟨Q, hQ⟩ : ∃ Q : Nat, Q = R - 60 := ⟨_, rfl⟩
            have e2 : IntKind.i64.wrap ((R : Int) - 60) = (Q : Int) := by have := ksh.out; rw [IntWalk.i64_in _ (by omega)]; omega
            have kQ := Lib.hid (show b.length - k - 60 = Q by rw [hQ, kke.out.2])
            have kQ2 := Lib.hid (show Q + 60 = R by have := ksh.out; omega)
            have z6 : Q ≤ 70000 := by omega
            clear ha hQ
            by_cases hn0 : n < 0
            · have kp := Lib.hid (show readP b = none by
                rw [krd.out, krf.out, if_neg kend.out, kst.out, ksz2.out, if_pos (Or.inl hn0)]; rfl)
              go_wp2_with (first | (go_at_call_of 46 (Value.string s1); refine (kT1.out _).mono ?_; rintro e w1 ⟨rfl, rfl⟩) | (go_at_call 45; refine kA.out.mono ?_; rintro e w1 ⟨rfl, hb1⟩; have kb1 := Lib.hid (kB.out.trans (hb1.mono kB.out.size)); clear hb1))
              go_step3
              exact ⟨Or.inl ⟨rfl, kp.out, kb1.out, _, _, _, _, _, _, _, _, _, _, _, _, _, _, Fr31.mk _ rfl rfl⟩, by unfold readMu; simp⟩
            · obtain ⟨N, rfl⟩ : ∃ N : Nat, n = (N : Int) := ⟨n.toNat, by omega⟩
              rw [Int.toNat_natCast, kQ.out] at ksz2
              by_cases hn1 : Q < N
              · have y2 : (Q : Int) < (N : Int) := by omega
                have kp := Lib.hid (show readP b = none by
                  rw [krd.out, krf.out, if_neg kend.out, kst.out, ksz2.out, if_pos (Or.inr (Or.inl y2))]; rfl)
                go_wp2_with (first | (go_at_call_of 46 (Value.string s1); refine (kT1.out _).mono ?_; rintro e w1 ⟨rfl, rfl⟩) | (go_at_call 45; refine kA.out.mono ?_; rintro e w1 ⟨rfl, hb1⟩; have kb1 := Lib.hid (kB.out.trans (hb1.mono kB.out.size)); clear hb1))
                go_step3
                exact ⟨Or.inl ⟨rfl, kp.out, kb1.out, _, _, _, _, _, _, _, _, _, _, _, _, _, _, Fr31.mk _ rfl rfl⟩, by unfold readMu; simp⟩
              · have y2 : ¬ (Q : Int) < (N : Int) := by omega
                have kev := Lib.hid (fun (W : World) => even_calls N W (by omega))
                obtain ⟨E, hE⟩ : ∃ E : Nat, E = evenN N := ⟨_, rfl⟩
                rw [← hE] at kev ksz2
                by_cases hn2 : Q < E
                · have y3 : (Q : Int) < (E : Int) := by omega
                  have kp := Lib.hid (show readP b = none by
                    rw [krd.out, krf.out, if_neg kend.out, kst.out, ksz2.out, if_pos (Or.inr (Or.inr hn2))]; rfl)
                  clear hE
                  go_wp2_with (first | (go_at_call_of 46 (Value.string s1); refine (kT1.out _).mono ?_; rintro e w1 ⟨rfl, rfl⟩) | (go_at_call 38; refine (kev.out _).mono ?_; rintro e w1' ⟨rfl, rfl⟩) | (go_at_call 45; refine kA.out.mono ?_; rintro e w1 ⟨rfl, hb1⟩; have kb1 := Lib.hid (kB.out.trans (hb1.mono kB.out.size)); clear hb1))
                  go_step3
                  exact ⟨Or.inl ⟨rfl, kp.out, kb1.out, _, _, _, _, _, _, _, _, _, _, _, _, _, _, Fr31.mk _ rfl rfl⟩, by unfold readMu; simp⟩
                · have y3 : ¬ (Q : Int) < (E : Int) := by omega
                  have kszn := Lib.hid (show sizeAt b k = some N by rw [ksz2.out, if_neg (by omega)])
                  have kE := Lib.hid hE
                  clear hE
                  go_upto_region 15 with (first | (go_at_call_of 46 (Value.string s1); refine (kT1.out _).mono ?_; rintro e w1 ⟨rfl, rfl⟩) | (go_at_call 38; refine (kev.out _).mono ?_; rintro e w1' ⟨rfl, rfl⟩) | (go_at_call 45; refine kA.out.mono ?_; rintro e w1 ⟨rfl, hb1⟩; have kb1 := Lib.hid hb1; clear hb1))
                  have kB1 := Lib.hid (kB.out.trans (kb1.out.mono kB.out.size))
                  have hg1 := Nat.lt_of_lt_of_le hgl kb1.out.size
                  have kbw1 := Lib.hid (kb.out _ kB1.out)
                  obtain ⟨kn, hkn⟩ : ∃ kn : Nat, kn = k6 + N := ⟨_, rfl⟩
                  have e3 : IntKind.i64.wrap ((k6 : Int) + (N : Int)) = (kn : Int) := by rw [IntWalk.i64_in _ (by omega)]; omega
                  have z7 : kn ≤ b.length := by have h1 := kke.out; have h2 := kQ2.out; omega
                  have z8 : k6 ≤ kn := by omega
                  have kD := Lib.hid (sub_bytes kbw1.out k6 kn z8 z7 hb0)
                  have kDd := Lib.hid (show (b.drop k6).take (kn - k6) = (b.drop (k + 60)).take N by rw [hkn, kke.out.1]; congr 1; omega)
                  have kkn := Lib.hid hkn
                  clear hkn
                  go_cut [13] from 71 to 82 (fun dv wx => BytesAt wx dv ((b.drop (k + 60)).take N) S ∧ wx = w1)
                  case first =>
                    by_cases hz : kn = k6
                    · have hN0 := Lib.hid (show (b.drop (k + 60)).take N = [] by have := kkn.out; rw [show N = 0 by omega]; rfl)
                      subst hz
                      go_wp2_with fail
                      go_meet
                      case rel => rw [hN0.out]; exact ⟨by simpa using bytes_zero _ _ _, rfl⟩
                    · have h1 := kD.out
                      rw [kDd.out] at h1
                      have kD2 := Lib.hid h1
                      clear h1
                      go_wp2_with fail
                      go_meet
                      case rel => exact ⟨kD2.out, rfl⟩
                  case rest =>
                    obtain ⟨hdv, rfl⟩ := hcut
                    generalize hdat : (b.drop (k + 60)).take N = data at *
                    have hdl : data.length ≤ 70000 := by rw [← hdat, List.length_take]; omega
                    have kdat := Lib.hid hdat
                    have kdv := Lib.hid hdv
                    have hcvd := bytes_str hdv
                    obtain ⟨q, hq⟩ : ∃ q : Nat, q = 60 + E := ⟨_, rfl⟩
                    obtain ⟨k9, hk9⟩ : ∃ k9 : Nat, k9 = k + q := ⟨_, rfl⟩
                    have e5 : IntKind.i64.wrap (60 + (E : Int)) = (q : Int) := by rw [IntWalk.i64_in _ (by omega)]; omega
                    have e6 : IntKind.i64.wrap ((k : Int) + (q : Int)) = (k9 : Int) := by rw [IntWalk.i64_in _ (by omega)]; omega
                    have z9 : k9 ≤ b.length := by have h1 := kke.out; have h2 := kQ2.out; omega
                    have z10 : k + 60 ≤ k9 := by omega
                    have kk9 := Lib.hid (show k + (60 + evenN N) = k9 by rw [← kE.out]; omega)
                    have mu_lt : ∀ a : Act, a.tmps.getD 5 undef = .int .i64 k9 → ∀ a' : Act, a'.tmps.getD 5 undef = .int .i64 k → readMu b 1 a < readMu b 1 a' := by
                      intro a h a' h'
                      unfold readMu
                      rw [if_neg (by decide), if_neg (by decide), h, h']
                      simp only [intOf, Int.toNat_natCast]
                      omega
                    have kmu := Lib.hid mu_lt
                    clear hdv hdat hq hk9 mu_lt
                    by_cases hnm : t2 = [47, 47]
                    · have f1 : ((mk t2).toList == [47, 47]) = true := by rw [Go.Lib.toList_data, mk_list, hnm]; rfl
                      have kp9 := Lib.hid (show readP b = (readFrom b f k9 data).map (L.map NV.m ++ ·) by
                        rw [krd.out, krf.out, if_neg kend.out, kst.out, kszn.out]
                        dsimp only
                        rw [kfd.out, if_pos hnm, kdat.out, kk9.out])
                      clear hnm
                      go_wp2_with (first | (go_at_call_of 46 (Value.string s2); refine (kT2.out _).mono ?_; rintro e w1' ⟨rfl, rfl⟩) | (go_at_call 38; refine (kev.out _).mono ?_; rintro e w1' ⟨rfl, rfl⟩))
                      go_step3
                      exact ⟨Or.inr ⟨rfl, kB1.out, k9, f, data, L, _, _, _, _, _, _, _, _, _, _, _, Fr31.mk _ rfl rfl, z9, by omega, hdl, by omega, kL.out.keepb kb1.out.block kb1.out.size, kp9.out⟩, kmu.out _ rfl _ rfl⟩
                    · have f1 : ((mk t2).toList == [47, 47]) = false := by rw [Go.Lib.toList_data, mk_list]; exact beq_eq_false_iff_ne.2 hnm
                      have kne := Lib.hid hnm
                      clear hnm
                      have kL1 := Lib.hid (kL.out.keepb kb1.out.block kb1.out.size)
                      cases hd : Lib.atoi t3 with
                      | none =>
                        have kA3 := Lib.hid (atoi_bad t3 wc (by have := l3.out; omega) hd (kerr.out _ kB1.out))
                        have kp := Lib.hid (show readP b = none by
                          rw [krd.out, krf.out, if_neg kend.out, kst.out, kszn.out]
                          dsimp only
                          rw [kfd.out, if_neg kne.out, kdt.out, hd]; rfl)
                        clear hd
                        go_wp2_with (first | (go_at_call_of 46 (Value.string s2); refine (kT2.out _).mono ?_; rintro e w1' ⟨rfl, rfl⟩) | (go_at_call_of 46 (Value.string s3); refine (kT3.out _).mono ?_; rintro e w1' ⟨rfl, rfl⟩) | (go_at_call 45; refine kA3.out.mono ?_; rintro e w6 ⟨N6, rfl, hb6⟩; have kB6 := Lib.hid (kB1.out.trans (hb6.mono kB1.out.size)); clear hb6))
                        go_step3
                        exact ⟨Or.inl ⟨rfl, kp.out, kB6.out, _, _, _, _, _, _, _, _, _, _, _, _, _, _, Fr31.mk _ rfl rfl⟩, by unfold readMu; simp⟩
                      | some d =>
                        have kA3 := Lib.hid (atoi_ok t3 d wc (by have := l3.out; omega) hd)
                        have kdt2 := Lib.hid (show dateAt b k = some d by rw [kdt.out, hd])
                        clear hd
                        go_upto_region 22 with (first | (go_at_call_of 46 (Value.string s2); refine (kT2.out _).mono ?_; rintro e w1' ⟨rfl, rfl⟩) | (go_at_call_of 46 (Value.string s3); refine (kT3.out _).mono ?_; rintro e w1' ⟨rfl, rfl⟩) | (go_at_call 45; refine kA3.out.mono ?_; rintro e w5 ⟨rfl, hb5⟩; have kb15 := Lib.hid hb5; clear hb5))
                        have kPx := Lib.hid (fun (W : World) => prefix_calls t2 W)
                        have kB5 := Lib.hid (kB1.out.trans (kb15.out.mono kB1.out.size))
                        have hm2 := mk_size t2
                        have hl2 := l2.out
                        cases hpx : Lib.hasPrefix t2 [47] with
                        | false =>
                          rw [hpx] at kPx
                          have klong := Lib.hid (show longAt t2 names = some t2 by unfold longAt; rw [if_neg (by rw [hpx]; simp)])
                          clear hpx
                          go_upto_region 26 with (go_at_call 47; refine (kPx.out _).mono ?_; rintro e w1' ⟨rfl, rfl⟩)
                          have kb16 := Lib.hid kb15.out
                          have knl := Lib.hid (show t2.length ≤ 70000 by omega)
                          clear hm2 hl2
                          generalize hnm : t2 = nm at *
                          have knm := Lib.hid hnm
                          clear hnm
                          have kS := Lib.hid (fun (W : World) => suffix_calls nm W (by have := knl.out; omega))
                          generalize hnm' : Lib.trimSuffix nm [47] = nm' at *
                          have kp9 := Lib.hid (show readP b = (readFrom b f k9 names).map (L.map NV.m ++ [(⟨nm', d, data⟩ : Mem)] ++ ·) by
                            rw [krd.out, krf.out, if_neg kend.out, kst.out, kszn.out]
                            dsimp only
                            rw [kfd.out, if_neg kne.out, kdt2.out]
                            dsimp only
                            rw [klong.out]
                            dsimp only
                            rw [hnm', kdat.out, kk9.out]
                            cases readFrom b f k9 names with
                            | none => rfl
                            | some r => simp)
                          go_upto_region 27 with (go_at_call 49; refine (kS.out _).mono ?_; rintro e w7 ⟨rfl, rfl⟩)
                          have kd6 := Lib.hid (kdv.out.of_heap (w' := w5) (S' := S) (fun j hj => kb16.out.block j (Nat.lt_of_lt_of_le (hS j hj) kB1.out.size)) (fun _ h => h))
                          have kL6 := Lib.hid (kL1.out.keepb kb16.out.block kb16.out.size)
                          have kB6 := Lib.hid (kB1.out.trans (kb16.out.mono kB1.out.size))
                          have hB6 := kB6.out.size
                          have kph := Lib.hid True.intro
                          go_upto_region 28 with (first
                            | (at_builtin; have tok := kph.out; clear kph tok; refine wpList_append_byt _ rfl _ _ rfl w5.heap.size (.slice none 0 0) [] rfl (World.ownsRow_nil _ _ _ _) _ data S rfl kd6.out (by simp; omega) (Nat.le_refl _) ?_; intro a8 n8 c8 w8 hn8 ho8 hg8 _; rw [List.nil_append] at hn8 ho8; have kf8 := Lib.hid (own_more (m := ⟨nm', d, data⟩) (w := w) (show Below w5.heap.size w5 w8 from ⟨hg8.os, hg8.tape, hg8.output, hg8.size, fun j hj => hg8.block j hj (by simp [Value.ownBlock])⟩) ho8 kL6.out hB6); clear ho8 hg8)
                            | (at_builtin; refine wpList_append_mem _ rfl _ _ rfl w.heap.size v4 L rfl kf8.out.1 (NV.make ⟨nm', d, data⟩ (.slice a8 n8 c8)) ⟨w8.heap.size, 0, none⟩ 1 rfl kf8.out.2.1 kf8.out.2.2.1 (by omega) (Nat.le_trans hB6 kf8.out.2.2.2.size) ?_; intro a9 c9 w9 h9 hg9 _; have k9m := Lib.hid h9; have kB9 := Lib.hid ((kB6.out.trans (kf8.out.2.2.2.mono hB6)).trans (mems_grown kf8.out.1 hg9 (Nat.le_trans hB6 kf8.out.2.2.2.size))); clear h9 hg9))
                          go_wp2_with (go_at_call 38; refine (kev.out _).mono ?_; rintro e w10 ⟨rfl, rfl⟩)
                          go_step3
                          exact ⟨Or.inr ⟨rfl, kB9.out, k9, f, names, L ++ [NV.make ⟨nm', d, data⟩ (.slice a8 n8 c8)], _, _, _, _, _, _, _, _, _, _, _, Fr31.mk _ rfl rfl, by omega, by omega, hnl, by rw [List.length_append, List.length_singleton]; omega, k9m.out, by rw [kp9.out, List.map_append]; rfl⟩, kmu.out _ rfl _ rfl⟩
                        | true =>
                          rw [hpx] at kPx
                          have hl1 := prefix_one hpx
                          have hx4 : (mk t2).extract 1 t2.length = mk (t2.drop 1) := by rw [ext_mk, List.take_of_length_le (by rw [List.length_drop]; omega)]
                          have klo := Lib.hid (show longAt t2 names = match Lib.atoi (t2.drop 1) with
                            | none => none
                            | some k => if k < 0 ∨ (names.length : Int) < k then none else some (Lib.cut (names.drop k.toNat) [10]).1 by unfold longAt; rw [if_pos hpx]; rfl)
                          have hld : (t2.drop 1).length ≤ 16 := by rw [List.length_drop]; omega
                          clear hpx
                          generalize t2.drop 1 = t4 at *
                          cases hq : Lib.atoi t4 with
                          | none =>
                            have kA4 := Lib.hid (atoi_bad t4 w5 (by omega) hq (kerr.out _ kB5.out))
                            have kp := Lib.hid (show readP b = none by
                              rw [krd.out, krf.out, if_neg kend.out, kst.out, kszn.out]
                              dsimp only
                              rw [kfd.out, if_neg kne.out, kdt2.out]
                              dsimp only
                              rw [klo.out, hq]; rfl)
                            clear hq
                            generalize mk t4 = s4 at *
                            go_wp2_with (first | (go_at_call 47; refine (kPx.out _).mono ?_; rintro e w1' ⟨rfl, rfl⟩) | (go_at_call 45; refine kA4.out.mono ?_; rintro e w6 ⟨N6, rfl, hb6⟩; have kB6 := Lib.hid (kB5.out.trans (hb6.mono kB5.out.size)); clear hb6))
                            go_step3
                            exact ⟨Or.inl ⟨rfl, kp.out, kB6.out, _, _, _, _, _, _, _, _, _, _, _, _, _, _, Fr31.mk _ rfl rfl⟩, by unfold readMu; simp⟩
                          | some qi =>
                            have kA4 := Lib.hid (atoi_ok t4 qi w5 (by omega) hq)
                            have klo2 := Lib.hid (show longAt t2 names = if qi < 0 ∨ (names.length : Int) < qi then none else some (Lib.cut (names.drop qi.toNat) [10]).1 by rw [klo.out, hq])
                            have hmn := mk_size names
                            clear hq
                            generalize mk t4 = s4 at *
                            by_cases hq0 : qi < 0 ∨ (names.length : Int) < qi
                            · have kp := Lib.hid (show readP b = none by
                                rw [krd.out, krf.out, if_neg kend.out, kst.out, kszn.out]
                                dsimp only
                                rw [kfd.out, if_neg kne.out, kdt2.out]
                                dsimp only
                                rw [klo2.out, if_pos hq0]; rfl)
                              by_cases hq1 : qi < 0
                              · clear hq0
                                go_wp2_with (first | (go_at_call 47; refine (kPx.out _).mono ?_; rintro e w1' ⟨rfl, rfl⟩) | (go_at_call 45; refine kA4.out.mono ?_; rintro e w6 ⟨rfl, hb6⟩; have kB6 := Lib.hid (kB5.out.trans (hb6.mono kB5.out.size)); clear hb6))
                                go_step3
                                exact ⟨Or.inl ⟨rfl, kp.out, kB6.out, _, _, _, _, _, _, _, _, _, _, _, _, _, _, Fr31.mk _ rfl rfl⟩, by unfold readMu; simp⟩
                              · have hq2 : (names.length : Int) < qi := by omega
                                clear hq0
                                go_wp2_with (first | (go_at_call 47; refine (kPx.out _).mono ?_; rintro e w1' ⟨rfl, rfl⟩) | (go_at_call 45; refine kA4.out.mono ?_; rintro e w6 ⟨rfl, hb6⟩; have kB6 := Lib.hid (kB5.out.trans (hb6.mono kB5.out.size)); clear hb6))
                                go_step3
                                exact ⟨Or.inl ⟨rfl, kp.out, kB6.out, _, _, _, _, _, _, _, _, _, _, _, _, _, _, Fr31.mk _ rfl rfl⟩, by unfold readMu; simp⟩
                            · obtain ⟨qn, rfl⟩ : ∃ qn : Nat, qi = (qn : Int) := ⟨qi.toNat, by omega⟩
                              have klong := Lib.hid (show longAt t2 names = some (Lib.cut (names.drop qn) [10]).1 by rw [klo2.out, if_neg hq0, Int.toNat_natCast])
                              have hq1 : ¬ ((qn : Int) < 0) := by omega
                              have hq2 : ¬ (names.length : Int) < (qn : Int) := by omega
                              have hq3 : qn ≤ names.length := by omega
                              have hx5 : (mk names).extract qn names.length = mk (names.drop qn) := by rw [ext_mk, List.take_of_length_le (by rw [List.length_drop]; omega)]
                              have kCu := Lib.hid (fun (W : World) => cut_calls (names.drop qn) W (by rw [List.length_drop]; omega))
                              have knl := Lib.hid (show (Lib.cut (names.drop qn) [10]).1.length ≤ 70000 from Nat.le_trans (cut_len _) (by rw [List.length_drop]; omega))
                              clear hq0
                              generalize (Lib.cut (names.drop qn) [10]).1 = nm at *
                              generalize mk (names.drop qn) = s5 at *
                              go_upto_region 26 with (first | (go_at_call 47; refine (kPx.out _).mono ?_; rintro e w1' ⟨rfl, rfl⟩) | (go_at_call 45; refine kA4.out.mono ?_; rintro e w6 ⟨rfl, hb6⟩; have kb16' := Lib.hid (kb15.out.trans (hb6.mono kb15.out.size)); clear hb6) | (go_at_call 48; refine (kCu.out _).mono ?_; rintro e w6 ⟨xc, yc, rfl, hb6⟩; have kb16 := Lib.hid (kb16'.out.trans (hb6.mono kb16'.out.size)); clear hb6))
                              have kS := Lib.hid (fun (W : World) => suffix_calls nm W (by have := knl.out; omega))
                              generalize hnm' : Lib.trimSuffix nm [47] = nm' at *
                              have kp9 := Lib.hid (show readP b = (readFrom b f k9 names).map (L.map NV.m ++ [(⟨nm', d, data⟩ : Mem)] ++ ·) by
                                rw [krd.out, krf.out, if_neg kend.out, kst.out, kszn.out]
                                dsimp only
                                rw [kfd.out, if_neg kne.out, kdt2.out]
                                dsimp only
                                rw [klong.out]
                                dsimp only
                                rw [hnm', kdat.out, kk9.out]
                                cases readFrom b f k9 names with
                                | none => rfl
                                | some r => simp)
                              go_upto_region 27 with (go_at_call 49; refine (kS.out _).mono ?_; rintro e w7 ⟨rfl, rfl⟩)
                              have kd6 := Lib.hid (kdv.out.of_heap (w' := w6) (S' := S) (fun j hj => kb16.out.block j (Nat.lt_of_lt_of_le (hS j hj) kB1.out.size)) (fun _ h => h))
                              have kL6 := Lib.hid (kL1.out.keepb kb16.out.block kb16.out.size)
                              have kB6 := Lib.hid (kB1.out.trans (kb16.out.mono kB1.out.size))
                              have hB6 := kB6.out.size
                              have kph := Lib.hid True.intro
                              go_upto_region 28 with (first
                                | (at_builtin; have tok := kph.out; clear kph tok; refine wpList_append_byt _ rfl _ _ rfl w6.heap.size (.slice none 0 0) [] rfl (World.ownsRow_nil _ _ _ _) _ data S rfl kd6.out (by simp; omega) (Nat.le_refl _) ?_; intro a8 n8 c8 w8 hn8 ho8 hg8 _; rw [List.nil_append] at hn8 ho8; have kf8 := Lib.hid (own_more (m := ⟨nm', d, data⟩) (w := w) (show Below w6.heap.size w6 w8 from ⟨hg8.os, hg8.tape, hg8.output, hg8.size, fun j hj => hg8.block j hj (by simp [Value.ownBlock])⟩) ho8 kL6.out hB6); clear ho8 hg8)
                                | (at_builtin; refine wpList_append_mem _ rfl _ _ rfl w.heap.size v4 L rfl kf8.out.1 (NV.make ⟨nm', d, data⟩ (.slice a8 n8 c8)) ⟨w8.heap.size, 0, none⟩ 1 rfl kf8.out.2.1 kf8.out.2.2.1 (by omega) (Nat.le_trans hB6 kf8.out.2.2.2.size) ?_; intro a9 c9 w9 h9 hg9 _; have k9m := Lib.hid h9; have kB9 := Lib.hid ((kB6.out.trans (kf8.out.2.2.2.mono hB6)).trans (mems_grown kf8.out.1 hg9 (Nat.le_trans hB6 kf8.out.2.2.2.size))); clear h9 hg9))
                              go_wp2_with (go_at_call 38; refine (kev.out _).mono ?_; rintro e w10 ⟨rfl, rfl⟩)
                              go_step3
                              exact ⟨Or.inr ⟨rfl, kB9.out, k9, f, names, L ++ [NV.make ⟨nm', d, data⟩ (.slice a8 n8 c8)], _, _, _, _, _, _, _, _, _, _, _, Fr31.mk _ rfl rfl, by omega, by omega, hnl, by rw [List.length_append, List.length_singleton]; omega, k9m.out, by rw [kp9.out, List.map_append]; rfl⟩, kmu.out _ rfl _ rfl⟩
end Go.Proofs.YtnjagoglabllaaaGreatDoor
