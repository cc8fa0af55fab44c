/-
  Arch, the reference's archive. Conditions: names of at most 2^47 bytes, data of at most 2^40, at most 2^42 members.
-/
import Derived.Test.YtnjagoglabllaaaGreatDoorArRef
import Derived.Test.YtnjagoglabllaaaGreatDoorArWrite
namespace Go.Proofs.YtnjagoglabllaaaGreatDoor
open Go.RowKit

theorem arch_big (l : List Mem) (k n0 t0 : Nat) (hn : n0 = 8 + sumN (l.take k)) (ht : t0 = (tableB (l.take k)).length) (h : 65536 < n0 + t0) : archP l = ([], 2) := by
  have := size_take l k
  unfold archP
  rw [if_pos (Or.inr (by omega))]
theorem wp_append_str {o : Oper} {a : Act} {w : World} {K : Act → World → Prop} {Q : Exit → Act → World → Prop} (s x : Operand) (ho : o.op = .call { callee := .builtin .append, args := #[s, x], argTypes := #[26, 9] })
    (B : Nat) (v : Value) (xs : Bs) (hs : a.eval s = v) (hown : RowX w B v xs) (ys : Bs) (hx : a.eval x = .string (mk ys)) (hy : 0 < ys.length) (hlen : xs.length + ys.length ≤ 70368744177664) (hB : B ≤ w.heap.size)
    (h : ∀ g m' c' w', Hid (m' = (xs ++ ys).length) → w'.ownsRow B 5 1 (.slice (some ⟨g, 0, none⟩) m' c') (xs ++ ys).length (ucells (xs ++ ys)) → w.grownBy w' v.ownBlock → K (a.put o.dst (.slice (some ⟨g, 0, none⟩) m' c')) w') : o.wp Tryz.prog a w K Q := by
  obtain ⟨g, c', w', hr, h2, h3, h4⟩ := run_append_rowx w B v xs hown ys o.type hy hlen hB
  unfold Oper.wp execOp
  simp only [ho, resolve, invoke, builtin, Sem.run_bind, Sem.run_pure, Result.andThen_ok, List.map_toArray, List.map_cons, List.map_nil, hs, hx, hr]
  exact h g _ c' w' (Lib.hid rfl) h2 h3
/-- What holds while a member is written. -/
structure ArchH (w : World) (b o : Nat) (v1 v2 : Value) (W : World) : Prop where
  c1 : W.cell? ⟨b, o + 1, none⟩ = some v1
  c2 : W.cell? ⟨b, o + 2, none⟩ = some v2
  lt : b < W.heap.size
  low : b < w.heap.size
  below : Below w.heap.size w W
theorem ArchH.touch {w W W' : World} {b o : Nat} {v1 v2 : Value} (h : ArchH w b o v1 v2 W) (hb : Below w.heap.size W W') : ArchH w b o v1 v2 W' :=
  ⟨(World.cell?_of_block (a := ⟨b, o + 1, none⟩) (hb.block b h.low)).trans h.c1, (World.cell?_of_block (a := ⟨b, o + 2, none⟩) (hb.block b h.low)).trans h.c2, Nat.lt_of_lt_of_le h.lt hb.size, h.low, h.below.trans hb⟩
theorem own_grownX {w w' : World} {B : Nat} {v : Value} {xs : Bs} (h : RowX w B v xs) (hg : w.grownBy w' v.ownBlock) (hB : B ≤ w.heap.size) : Below B w w' := by
  exact ⟨hg.os, hg.tape, hg.output, hg.size, fun k hk => hg.block k (by omega) (fun e => by have := (h.own e.symm).1; omega)⟩
section
variable {l : List Mem} {nv : Value} {T : Nat → Prop} {w : World}
set_option maxRecDepth 100000 in
set_option maxHeartbeats 4000000 in
theorem refArch_calls (ht : MemsAt w nv l T) (hT : ∀ k, T k → k < w.heap.size) (hp : ∀ x ∈ l, x.name.length ≤ 140737488355328 ∧ x.data.length ≤ 1099511627776 ∧ -9223372036854775808 ≤ x.date ∧ x.date ≤ 9223372036854775807) (hl : l.length ≤ 4398046511104) :
    Calls Tryz.prog 13 #[nv] w fun e w' => ∃ v, e = .returned (.tuple #[v, .int .i64 (archP l).2]) ∧ OutX w' w.heap.size v (archP l).1 ∧ Below w.heap.size w w' := by
  obtain ⟨ta, tc, hnv⟩ := ht.form
  subst hnv
  have kt := Lib.hid ht
  have kT := Lib.hid hT
  have kp := Lib.hid hp
  clear ht hT hp
  go_enter Tryz.func13, Tryz.ntmps13
  by_cases h5 : 5000 < l.length
  · have y1 : (5000 : Int) < (l.length : Int) := by omega
    have ha : archP l = ([], 2) := by unfold archP; rw [if_pos (Or.inl h5)]
    rw [ha]
    go_wp2_with fail
    go_ret2
    exact ⟨_, rfl, Or.inl ⟨rfl, rfl⟩, Below.refl _ _⟩
  · have y1 : ¬ (5000 : Int) < (l.length : Int) := by omega
    have k5 := Lib.hid h5
    clear h5
    go_wp2_with fail
    go_loopw [4, 5, 6] (fun tv nv2 iv wr => ∃ k n0 t0 : Nat, k ≤ l.length ∧ iv = .int .i64 k ∧ tv = .string (mk (tableB (l.take k))) ∧ nv2 = .int .i64 n0 ∧ n0 = 8 + sumN (l.take k) ∧ t0 = (tableB (l.take k)).length ∧ n0 + t0 ≤ 655360 ∧ Below w.heap.size w wr) (fun _ _ iv _ => l.length - (intOf iv).toNat)
    case atStart => exact ⟨0, 8, 0, Nat.zero_le _, rfl, rfl, rfl, by simp [sumN], by simp [tableB], by omega, Below.refl _ _⟩
    case round =>
      obtain ⟨k, n0, t0, hk, rfl, rfl, rfl, hn0, ht0, htot, hB⟩ := hrel
      have kB := Lib.hid hB
      have kn0 := Lib.hid hn0
      have kt0 := Lib.hid ht0
      have hts : (mk (tableB (l.take k))).size = t0 := by rw [mk_size, ht0]
      clear hB hn0 ht0
      by_cases hlt : k < l.length
      · obtain ⟨x, hx⟩ : ∃ x, l[k]? = some x := ⟨_, List.getElem?_eq_getElem hlt⟩
        have kx := Lib.hid hx
        obtain ⟨b, off, dv, hta, hTb, hbl, hc0, hc1, hc2, hdv⟩ := (kt.out.of_heap (w' := wr) (T' := T) (fun j hj => kB.out.block j (kT.out j hj)) (fun _ h => h)).at hx
        obtain ⟨da, dc, hdf⟩ := hdv.form
        subst hta hdf
        have hpx := kp.out x (List.mem_of_getElem? hx)
        have hms : (mk x.name).size = x.name.length := mk_size x.name
        have h1 := table_take hx
        have h2 := sum_take hx
        have hmore := table_more hx
        clear hTb hdv hx
        have y2 : (k : Int) < (l.length : Int) := by omega
        obtain ⟨r, hr⟩ : ∃ r : Nat, r = x.data.length % 2 := ⟨_, rfl⟩
        obtain ⟨n1, hn1⟩ : ∃ n1 : Nat, n1 = n0 + 60 := ⟨_, rfl⟩
        obtain ⟨n2, hn2⟩ : ∃ n2 : Nat, n2 = n1 + x.data.length := ⟨_, rfl⟩
        obtain ⟨n3, hn3⟩ : ∃ n3 : Nat, n3 = n2 + r := ⟨_, rfl⟩
        have e0 : (x.data.length : Int) % 2 = (r : Int) := by omega
        have e1 : IntKind.i64.wrap ((n0 : Int) + 60) = (n1 : Int) := by rw [IntWalk.i64_in _ (by omega)]; omega
        have e2 : IntKind.i64.wrap ((n1 : Int) + (x.data.length : Int)) = (n2 : Int) := by rw [IntWalk.i64_in _ (by omega)]; omega
        have e3 : IntKind.i64.wrap ((n2 : Int) + (r : Int)) = (n3 : Int) := by rw [IntWalk.i64_in _ (by omega)]; omega
        have kev := Lib.hid (show evenN x.data.length = x.data.length + r by unfold evenN; rw [hr])
        have kh := Lib.hid (And.intro h1 (And.intro h2 (And.intro hn1 (And.intro hn2 hn3))))
        have kmr := Lib.hid hmore
        have z1 : n3 ≤ 1099600000000 := by omega
        by_cases hnm : 15 < x.name.length
        · have y3 : (15 : Int) < (x.name.length : Int) := by omega
          obtain ⟨t1, ht1⟩ : ∃ t1 : Nat, t1 = t0 + x.name.length + 2 := ⟨_, rfl⟩
          obtain ⟨z, hz⟩ : ∃ z : Nat, z = n3 + t1 := ⟨_, rfl⟩
          have e5 : IntKind.i64.wrap ((n3 : Int) + (t1 : Int)) = (z : Int) := by rw [IntWalk.i64_in _ (by omega)]; omega
          have kstr := Lib.hid (show mk (tableB (l.take k)) ++ mk x.name ++ ⟨#[47, 10]⟩ = mk (tableB (l.take (k + 1))) by
            rw [show (⟨#[47, 10]⟩ : ByteArray) = mk [47, 10] from rfl, mk_append, mk_append, hmore, if_pos hnm, List.append_assoc])
          have hs1 : (mk (tableB (l.take k)) ++ mk x.name).size = t0 + x.name.length := by rw [ByteArray.size_append, hts, hms]
          have hs2 : (mk (tableB (l.take k)) ++ mk x.name ++ ⟨#[47, 10]⟩).size = t1 := by rw [ByteArray.size_append, hs1, ht1]; rfl
          have kz := Lib.hid (And.intro ht1 hz)
          clear h1 h2 hmore hr hn1 hn2 hn3 ht1 hz
          generalize mk (tableB (l.take k)) = TS at *
          generalize mk x.name = NS at *
          by_cases hbig : 655360 < z
          · have y4 : (655360 : Int) < (z : Int) := by omega
            go_wp2_with fail
            go_quiet (fail)
            go_wp2_with fail
            go_ret2
            obtain ⟨h1, h2, hn1, hn2, hn3⟩ := kh.out
            obtain ⟨ht1, hz⟩ := kz.out
            have hn := kn0.out
            have ht := kt0.out
            have hev := kev.out
            rw [if_pos hnm] at h1
            rw [arch_big l (k + 1) n3 t1 (by omega) (by omega) (by omega)]
            exact ⟨_, rfl, Or.inl ⟨rfl, rfl⟩, below_drewN' kB.out nq⟩
          · have y4 : ¬ (655360 : Int) < (z : Int) := by omega
            go_wp2_with fail
            go_quiet (fail)
            go_wp2_with fail
            obtain ⟨h1, h2, hn1, hn2, hn3⟩ := kh.out
            obtain ⟨ht1, hz⟩ := kz.out
            have hn := kn0.out
            have ht := kt0.out
            have hev := kev.out
            rw [if_pos hnm] at h1
            exact ⟨⟨k + 1, n3, t1, by omega, by go_num, congrArg Value.string kstr.out, rfl, by omega, by omega, by omega, below_drewN' kB.out nq⟩, by simp [intOf]; omega⟩
        · have y3 : ¬ (15 : Int) < (x.name.length : Int) := by omega
          obtain ⟨z, hz⟩ : ∃ z : Nat, z = n3 + t0 := ⟨_, rfl⟩
          have e5 : IntKind.i64.wrap ((n3 : Int) + (t0 : Int)) = (z : Int) := by rw [IntWalk.i64_in _ (by omega)]; omega
          have kstr := Lib.hid (show mk (tableB (l.take k)) = mk (tableB (l.take (k + 1))) by rw [hmore, if_neg hnm])
          have kz := Lib.hid hz
          clear h1 h2 hmore hr hn1 hn2 hn3 hz
          generalize mk (tableB (l.take k)) = TS at *
          generalize mk x.name = NS at *
          by_cases hbig : 655360 < z
          · have y4 : (655360 : Int) < (z : Int) := by omega
            go_wp2_with fail
            go_quiet (fail)
            go_wp2_with fail
            go_ret2
            obtain ⟨h1, h2, hn1, hn2, hn3⟩ := kh.out
            have hz := kz.out
            have hn := kn0.out
            have ht := kt0.out
            have hev := kev.out
            rw [if_neg hnm] at h1
            rw [arch_big l (k + 1) n3 t0 (by omega) (by omega) (by omega)]
            exact ⟨_, rfl, Or.inl ⟨rfl, rfl⟩, below_drewN' kB.out nq⟩
          · have y4 : ¬ (655360 : Int) < (z : Int) := by omega
            go_wp2_with fail
            go_quiet (fail)
            go_wp2_with fail
            obtain ⟨h1, h2, hn1, hn2, hn3⟩ := kh.out
            have hz := kz.out
            have hn := kn0.out
            have ht := kt0.out
            have hev := kev.out
            rw [if_neg hnm] at h1
            exact ⟨⟨k + 1, n3, t0, by omega, by go_num, congrArg Value.string kstr.out, rfl, by omega, by omega, by omega, below_drewN' kB.out nq⟩, by simp [intOf]; omega⟩
      · have hkl : k = l.length := by omega
        have y2 : ¬ (k : Int) < (l.length : Int) := by omega
        have hn := kn0.out
        have ht := kt0.out
        have hsz : sizeN l = n0 + (if 0 < t0 then 60 + evenN t0 else 0) := by
          unfold sizeN
          rw [hkl, List.take_length] at hn ht
          rw [← ht, hn]
        rw [hkl, List.take_length] at hts ht ⊢
        have ktl := Lib.hid ht
        have ksz := Lib.hid hsz
        clear hn ht hsz kn0 kt0
        clear hkl hlt hk
        go_upto_if 61 with (fail)
        go_cut [5] from 61 to 70 (fun sv wx => sv = .int .i64 (sizeN l : Nat) ∧ Below w.heap.size w wx)
        case first =>
          by_cases hz0 : 0 < t0
          · have hd : decide (0 < t0) = true := decide_eq_true (by omega)
            obtain ⟨n1, hn1⟩ : ∃ n1 : Nat, n1 = n0 + 60 := ⟨_, rfl⟩
            obtain ⟨n2, hn2⟩ : ∃ n2 : Nat, n2 = n1 + t0 := ⟨_, rfl⟩
            obtain ⟨r, hr⟩ : ∃ r : Nat, r = t0 % 2 := ⟨_, rfl⟩
            have e0 : (t0 : Int) % 2 = (r : Int) := by omega
            have e1 : IntKind.i64.wrap ((n0 : Int) + 60) = (n1 : Int) := by rw [IntWalk.i64_in _ (by omega)]; omega
            have e2 : IntKind.i64.wrap ((n1 : Int) + (t0 : Int)) = (n2 : Int) := by rw [IntWalk.i64_in _ (by omega)]; omega
            have e3 : IntKind.i64.wrap ((n2 : Int) + (r : Int)) = ((sizeN l : Nat) : Int) := by
              rw [IntWalk.i64_in _ (by omega), ksz.out, if_pos hz0]; unfold evenN; omega
            clear hn1 hn2 hr
            generalize sizeN l = sl at *
            simp only [hd]
            go_wp2_with fail
            go_meet
            case rel => exact ⟨rfl, kB.out⟩
          · have hd : decide (0 < t0) = false := decide_eq_false (by omega)
            have e3 : sizeN l = n0 := by rw [ksz.out, if_neg hz0]; omega
            simp only [hd]
            go_wp2_with fail
            go_meet
            case rel => exact ⟨by rw [e3], kB.out⟩
        case rest =>
          obtain ⟨rfl, hB1⟩ := hcut
          have kB1 := Lib.hid hB1
          clear hB1
          by_cases hbig : 65536 < sizeN l
          · have ha : archP l = ([], 2) := by unfold archP; rw [if_pos (Or.inr hbig)]
            have y3 : (65536 : Int) < ((sizeN l : Nat) : Int) := by omega
            go_wp2_with fail
            go_ret2
            exact ⟨_, rfl, Or.inl ⟨rfl, rfl⟩, kB1.out⟩
          · have y3 : ¬ (65536 : Int) < ((sizeN l : Nat) : Int) := by omega
            obtain ⟨hsm, htl⟩ := size_small hbig
            have khar := Lib.hid (show archP l = if l.all fairB = false then ([], 1) else (archB l, 0) by unfold archP; rw [if_neg (by have := k5.out; omega)])
            have kbig := Lib.hid hbig
            clear hbig
            go_wp2_with fail
            go_loopw [7, 8] (fun iv _ wr => ∃ k : Nat, k ≤ l.length ∧ iv = .int .i64 k ∧ (l.take k).all fairB = true ∧ Below w.heap.size w wr) (fun iv _ _ => l.length - (intOf iv).toNat)
            case atStart => exact ⟨0, Nat.zero_le _, rfl, by simp, kB1.out⟩
            case round =>
              obtain ⟨k, hk, rfl, hf, hB⟩ := hrel
              have kB := Lib.hid hB
              have kf := Lib.hid hf
              clear hB hf
              by_cases hlt : k < l.length
              · obtain ⟨x, hx⟩ : ∃ x, l[k]? = some x := ⟨_, List.getElem?_eq_getElem hlt⟩
                have kx := Lib.hid hx
                obtain ⟨b, off, dv, hta, hTb, hbl, hc0, hc1, hc2, hdv⟩ := (kt.out.of_heap (w' := wr) (T' := T) (fun j hj => kB.out.block j (kT.out j hj)) (fun _ h => h)).at hx
                subst hta
                have hsx := hsm x (List.mem_of_getElem? hx)
                have hFi := Lib.hid (fun w => fair_calls x dv w (by omega))
                have hfx : (l.take (k + 1)).all fairB = fairB x := by rw [take_more hx, List.all_append, kf.out]; simp
                have kfx := Lib.hid hfx
                have y2 : (k : Int) < (l.length : Int) := by omega
                clear hTb hdv hx hfx
                generalize hfb : fairB x = fb at *
                have kfb := Lib.hid hfb
                clear hfb
                cases fb with
                | true =>
                  go_wp2_with (go_at_call 28; refine (hFi.out _).mono ?_; rintro e w3 ⟨rfl, hb⟩; have kb3 := Lib.hid hb; clear hb)
                  exact ⟨⟨k + 1, by omega, by go_num, kfx.out, kB.out.trans (kb3.out.mono kB.out.size)⟩, by simp [intOf]; omega⟩
                | false =>
                  go_wp2_with (go_at_call 28; refine (hFi.out _).mono ?_; rintro e w3 ⟨rfl, hb⟩; have kb3 := Lib.hid hb; clear hb)
                  go_ret2
                  have hn : archP l = ([], 1) := by
                    rw [khar.out, if_pos]
                    rw [Bool.eq_false_iff]
                    intro h
                    rw [List.all_eq_true] at h
                    have := h x (List.mem_of_getElem? kx.out)
                    rw [kfb.out] at this; cases this
                  rw [hn]
                  exact ⟨_, rfl, Or.inl ⟨rfl, rfl⟩, kB.out.trans (kb3.out.mono kB.out.size)⟩
              · have hkl : k = l.length := by omega
                have y2 : ¬ (k : Int) < (l.length : Int) := by omega
                have hal : l.all fairB = true := by have := kf.out; rwa [hkl, List.take_length] at this
                have har : archP l = (archB l, 0) := by rw [khar.out, hal]; rfl
                have kal := Lib.hid hal
                have kar := Lib.hid har
                clear hkl har hal kf khar
                have hmc := magic_conv wr
                have kmr := Lib.hid (magic_row wr kB.out.size)
                have kmB := Lib.hid (kB.out.trans ((show Below wr.heap.size wr (magicW wr) from below_al (Below.refl _ _)).mono kB.out.size))
                have hz0 := kmB.out.size
                go_upto_if 90 with (fail)
                generalize magicW wr = w3 at *
                go_cut [9] from 90 to 105 (fun v9 wx => RowX wx w.heap.size v9 (magicB ++ headsB l) ∧ Below w.heap.size w wx)
                case first =>
                  by_cases hpos : 0 < t0
                  · have hd : decide (0 < t0) = true := decide_eq_true hpos
                    have kh0 := Lib.hid (show headsB l = headB [47, 47] [] [] [] t0 ++ evenB (tableB l) by unfold headsB; rw [← ktl.out, if_pos hpos])
                    have khd := Lib.hid (refhead_calls [47, 47] [] [] [] t0 w3 (by decide) (by decide) (by decide) (by decide) (by omega))
                    have khl := headB_len (name := [47, 47]) (date := []) (owner := []) (mode := []) (size := t0) (by decide) (by decide) (by decide) (by decide) (by omega)
                    generalize hH : headB [47, 47] [] [] [] t0 = H at *
                    have kH := Lib.hid hH
                    have hL := Lib.hid (show tableB l ≠ [] from fun e => by rw [e] at ktl; have := ktl.out; simp at this; omega)
                    generalize tableB l = L at *
                    clear hH
                    simp only [hd]
                    go_upto_region 26 with (first | (go_at_call 29; refine khd.out.mono ?_; rintro e w4 ⟨rfl, rfl⟩) | (at_builtin; refine wpList_append_str _ rfl _ _ rfl w.heap.size _ magicB rfl kmr.out H rfl (by omega) (by rw [khl]; decide) hz0 ?_; intro g4 n4 c4 w4 hn4 ho4 hg4 ha4; have ko4 := Lib.hid ho4; have kg4 := Lib.hid hg4; clear ho4 hg4 ha4))
                    have hB4 : w.heap.size ≤ w4.heap.size := Nat.le_trans hz0 kg4.out.size
                    have kB4 := Lib.hid (kmB.out.trans (own_grownX kmr.out kg4.out hz0))
                    have hp4 := magic_pos H
                    have hl4 : (magicB ++ H).length = 68 := by rw [List.length_append, khl]; rfl
                    generalize hX : magicB ++ H = X at *
                    have kX := Lib.hid hX
                    clear hX
                    go_upto_region 27 with (at_builtin; refine wpList_append_str _ rfl _ _ rfl w.heap.size _ X rfl ⟨hp4, Or.inl ko4.out⟩ L rfl (by have := ktl.out; omega) (by have := ktl.out; omega) hB4 ?_; intro g5 n5 c5 w5 hn5 ho5 hg5 ha5; have ko5 := Lib.hid ho5; have kg5 := Lib.hid hg5; clear ho5 hg5 ha5)
                    have hB5 : w.heap.size ≤ w5.heap.size := Nat.le_trans hB4 kg5.out.size
                    have kB5 := Lib.hid (kB4.out.trans (own_grown ko4.out kg5.out hB4))
                    have hl5 : (X ++ L).length = 68 + t0 := by have := ktl.out; rw [List.length_append]; omega
                    generalize hY : X ++ L = Y at *
                    have kY := Lib.hid hY
                    clear hY
                    by_cases hodd : t0 % 2 = 1
                    · have y3 : (t0 : Int) % 2 = 1 := by omega
                      have kev := Lib.hid (show evenB L = L ++ [10] by unfold evenB; rw [← ktl.out, if_pos hodd])
                      have kb7 := Lib.hid (below_al (o := .cells #[.int .u8 10] 5) (Below.refl w5.heap.size w5))
                      have ko7 := Lib.hid (own_below ko5.out kb7.out)
                      have kt7 := Lib.hid (byte_new w5 10)
                      have hB7 : w.heap.size ≤ (w5.alloc (.cells #[.int .u8 10] 5)).heap.size := Nat.le_trans hB5 kb7.out.size
                      go_wp2_with (at_builtin; refine wpList_append_byt _ rfl _ _ rfl w.heap.size _ Y rfl ko7.out _ [10] _ rfl kt7.out (by show Y.length + 1 ≤ _; omega) hB7 ?_; intro a8 n8 c8 w8 hn8 ho8 hg8 _; have ko8 := Lib.hid ho8; have kg8 := Lib.hid hg8; clear ho8 hg8)
                      go_meet
                      case rel =>
                        rw [kh0.out, kev.out, ← List.append_assoc, kX.out, ← List.append_assoc, kY.out]
                        exact ⟨⟨by rw [List.length_append]; simp, Or.inl ko8.out⟩, kB5.out.trans ((kb7.out.mono hB5).trans (own_grown ko7.out kg8.out hB7))⟩
                    · have y3 : ¬ (t0 : Int) % 2 = 1 := by omega
                      have kev := Lib.hid (show evenB L = L by unfold evenB; rw [← ktl.out, if_neg hodd])
                      go_wp2_with fail
                      go_meet
                      case rel =>
                        rw [kh0.out, kev.out, ← List.append_assoc, kX.out, kY.out]
                        exact ⟨⟨by omega, Or.inl ko5.out⟩, kB5.out⟩
                  · have hd : decide (0 < t0) = false := decide_eq_false hpos
                    have kh0 := Lib.hid (show headsB l = [] by unfold headsB; rw [← ktl.out, if_neg hpos])
                    simp only [hd]
                    go_wp2_with fail
                    go_meet
                    case rel => rw [kh0.out, List.append_nil]; exact ⟨kmr.out, kmB.out⟩
                case rest =>
                  obtain ⟨hr9, hB9⟩ := hcut
                  have kr9 := Lib.hid hr9
                  have kB9 := Lib.hid hB9
                  clear hr9 hB9
                  clear kmr kmB hz0 htot hts
                  go_wp2_with fail
                  go_loopw [9, 10, 11, 12] (fun v9 pv iv _ wr => ∃ k : Nat, k ≤ l.length ∧ iv = .int .i64 k ∧ pv = .int .i64 ((tableB (l.take k)).length : Nat) ∧ RowX wr w.heap.size v9 (magicB ++ headsB l ++ bodyB 0 (l.take k)) ∧ Below w.heap.size w wr) (fun _ _ iv _ _ => l.length - (intOf iv).toNat)
                  case atStart => exact ⟨0, Nat.zero_le _, rfl, rfl, by rw [List.take_zero, bodyB, List.append_nil]; exact kr9.out, kB9.out⟩
                  case round =>
                    rename_i v9 _ _ _
                    obtain ⟨k, hk, rfl, rfl, hro, hB⟩ := hrel
                    have kro := Lib.hid hro
                    have kB := Lib.hid hB
                    clear hro hB
                    by_cases hlt : k < l.length
                    · obtain ⟨x, hx⟩ : ∃ x, l[k]? = some x := ⟨_, List.getElem?_eq_getElem hlt⟩
                      have kx := Lib.hid hx
                      obtain ⟨b, off, dv, hta, hTb, hbl, hc0, hc1, hc2, hdv⟩ := (kt.out.of_heap (w' := wr) (T' := T) (fun j hj => kB.out.block j (kT.out j hj)) (fun _ h => h)).at hx
                      obtain ⟨da, dc, hdf⟩ := hdv.form
                      subst hta hdf
                      have hsx := hsm x (List.mem_of_getElem? hx)
                      have hms : (mk x.name).size = x.name.length := mk_size x.name
                      have hfx := fair_parts (List.all_eq_true.1 kal.out x (List.mem_of_getElem? hx))
                      have htm := table_more hx
                      have hbm := body_more hx
                      have ktk := Lib.hid (And.intro htm hbm)
                      have htl1 := table_pre l k
                      have htl2 := table_pre l (k + 1)
                      have y4 : (k : Int) < (l.length : Int) := by omega
                      obtain ⟨tn, htn⟩ : ∃ tn, tn = (tableB (l.take k)).length := ⟨_, rfl⟩
                      rw [← htn] at htl1 hbm
                      rw [← htn]
                      obtain ⟨dn, hdn⟩ : ∃ dn : Nat, x.date = (dn : Int) := ⟨x.date.toNat, by omega⟩
                      rw [hdn] at hc1 hfx
                      have kdn := Lib.hid hdn
                      have ktB := Lib.hid hTb
                      clear hTb hdv hx htm hbm hdn
                      go_upto_if 124 with (fail)
                      go_cut [10, 12] from 124 to 136 (fun av nm wx => av = .int .i64 ((tableB (l.take (k + 1))).length : Nat) ∧ nm = .string (mk (nameB tn x)) ∧ Below wr.heap.size wr wx)
                      case first =>
                        by_cases hnm : 15 < x.name.length
                        · have hd : decide ((15 : Int) < (x.name.length : Int)) = true := decide_eq_true (by omega)
                          obtain ⟨t1, ht1⟩ : ∃ t1 : Nat, t1 = tn + x.name.length := ⟨_, rfl⟩
                          obtain ⟨t2, ht2⟩ : ∃ t2 : Nat, t2 = t1 + 2 := ⟨_, rfl⟩
                          have e1 : IntKind.i64.wrap ((tn : Int) + (x.name.length : Int)) = (t1 : Int) := by rw [IntWalk.i64_in _ (by omega)]; omega
                          have e2 : IntKind.i64.wrap ((t1 : Int) + 2) = (t2 : Int) := by rw [IntWalk.i64_in _ (by omega)]; omega
                          have kdd := Lib.hid (fun w => dec_calls tn w (by omega))
                          have hds : (mk (Go.Lib.decDigits tn)).size ≤ 14 := by rw [mk_size]; exact dec13 (by omega)
                          have ka := Lib.hid (And.intro ht1 ht2)
                          have ktn := Lib.hid htn
                          have knm := Lib.hid hnm
                          clear ht1 ht2 htn hnm htl1 htl2
                          simp only [hd]
                          go_wp2_with (go_at_call 30; refine (kdd.out _).mono ?_; rintro e w4 ⟨rfl, rfl⟩)
                          go_meet
                          case rel =>
                            refine ⟨?_, ?_, Below.refl _ _⟩
                            · obtain ⟨h1, h2⟩ := ka.out
                              have h3 := ktk.out.1
                              rw [if_pos knm.out] at h3
                              rw [h3, List.length_append, List.length_append, ← ktn.out]
                              show Value.int .i64 (t2 : Int) = .int .i64 ((tn + x.name.length + 2 : Nat) : Int)
                              congr 1
                              omega
                            · have h4 : nameB tn x = 47 :: Go.Lib.decDigits tn := by unfold nameB longM; rw [if_pos (by simpa using knm.out)]
                              rw [h4, show (⟨#[47]⟩ : ByteArray) = mk [47] from rfl, mk_append]
                              rfl
                        · have hd : decide ((15 : Int) < (x.name.length : Int)) = false := decide_eq_false (by omega)
                          have ktn := Lib.hid htn
                          have knm := Lib.hid hnm
                          clear htn hnm htl1 htl2
                          simp only [hd]
                          go_wp2_with fail
                          go_meet
                          case rel =>
                            refine ⟨?_, ?_, Below.refl _ _⟩
                            · have h3 := ktk.out.1
                              rw [if_neg knm.out] at h3
                              rw [h3, ktn.out]
                            · have h4 : nameB tn x = x.name ++ [47] := by unfold nameB longM; rw [if_neg (by simpa using knm.out)]
                              rw [h4, show (⟨#[47]⟩ : ByteArray) = mk [47] from rfl, mk_append]
                      case rest =>
                        obtain ⟨rfl, rfl, hb⟩ := hcut
                        have kbc := Lib.hid (kB.out.trans (hb.mono kB.out.size))
                        have kH0 := Lib.hid (show ArchH w b (off + k * 3) (.int .i64 dn) (.slice da x.data.length dc) wc.drew from by
                          have h1 := (kbc.out.trans ((below_drew wc).mono kbc.out.size))
                          have h2 := kT.out b ktB.out
                          have h3 := hb.trans (below_drew wc |>.mono hb.size)
                          exact ⟨(World.cell?_of_block (a := ⟨b, off + k * 3 + 1, none⟩) (h3.block b hbl)).trans hc1, (World.cell?_of_block (a := ⟨b, off + k * 3 + 2, none⟩) (h3.block b hbl)).trans hc2, Nat.lt_of_lt_of_le h2 h1.size, h2, h1⟩)
                        have kr0 := Lib.hid ((kro.out.below hb).below (below_drew wc))
                        have hB0 := kH0.out.below.size
                        have kdc := Lib.hid (fun w => dec_calls dn w (by omega))
                        have khd := Lib.hid (fun w => refhead_calls (nameB tn x) (Go.Lib.decDigits dn) [48] [49, 48, 48, 54, 52, 52] x.data.length w (by have := name_len tn x (by omega); omega) (by have := dec13 (n := dn) (by omega); omega) (by decide) (by decide) (by omega))
                        have khl := headB_len (name := nameB tn x) (date := Go.Lib.decDigits dn) (owner := [48]) (mode := [49, 48, 48, 54, 52, 52]) (size := x.data.length) (name_len tn x (by omega)) (dec12 (by omega)) (by decide) (by decide) (by omega)
                        have kone := Lib.hid (show oneB tn x = headB (nameB tn x) (Go.Lib.decDigits dn) [48] [49, 48, 48, 54, 52, 52] x.data.length ++ evenB x.data by
                          unfold oneB dateB; rw [kdn.out, itoa_nat])
                        have hXl : (magicB ++ headsB l ++ bodyB 0 (l.take k)).length ≤ 65536 := by
                          have h1 := pre_len l k
                          have h2 := arch_len kal.out kbig.out
                          have h3 := kbig.out
                          omega
                        have ktn := Lib.hid htn
                        generalize hX : magicB ++ headsB l ++ bodyB 0 (l.take k) = X at *
                        generalize hH : headB (nameB tn x) (Go.Lib.decDigits dn) [48] [49, 48, 48, 54, 52, 52] x.data.length = H at *
                        have kX := Lib.hid hX
                        have hHp : 0 < H.length := by omega
                        clear hb htn hX hH hc0 hc1 hc2 hbl
                        go_wp2_with fail
                        refine lbegin 16 (ArchH w b (off + k * 3) (.int .i64 dn) (.slice da x.data.length dc)) (by kernel_rfl) ?_
                        refine ltake 16 0 (some 137) ?_ rfl kH0.out (by rfl) (fun w' hw => ?_) ?_
                        rotate_left 1
                        · have p1 := hw.c1; have p2 := hw.c2; have pl := hw.lt; go_simp; first | done | with_reducible rfl
                        try simp only [Act.put, List.setIfInBounds_toArray, List.set_cons_zero, List.set_cons_succ]
                        refine ltake 16 1 (some 138) ?_ rfl kH0.out (by rfl) (fun w' hw => ?_) ?_
                        rotate_left 1
                        · have p1 := hw.c1; have p2 := hw.c2; have pl := hw.lt; go_simp; first | done | with_reducible rfl
                        try simp only [Act.put, List.setIfInBounds_toArray, List.set_cons_zero, List.set_cons_succ]
                        refine ltake 16 2 (some 139) ?_ rfl kH0.out (by rfl) (fun w' hw => ?_) ?_
                        rotate_left 1
                        · have p1 := hw.c1; have p2 := hw.c2; have pl := hw.lt; go_simp; first | done | with_reducible rfl
                        try simp only [Act.put, List.setIfInBounds_toArray, List.set_cons_zero, List.set_cons_succ]
                        refine ltake 16 3 (some 140) ?_ rfl kH0.out (by rfl) (fun w' hw => ?_) ?_
                        rotate_left 1
                        · have p1 := hw.c1; have p2 := hw.c2; have pl := hw.lt; go_simp; first | done | with_reducible rfl
                        try simp only [Act.put, List.setIfInBounds_toArray, List.set_cons_zero, List.set_cons_succ]
                        refine ltake 16 4 (some 141) ?_ rfl kH0.out (by rfl) (fun w' hw => ?_) ?_
                        rotate_left 1
                        · have p1 := hw.c1; have p2 := hw.c2; have pl := hw.lt; go_simp; first | done | with_reducible rfl
                        try simp only [Act.put, List.setIfInBounds_toArray, List.set_cons_zero, List.set_cons_succ]
                        refine ltake 16 5 (some 142) ?_ rfl kH0.out (by rfl) (fun w' hw => ?_) ?_
                        rotate_left 1
                        · have p1 := hw.c1; have p2 := hw.c2; have pl := hw.lt; go_simp; first | done | with_reducible rfl
                        try simp only [Act.put, List.setIfInBounds_toArray, List.set_cons_zero, List.set_cons_succ]
                        refine ltake 16 6 (some 143) ?_ rfl kH0.out (by rfl) (fun w' hw => ?_) ?_
                        rotate_left 1
                        · have p1 := hw.c1; have p2 := hw.c2; have pl := hw.lt; go_simp; first | done | with_reducible rfl
                        try simp only [Act.put, List.setIfInBounds_toArray, List.set_cons_zero, List.set_cons_succ]
                        refine ltake 16 8 (some 145) ?_ rfl kH0.out (by rfl) (fun w' hw => ?_) ?_
                        rotate_left 1
                        · have p1 := hw.c1; have p2 := hw.c2; have pl := hw.lt; go_simp; first | done | with_reducible rfl
                        try simp only [Act.put, List.setIfInBounds_toArray, List.set_cons_zero, List.set_cons_succ]
                        refine ltake 16 9 (some 146) ?_ rfl kH0.out (by rfl) (fun w' hw => ?_) ?_
                        rotate_left 1
                        · have p1 := hw.c1; have p2 := hw.c2; have pl := hw.lt; go_simp; first | done | with_reducible rfl
                        try simp only [Act.put, List.setIfInBounds_toArray, List.set_cons_zero, List.set_cons_succ]
                        refine ltake 16 10 (some 147) ?_ rfl kH0.out (by rfl) (fun w' hw => ?_) ?_
                        rotate_left 1
                        · have p1 := hw.c1; have p2 := hw.c2; have pl := hw.lt; go_simp; first | done | with_reducible rfl
                        try simp only [Act.put, List.setIfInBounds_toArray, List.set_cons_zero, List.set_cons_succ]
                        refine ltake 16 11 (some 148) ?_ rfl kH0.out (by rfl) (fun w' hw => ?_) ?_
                        rotate_left 1
                        · have p1 := hw.c1; have p2 := hw.c2; have pl := hw.lt; go_simp; first | done | with_reducible rfl
                        try simp only [Act.put, List.setIfInBounds_toArray, List.set_cons_zero, List.set_cons_succ]
                        refine ltake 16 12 (some 149) ?_ rfl kH0.out (by rfl) (fun w' hw => ?_) ?_
                        rotate_left 1
                        · have p1 := hw.c1; have p2 := hw.c2; have pl := hw.lt; go_simp; first | done | with_reducible rfl
                        try simp only [Act.put, List.setIfInBounds_toArray, List.set_cons_zero, List.set_cons_succ]
                        refine ltake 16 13 (some 150) ?_ rfl kH0.out (by rfl) (fun w' hw => ?_) ?_
                        rotate_left 1
                        · have p1 := hw.c1; have p2 := hw.c2; have pl := hw.lt; go_simp; first | done | with_reducible rfl
                        try simp only [Act.put, List.setIfInBounds_toArray, List.set_cons_zero, List.set_cons_succ]
                        refine lready (rs := [7]) (by kernel_rfl) (by simp) (lcons rfl (fun K hK => ?_) (lnil))
                        rw [if_pos (by rfl)]
                        go_simp
                        refine (kdc.out _).mono ?_
                        rintro e w5 ⟨rfl, rfl⟩
                        refine hK.out _ _ (fun _ => kH0.out) (fun _ => ?_)
                        clear hK K
                        try simp only [Act.put, List.setIfInBounds_toArray, List.set_cons_zero, List.set_cons_succ]
                        refine lready (rs := [14]) (by kernel_rfl) (by simp) (lcons rfl (fun K hK => ?_) (lnil))
                        rw [if_pos (by rfl)]
                        go_simp
                        refine (khd.out _).mono ?_
                        rintro e w5 ⟨rfl, rfl⟩
                        refine hK.out _ _ (fun _ => kH0.out) (fun _ => ?_)
                        clear hK K
                        try simp only [Act.put, List.setIfInBounds_toArray, List.set_cons_zero, List.set_cons_succ]
                        refine lready (rs := [15]) (by kernel_rfl) (by simp) (lcons rfl (fun K hK => ?_) (lnil))
                        rw [if_pos (by rfl)]
                        refine wp_append_str (.tmp 137) (.tmp 151) ?ho w.heap.size _ X ?hs kr0.out H ?hx hHp (by omega) hB0 ?h
                        case ho => rfl
                        case hs => rfl
                        case hx => rfl
                        intro g6 n6 c6 w6 hn6 ho6 hg6
                        have ko6 := Lib.hid ho6
                        have kg6 := Lib.hid hg6
                        clear ho6 hg6
                        have kH6 := Lib.hid (kH0.out.touch (own_grownX kr0.out kg6.out hB0))
                        refine hK.out _ _ (fun _ => kH6.out) (fun _ => ?_)
                        clear hK K
                        try simp only [Act.put, List.setIfInBounds_toArray, List.set_cons_zero, List.set_cons_succ]
                        refine lready (rs := [16]) (by kernel_rfl) (by simp) (lcons rfl (fun K hK => ?_) (lnil))
                        rw [if_pos (by rfl)]
                        go_simp
                        refine hK.out _ _ (fun h => absurd rfl h) (fun _ => ?_)
                        clear hK K
                        refine ldone (by kernel_rfl) ?_ _
                        have hB6 := kH6.out.below.size
                        have hl6 : (X ++ H).length ≤ 65600 := by rw [List.length_append]; omega
                        have hp6 : 0 < (X ++ H).length := by rw [List.length_append]; omega
                        have kdv := Lib.hid ((kt.out.of_heap (w' := w6) (T' := T) (fun j hj => kH6.out.below.block j (kT.out j hj)) (fun _ h => h)).at kx.out)
                        obtain ⟨b', off', dv', hta', -, -, -, -, hc2', hdv'⟩ := kdv.out
                        injection hta' with hta'
                        injection hta' with e1 e2
                        subst e1 e2
                        have hc2 := kH6.out.c2
                        rw [hc2] at hc2'
                        injection hc2' with hc2'
                        subst hc2'
                        have kd6 := Lib.hid hdv'
                        have hbl := kH6.out.lt
                        clear kdv hdv'
                        generalize hY : X ++ H = Y at *
                        have kY := Lib.hid hY
                        clear hY
                        go_upto_region 39 with (at_builtin; refine wpList_append_byt _ rfl _ _ rfl w.heap.size _ Y rfl ko6.out _ x.data _ rfl kd6.out (by omega) hB6 ?_; intro a7 n7 c7 w7 hn7 ho7 hg7 _; have ko7 := Lib.hid ho7; have kg7 := Lib.hid hg7; clear ho7 hg7)
                        have hB7 : w.heap.size ≤ w7.heap.size := Nat.le_trans hB6 kg7.out.size
                        have kb7 := Lib.hid (own_grown ko6.out kg7.out hB6)
                        have kH7 := Lib.hid (kH6.out.touch kb7.out)
                        have hc27 := kH7.out.c2
                        have hbl7 := kH7.out.lt
                        have hl7 : (Y ++ x.data).length ≤ 1100000000000 := by rw [List.length_append]; omega
                        have hp7 : 0 < (Y ++ x.data).length := by rw [List.length_append]; omega
                        generalize hZ : Y ++ x.data = Z at *
                        have kZ := Lib.hid hZ
                        have kbody := Lib.hid (show magicB ++ headsB l ++ bodyB 0 (l.take (k + 1)) = Y ++ evenB x.data by
                          have h1 := ktk.out.2
                          rw [h1, ← ktn.out, kone.out, ← List.append_assoc, kX.out, ← List.append_assoc, kY.out])
                        clear hZ hc2 hbl kd6
                        by_cases hodd : x.data.length % 2 = 1
                        · have y5 : (x.data.length : Int) % 2 = 1 := by omega
                          have kev := Lib.hid (show evenB x.data = x.data ++ [10] by unfold evenB; rw [if_pos hodd])
                          have kb8 := Lib.hid (below_al (o := .cells #[.int .u8 10] 5) (Below.refl w7.heap.size w7))
                          have ko8 := Lib.hid (own_below ko7.out kb8.out)
                          have kt8 := Lib.hid (byte_new w7 10)
                          have hB8 : w.heap.size ≤ (w7.alloc (.cells #[.int .u8 10] 5)).heap.size := Nat.le_trans hB7 kb8.out.size
                          go_wp2_with (at_builtin; refine wpList_append_byt _ rfl _ _ rfl w.heap.size _ Z rfl ko8.out _ [10] _ rfl kt8.out (by show Z.length + 1 ≤ _; omega) hB8 ?_; intro a9 n9 c9 w9 hn9 ho9 hg9 _; have ko9 := Lib.hid ho9; have kg9 := Lib.hid hg9; clear ho9 hg9)
                          refine ⟨⟨k + 1, by omega, by go_num, rfl, ⟨?_, Or.inl ?_⟩, ?_⟩, by simp [intOf]; omega⟩
                          · rw [kbody.out]; rw [List.length_append]; omega
                          · rw [kbody.out, kev.out, ← List.append_assoc, kZ.out]; exact ko9.out
                          · exact kH7.out.below.trans ((kb8.out.mono hB7).trans (own_grown ko8.out kg9.out hB8))
                        · have y5 : ¬ (x.data.length : Int) % 2 = 1 := by omega
                          have kev := Lib.hid (show evenB x.data = x.data by unfold evenB; rw [if_neg hodd])
                          go_wp2_with fail
                          refine ⟨⟨k + 1, by omega, by go_num, rfl, ⟨?_, Or.inl ?_⟩, kH7.out.below⟩, by simp [intOf]; omega⟩
                          · rw [kbody.out]; rw [List.length_append]; omega
                          · rw [kbody.out, kev.out, kZ.out]; exact ko7.out
                    · have hkl : k = l.length := by omega
                      have y4 : ¬ (k : Int) < (l.length : Int) := by omega
                      have kf := kro.out
                      rw [hkl, List.take_length] at kf
                      have kf9 := Lib.hid kf
                      clear kf hkl
                      go_wp2_with fail
                      go_ret2
                      rw [kar.out]
                      exact ⟨_, rfl, Or.inr kf9.out, kB.out⟩
end
end Go.Proofs.YtnjagoglabllaaaGreatDoor
