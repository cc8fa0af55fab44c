/-
  right of a tree whose first bad node is of kind 2 (Derived text VBad). Conditions: paths of at most 2^31 bytes, data of at most 2^40 bytes.
-/
import Derived.Test.YtejofgdglpmlkaaGreatDoorM09
namespace Go.Proofs.YtejofgdglpmlkaaGreatDoor
open Go.RowKit

section
variable {l : St} {clock room : Int} {nv : Value} {T : Nat → Prop} {w : World}
set_option maxRecDepth 100000 in
set_option maxHeartbeats 8000000 in
theorem right_bad2 (hkf : kindF clock [] l = 2) (ht : TreeAt w nv l T) (hT : ∀ k, T k → k < w.heap.size) (hp : ∀ x ∈ l, x.1.length ≤ 2147483647) (hd : ∀ x ∈ l, x.2.data.length ≤ 1099511627776) :
    Calls Tryz.prog 28 #[.agg #[nv, .int .i64 clock, .int .i64 room]] w fun e w' => e = .returned (.int .i64 (rightP l clock room)) ∧ Below w.heap.size w w' := by
  have hok := kind_bad l [] (by rw [hkf]; decide)
  have kkf := Lib.hid hkf
  clear hkf
  obtain ⟨ta, tc, hnv⟩ := ht.form
  subst hnv
  have kt := Lib.hid ht
  have kT := Lib.hid hT
  have kp := Lib.hid hp
  have kd := Lib.hid hd
  clear ht hT hp hd
  by_cases h1 : 1000 < l.length
  · have kf := Lib.hid (show rightP l clock room = 2 by unfold rightP; rw [if_pos h1])
    go_enter Tryz.func28, Tryz.ntmps28
    go_wp2
    go_ret
    exact ⟨by rw [kf.out]; rfl, by repeat first | exact Below.refl _ _ | apply below_al⟩
  have h1' : l.length ≤ 1000 := by omega
  clear h1
  go_enter Tryz.func28, Tryz.ntmps28
  go_wp2
  have kB1 := Lib.hid (show BoxT w (w.alloc (.cells #[.slice ta l.length tc, .int .i64 clock, .int .i64 room] 24 (0, 0))) (.slice ta l.length tc) clock room from ⟨heap_alloc_new _ _, below_al (Below.refl _ _)⟩)
  go_loopw [3, 19] (fun wv kv wr => ∃ k : Nat, k ≤ l.length ∧ kv = .int .i64 k ∧ wv = .int .i64 ((l.length + bytesOf (l.take k) : Nat) : Int) ∧ (l.take k).any longN = false ∧ BoxT w wr (.slice ta l.length tc) clock room) (fun _ kv _ => l.length - (intOf kv).toNat)
  case atStart => exact ⟨0, Nat.zero_le _, rfl, rfl, rfl, kB1.out⟩
  case round =>
    obtain ⟨k, hk, rfl, rfl, hall, hB⟩ := hrel
    have kall := Lib.hid hall
    have kB := Lib.hid hB
    clear hall hB
    by_cases hlt : k < l.length
    · obtain ⟨x, hx⟩ : ∃ x, l[k]? = some x := ⟨_, List.getElem?_eq_getElem hlt⟩
      have kx := Lib.hid hx
      obtain ⟨b, off, dv, hta, hTb, hbl, hc0, hc1, hc2, hc3, hdv⟩ := (kt.out.of_heap (w' := wr) (T' := T) (fun j hj => kB.out.2.block j (kT.out j hj)) (fun _ h => h)).at hx
      obtain ⟨da, dc, hdf⟩ := hdv.form
      subst hta hdf
      clear hTb hdv hx
      have hdl := kd.out x (List.mem_of_getElem? kx.out)
      have hsum := bytes_small (l := l.take k) (by simp; omega) (fun y hy => kd.out y (List.mem_of_mem_take hy))
      have htk := bytes_take kx.out
      have hat := any_take kx.out
      generalize hxd : x.2.dir = xd at *
      have kxd := Lib.hid hxd
      clear hxd
      cases xd with
      | true =>
        go_wp2
        exact ⟨⟨k + 1, by omega, by go_num, by rw [htk]; congr 1; omega, by rw [hat, kall.out]; unfold longN; rw [kxd.out]; rfl, kB.out.below (below_al (Below.refl _ _))⟩, by simp [intOf]; omega⟩
      | false =>
        by_cases hlong : (65536 : Int) < x.2.data.length
        · have kf := Lib.hid (show rightP l clock room = 2 by
            unfold rightP
            rw [if_neg (by omega), if_pos (any_of (List.mem_of_getElem? kx.out) (by unfold longN; rw [kxd.out]; simp; omega))])
          go_wp2
          go_ret
          exact ⟨by rw [kf.out]; rfl, kB.out.2.trans ((below_al (Below.refl _ _)).mono kB.out.2.size)⟩
        · go_wp2
          exact ⟨⟨k + 1, by omega, by go_num, by rw [htk]; congr 1; omega, by rw [hat, kall.out]; unfold longN; rw [kxd.out]; simp; omega, kB.out.below (below_al (Below.refl _ _))⟩, by simp [intOf]; omega⟩
    · have hkl : k = l.length := by omega
      subst hkl
      have kal := Lib.hid (show l.any longN = false by have := kall.out; rwa [List.take_length] at this)
      rw [List.take_length]
      clear kall hlt hk
      have hsum := bytes_small h1' kd.out
      obtain ⟨hb0, hb1, hb2⟩ := kB.out.cell
      have hbl := heap_lt kB.out.1
      have hbad : badArg clock room = true → rightP l clock room = 1 := fun h => by unfold rightP; rw [if_neg (by omega), if_neg (by rw [kal.out]; simp), if_pos h]
      have kbad := Lib.hid hbad
      clear hbad
      by_cases g1 : clock < 0
      · have kf := Lib.hid (kbad.out (by unfold badArg; simp [g1]))
        go_wp2
        go_ret
        exact ⟨by rw [kf.out]; rfl, kB.out.2⟩
      by_cases g2 : 1099511627776 < clock
      · have kf := Lib.hid (kbad.out (by unfold badArg; simp [g2]))
        go_wp2
        go_ret
        exact ⟨by rw [kf.out]; rfl, kB.out.2⟩
      by_cases g3 : room < 0
      · have kf := Lib.hid (kbad.out (by unfold badArg; simp [g3]))
        go_wp2
        go_ret
        exact ⟨by rw [kf.out]; rfl, kB.out.2⟩
      by_cases g4 : 1048576 < room
      · have kf := Lib.hid (kbad.out (by unfold badArg; simp [g4]))
        go_wp2
        go_ret
        exact ⟨by rw [kf.out]; rfl, kB.out.2⟩
      have hgood : ∀ n : Int, (if okFrom clock [] l = false then 1 else if room < wt l then 15 else 0) = n → rightP l clock room = n := fun n h => by
        unfold rightP; rw [if_neg (by omega), if_neg (by rw [kal.out]; simp), if_neg (by unfold badArg; simp; omega)]; exact h
      have kgood := Lib.hid hgood
      clear hgood kbad kal
      have hmm := @run_makeMap Tryz.prog
      go_wp2_with (refine wpList_dirs0 _ rfl _ _ _ rfl rfl rfl rfl (heap_alloc_new _ _) ?_; intro w3 hD3 hg3 hs3; have kD3 := Lib.hid hD3; have kB3 := Lib.hid (kB.out.dirs hg3); clear hD3 hg3 hs3; have hb3 := kB3.out.cell.1; have hl3 := heap_lt kB3.out.1)
      generalize wr.heap.size = db at *
      have kok := Lib.hid hok
      have kdb := Lib.hid hbl
      clear hok hbl
      go_loopw [61] (fun kv wr => ∃ k : Nat, k ≤ l.length ∧ kv = .int .i64 k ∧ kindF clock (l.take k) (l.drop k) = 2 ∧ BoxT w wr (.slice ta l.length tc) clock room ∧ DirsAt wr db (l.take k)) (fun kv _ => l.length - (intOf kv).toNat)
      case atStart => exact ⟨0, Nat.zero_le _, rfl, kkf.out, kB3.out, kD3.out⟩
      case round =>
        obtain ⟨k, hk, rfl, hokk, hB, hD⟩ := hrel
        have kBk := Lib.hid hB
        have kDk := Lib.hid hD
        clear hB hD hb3 hl3 kD3 kB3
        by_cases hlt : k < l.length
        · obtain ⟨x, hx⟩ : ∃ x, l[k]? = some x := ⟨_, List.getElem?_eq_getElem hlt⟩
          have kx := Lib.hid hx
          obtain ⟨b, off, dv, hta, hTb, hbl, hc0, hc1, hc2, hc3, hdv⟩ := (kt.out.of_heap (T' := T) (fun j hj => kBk.out.2.block j (kT.out j hj)) (fun _ h => h)).at hx
          obtain ⟨da, dc, hdf⟩ := hdv.form
          subst hta hdf
          clear hTb hdv hx
          have hps := kp.out x (List.mem_of_getElem? kx.out)
          rw [kindF_drop kx.out] at hokk
          cases hon : okNode clock (l.take k) x with
          | true =>
            rw [hon, if_pos rfl] at hokk
            exact absurd hokk (kind_two (l.drop (k + 1)) (l.take (k + 1)) (by rw [List.length_take]; omega))
          | false =>
            rw [hon, if_neg (by simp)] at hokk
            have kf := Lib.hid (kgood.out 1 (by rw [if_pos kok.out]))
            have hpl : b < wr.heap.size := hbl
            have hP := Lib.hid (fun w => parent_mk x.1 w (by omega))
            have kno := Lib.hid hon
            clear hon
            obtain ⟨hpo, hz⟩ := kindN_2 hokk
            clear hokk
            obtain ⟨t1, t2, t3⟩ := pathOk_parts hpo
            have kt3 := Lib.hid t3
            clear t3 hpo
            have hV := Lib.hid (fun w => valid_yes (mk x.1) w (by rw [mk_size]; exact hps) (by rw [mk_list]; exact t1))
            have hQe := mk_isEmpty t2
            generalize hxd : x.2.dir = xd at *
            have kxd := Lib.hid hxd
            clear hxd
            obtain rfl : k = 0 := by rw [List.length_take] at hz; omega
            clear hz
            have hpc : wr.cell? ⟨b, off, none⟩ = some (.string (mk x.1)) := by simpa using hc0
            cases t4 : isDirB (l.take 0) (parentP x.1) with
            | false =>
              have kD := Lib.hid (fun (w' : World) (h : DirsAt w' db (l.take 0)) => dirs_no h t1 t4)
              have kR := Lib.hid (show RHold w (.slice (some ⟨b, off, none⟩) l.length tc) clock room db (l.take 0) wr.heap.size (mk x.1) xd x.2.time (.slice da x.2.data.length dc) ⟨b, off, none⟩ (some x.1) (wr.alloc (.cells #[.string (mk x.1), .bool xd, .int .i64 x.2.time, .slice da x.2.data.length dc] 54 (0, 0))).drew from RHold.first kBk.out kDk.out hpl hpc)
              go_wp2
              refine wp_region_held_drew (by kernel_rfl) kR.out (fun hHeld => ?_)
              clear kR
              refine btake 0 (some 66) ?_ rfl hHeld (fun w' hw => ?_) ?_
              rotate_left 1
              · obtain ⟨c0, c1, c2, x0, x1, x2, x3, p0⟩ := hw.cells; go_simp; first | done | with_reducible rfl
              try simp only [pz0, pz1, pz2, pz3]
              refine btake 1 (some 67) ?_ rfl hHeld (fun w' hw => ?_) ?_
              rotate_left 1
              · obtain ⟨c0, c1, c2, x0, x1, x2, x3, p0⟩ := hw.cells; go_simp; first | done | with_reducible rfl
              try simp only [pz0, pz1, pz2, pz3]
              refine wpAnyH_all (rs := [2]) (by kernel_rfl) (by simp) (AllReadyH.cons rfl (fun K hK => ?_) AllReadyH.nil)
              rw [if_pos (by rfl)]
              go_simp
              refine (hV.out _).mono ?_
              rintro e w2 ⟨rfl, hb2⟩
              go_wp2_with fail
              refine hK.out _ _ (hHeld.below hb2) (fun hHeld2 => ?_)
              clear hK K hHeld hb2
              try simp only [pz0, pz1, pz2, pz3]
              refine btake 3 (some 69) ?_ rfl hHeld2 (fun w' hw => ?_) ?_
              rotate_left 1
              · obtain ⟨c0, c1, c2, x0, x1, x2, x3, p0⟩ := hw.cells; go_simp; first | done | with_reducible rfl
              try simp only [pz0, pz1, pz2, pz3]
              refine btake 4 (some 70) ?_ rfl hHeld2 (fun w' hw => ?_) ?_
              rotate_left 1
              · obtain ⟨c0, c1, c2, x0, x1, x2, x3, p0⟩ := hw.cells; go_simp; first | done | with_reducible rfl
              try simp only [pz0, pz1, pz2, pz3]
              refine btake 5 (some 71) ?_ rfl hHeld2 (fun w' hw => ?_) ?_
              rotate_left 1
              · obtain ⟨c0, c1, c2, x0, x1, x2, x3, p0⟩ := hw.cells; go_simp; first | done | with_reducible rfl
              try simp only [pz0, pz1, pz2, pz3]
              refine btake 6 (some 72) ?_ rfl hHeld2 (fun w' hw => ?_) ?_
              rotate_left 1
              · obtain ⟨c0, c1, c2, x0, x1, x2, x3, p0⟩ := hw.cells; go_simp; first | done | with_reducible rfl
              try simp only [pz0, pz1, pz2, pz3]
              refine btake 7 (some 73) ?_ rfl hHeld2 (fun w' hw => ?_) ?_
              rotate_left 1
              · obtain ⟨c0, c1, c2, x0, x1, x2, x3, p0⟩ := hw.cells; go_simp; first | done | with_reducible rfl
              try simp only [pz0, pz1, pz2, pz3]
              refine btake 8 (some 74) ?_ rfl hHeld2 (fun w' hw => ?_) ?_
              rotate_left 1
              · obtain ⟨c0, c1, c2, x0, x1, x2, x3, p0⟩ := hw.cells; go_simp; first | done | with_reducible rfl
              try simp only [pz0, pz1, pz2, pz3]
              refine btake 9 (some 75) ?_ rfl hHeld2 (fun w' hw => ?_) ?_
              rotate_left 1
              · obtain ⟨c0, c1, c2, x0, x1, x2, x3, p0⟩ := hw.cells; go_simp; first | done | with_reducible rfl
              try simp only [pz0, pz1, pz2, pz3]
              refine btake 10 (some 76) ?_ rfl hHeld2 (fun w' hw => ?_) ?_
              rotate_left 1
              · obtain ⟨c0, c1, c2, x0, x1, x2, x3, p0⟩ := hw.cells; go_simp; first | done | with_reducible rfl
              try simp only [pz0, pz1, pz2, pz3]
              refine btake 11 (some 77) ?_ rfl hHeld2 (fun w' hw => ?_) ?_
              rotate_left 1
              · obtain ⟨c0, c1, c2, x0, x1, x2, x3, p0⟩ := hw.cells; go_simp; first | done | with_reducible rfl
              try simp only [pz0, pz1, pz2, pz3]
              refine btake 12 (some 78) ?_ rfl hHeld2 (fun w' hw => ?_) ?_
              rotate_left 1
              · obtain ⟨c0, c1, c2, x0, x1, x2, x3, p0⟩ := hw.cells; go_simp; first | done | with_reducible rfl
              try simp only [pz0, pz1, pz2, pz3]
              refine bskip 10 13 79 hHeld2 ?_
              simp only [skipPut, skipList, pz0, pz1, pz2, pz3]
              refine btake 23 (some 89) ?_ rfl hHeld2 (fun w' hw => ?_) ?_
              rotate_left 1
              · obtain ⟨c0, c1, c2, x0, x1, x2, x3, p0⟩ := hw.cells; go_simp; first | done | with_reducible rfl
              try simp only [pz0, pz1, pz2, pz3]
              refine btake 24 (some 90) ?_ rfl hHeld2 (fun w' hw => ?_) ?_
              rotate_left 1
              · obtain ⟨c0, c1, c2, x0, x1, x2, x3, p0⟩ := hw.cells; go_simp; first | done | with_reducible rfl
              try simp only [pz0, pz1, pz2, pz3]
              refine btake 25 (some 91) ?_ rfl hHeld2 (fun w' hw => ?_) ?_
              rotate_left 1
              · obtain ⟨c0, c1, c2, x0, x1, x2, x3, p0⟩ := hw.cells; go_simp; first | done | with_reducible rfl
              try simp only [pz0, pz1, pz2, pz3]
              refine btake 26 (some 92) ?_ rfl hHeld2 (fun w' hw => ?_) ?_
              rotate_left 1
              · obtain ⟨c0, c1, c2, x0, x1, x2, x3, p0⟩ := hw.cells; go_simp; first | done | with_reducible rfl
              try simp only [pz0, pz1, pz2, pz3]
              refine btake 27 (some 93) ?_ rfl hHeld2 (fun w' hw => ?_) ?_
              rotate_left 1
              · obtain ⟨c0, c1, c2, x0, x1, x2, x3, p0⟩ := hw.cells; go_simp; first | done | with_reducible rfl
              try simp only [pz0, pz1, pz2, pz3]
              refine btake 28 (some 94) ?_ rfl hHeld2 (fun w' hw => ?_) ?_
              rotate_left 1
              · obtain ⟨c0, c1, c2, x0, x1, x2, x3, p0⟩ := hw.cells; go_simp; first | done | with_reducible rfl
              try simp only [pz0, pz1, pz2, pz3]
              refine wpAnyH_all (rs := [29]) (by kernel_rfl) (by simp) (AllReadyH.cons rfl (fun K hK => ?_) AllReadyH.nil)
              rw [if_pos (by rfl)]
              go_simp
              refine (hP.out _).mono ?_
              rintro e w3 ⟨rfl, hb3⟩
              go_wp2_with fail
              refine hK.out _ _ (hHeld2.below hb3) (fun hHeld3 => ?_)
              clear hK K hHeld2 hb3
              try simp only [pz0, pz1, pz2, pz3]
              refine btake 30 (some 96) (.int .i64 0) rfl hHeld3 (fun w' hw => ?_) ?_
              · have hl := kD.out w' hw.dirs; simp [execOp, Act.eval, hl, Result.andThen]
              try simp only [pz0, pz1, pz2, pz3]
              refine btake 31 (some 97) ?_ rfl hHeld3 (fun w' hw => ?_) ?_
              rotate_left 1
              · obtain ⟨c0, c1, c2, x0, x1, x2, x3, p0⟩ := hw.cells; go_simp; first | done | with_reducible rfl
              try simp only [pz0, pz1, pz2, pz3]
              refine btake 32 (some 98) ?_ rfl hHeld3 (fun w' hw => ?_) ?_
              rotate_left 1
              · obtain ⟨c0, c1, c2, x0, x1, x2, x3, p0⟩ := hw.cells; go_simp; first | done | with_reducible rfl
              try simp only [pz0, pz1, pz2, pz3]
              refine btake 33 (some 99) ?_ rfl hHeld3 (fun w' hw => ?_) ?_
              rotate_left 1
              · obtain ⟨c0, c1, c2, x0, x1, x2, x3, p0⟩ := hw.cells; go_simp; first | done | with_reducible rfl
              try simp only [pz0, pz1, pz2, pz3]
              refine bskip 8 34 100 hHeld3 ?_
              simp only [skipPut, skipList, pz0, pz1, pz2, pz3]
              refine btake 42 (some 108) ?_ rfl hHeld3 (fun w' hw => ?_) ?_
              rotate_left 1
              · obtain ⟨c0, c1, c2, x0, x1, x2, x3, p0⟩ := hw.cells; go_simp; first | done | with_reducible rfl
              try simp only [pz0, pz1, pz2, pz3]
              refine btake 43 (some 109) ?_ rfl hHeld3 (fun w' hw => ?_) ?_
              rotate_left 1
              · obtain ⟨c0, c1, c2, x0, x1, x2, x3, p0⟩ := hw.cells; go_simp; first | done | with_reducible rfl
              try simp only [pz0, pz1, pz2, pz3]
              refine bskip 3 44 110 hHeld3 ?_
              simp only [skipPut, skipList, pz0, pz1, pz2, pz3]
              refine btake 47 (some 113) ?_ rfl hHeld3 (fun w' hw => ?_) ?_
              rotate_left 1
              · obtain ⟨c0, c1, c2, x0, x1, x2, x3, p0⟩ := hw.cells; go_simp; first | done | with_reducible rfl
              try simp only [pz0, pz1, pz2, pz3]
              refine btake 48 (some 114) ?_ rfl hHeld3 (fun w' hw => ?_) ?_
              rotate_left 1
              · obtain ⟨c0, c1, c2, x0, x1, x2, x3, p0⟩ := hw.cells; go_simp; first | done | with_reducible rfl
              try simp only [pz0, pz1, pz2, pz3]
              refine bskip 5 49 115 hHeld3 ?_
              simp only [skipPut, skipList, pz0, pz1, pz2, pz3]
              refine btake 54 (some 120) ?_ rfl hHeld3 (fun w' hw => ?_) ?_
              rotate_left 1
              · obtain ⟨c0, c1, c2, x0, x1, x2, x3, p0⟩ := hw.cells; go_simp; first | done | with_reducible rfl
              try simp only [pz0, pz1, pz2, pz3]
              refine wpAnyH_done (by kernel_rfl) ?_ _
              have kbx := Lib.hid hHeld3.box.2
              clear hHeld3
              go_wp2
              go_ret
              exact ⟨by rw [kf.out]; rfl, kbx.out⟩
            | true =>
              have kD := Lib.hid (fun (w' : World) (h : DirsAt w' db (l.take 0)) => dirs_yes h t1 t4)
              have kt4 := Lib.hid t4
              clear t4
              cases xd with
              | true =>
                cases t5 : x.2.data.length with
                | succ m =>
                  rw [t5] at hc3
                  have kR := Lib.hid (show RHold w (.slice (some ⟨b, off, none⟩) l.length tc) clock room db (l.take 0) wr.heap.size (mk x.1) true x.2.time (.slice da (m + 1) dc) ⟨b, off, none⟩ (some x.1) (wr.alloc (.cells #[.string (mk x.1), .bool true, .int .i64 x.2.time, .slice da (m + 1) dc] 54 (0, 0))).drew from RHold.first kBk.out kDk.out hpl hpc)
                  go_wp2
                  refine wp_region_held_drew (by kernel_rfl) kR.out (fun hHeld => ?_)
                  clear kR
                  refine btake 0 (some 66) ?_ rfl hHeld (fun w' hw => ?_) ?_
                  rotate_left 1
                  · obtain ⟨c0, c1, c2, x0, x1, x2, x3, p0⟩ := hw.cells; go_simp; first | done | with_reducible rfl
                  try simp only [pz0, pz1, pz2, pz3]
                  refine btake 1 (some 67) ?_ rfl hHeld (fun w' hw => ?_) ?_
                  rotate_left 1
                  · obtain ⟨c0, c1, c2, x0, x1, x2, x3, p0⟩ := hw.cells; go_simp; first | done | with_reducible rfl
                  try simp only [pz0, pz1, pz2, pz3]
                  refine wpAnyH_all (rs := [2]) (by kernel_rfl) (by simp) (AllReadyH.cons rfl (fun K hK => ?_) AllReadyH.nil)
                  rw [if_pos (by rfl)]
                  go_simp
                  refine (hV.out _).mono ?_
                  rintro e w2 ⟨rfl, hb2⟩
                  go_wp2_with fail
                  refine hK.out _ _ (hHeld.below hb2) (fun hHeld2 => ?_)
                  clear hK K hHeld hb2
                  try simp only [pz0, pz1, pz2, pz3]
                  refine btake 3 (some 69) ?_ rfl hHeld2 (fun w' hw => ?_) ?_
                  rotate_left 1
                  · obtain ⟨c0, c1, c2, x0, x1, x2, x3, p0⟩ := hw.cells; go_simp; first | done | with_reducible rfl
                  try simp only [pz0, pz1, pz2, pz3]
                  refine btake 4 (some 70) ?_ rfl hHeld2 (fun w' hw => ?_) ?_
                  rotate_left 1
                  · obtain ⟨c0, c1, c2, x0, x1, x2, x3, p0⟩ := hw.cells; go_simp; first | done | with_reducible rfl
                  try simp only [pz0, pz1, pz2, pz3]
                  refine btake 5 (some 71) ?_ rfl hHeld2 (fun w' hw => ?_) ?_
                  rotate_left 1
                  · obtain ⟨c0, c1, c2, x0, x1, x2, x3, p0⟩ := hw.cells; go_simp; first | done | with_reducible rfl
                  try simp only [pz0, pz1, pz2, pz3]
                  refine btake 6 (some 72) ?_ rfl hHeld2 (fun w' hw => ?_) ?_
                  rotate_left 1
                  · obtain ⟨c0, c1, c2, x0, x1, x2, x3, p0⟩ := hw.cells; go_simp; first | done | with_reducible rfl
                  try simp only [pz0, pz1, pz2, pz3]
                  refine btake 7 (some 73) ?_ rfl hHeld2 (fun w' hw => ?_) ?_
                  rotate_left 1
                  · obtain ⟨c0, c1, c2, x0, x1, x2, x3, p0⟩ := hw.cells; go_simp; first | done | with_reducible rfl
                  try simp only [pz0, pz1, pz2, pz3]
                  refine btake 8 (some 74) ?_ rfl hHeld2 (fun w' hw => ?_) ?_
                  rotate_left 1
                  · obtain ⟨c0, c1, c2, x0, x1, x2, x3, p0⟩ := hw.cells; go_simp; first | done | with_reducible rfl
                  try simp only [pz0, pz1, pz2, pz3]
                  refine btake 9 (some 75) ?_ rfl hHeld2 (fun w' hw => ?_) ?_
                  rotate_left 1
                  · obtain ⟨c0, c1, c2, x0, x1, x2, x3, p0⟩ := hw.cells; go_simp; first | done | with_reducible rfl
                  try simp only [pz0, pz1, pz2, pz3]
                  refine btake 10 (some 76) ?_ rfl hHeld2 (fun w' hw => ?_) ?_
                  rotate_left 1
                  · obtain ⟨c0, c1, c2, x0, x1, x2, x3, p0⟩ := hw.cells; go_simp; first | done | with_reducible rfl
                  try simp only [pz0, pz1, pz2, pz3]
                  refine btake 11 (some 77) ?_ rfl hHeld2 (fun w' hw => ?_) ?_
                  rotate_left 1
                  · obtain ⟨c0, c1, c2, x0, x1, x2, x3, p0⟩ := hw.cells; go_simp; first | done | with_reducible rfl
                  try simp only [pz0, pz1, pz2, pz3]
                  refine btake 12 (some 78) ?_ rfl hHeld2 (fun w' hw => ?_) ?_
                  rotate_left 1
                  · obtain ⟨c0, c1, c2, x0, x1, x2, x3, p0⟩ := hw.cells; go_simp; first | done | with_reducible rfl
                  try simp only [pz0, pz1, pz2, pz3]
                  refine bskip 10 13 79 hHeld2 ?_
                  simp only [skipPut, skipList, pz0, pz1, pz2, pz3]
                  refine btake 23 (some 89) ?_ rfl hHeld2 (fun w' hw => ?_) ?_
                  rotate_left 1
                  · obtain ⟨c0, c1, c2, x0, x1, x2, x3, p0⟩ := hw.cells; go_simp; first | done | with_reducible rfl
                  try simp only [pz0, pz1, pz2, pz3]
                  refine btake 24 (some 90) ?_ rfl hHeld2 (fun w' hw => ?_) ?_
                  rotate_left 1
                  · obtain ⟨c0, c1, c2, x0, x1, x2, x3, p0⟩ := hw.cells; go_simp; first | done | with_reducible rfl
                  try simp only [pz0, pz1, pz2, pz3]
                  refine btake 25 (some 91) ?_ rfl hHeld2 (fun w' hw => ?_) ?_
                  rotate_left 1
                  · obtain ⟨c0, c1, c2, x0, x1, x2, x3, p0⟩ := hw.cells; go_simp; first | done | with_reducible rfl
                  try simp only [pz0, pz1, pz2, pz3]
                  refine btake 26 (some 92) ?_ rfl hHeld2 (fun w' hw => ?_) ?_
                  rotate_left 1
                  · obtain ⟨c0, c1, c2, x0, x1, x2, x3, p0⟩ := hw.cells; go_simp; first | done | with_reducible rfl
                  try simp only [pz0, pz1, pz2, pz3]
                  refine btake 27 (some 93) ?_ rfl hHeld2 (fun w' hw => ?_) ?_
                  rotate_left 1
                  · obtain ⟨c0, c1, c2, x0, x1, x2, x3, p0⟩ := hw.cells; go_simp; first | done | with_reducible rfl
                  try simp only [pz0, pz1, pz2, pz3]
                  refine btake 28 (some 94) ?_ rfl hHeld2 (fun w' hw => ?_) ?_
                  rotate_left 1
                  · obtain ⟨c0, c1, c2, x0, x1, x2, x3, p0⟩ := hw.cells; go_simp; first | done | with_reducible rfl
                  try simp only [pz0, pz1, pz2, pz3]
                  refine wpAnyH_all (rs := [29]) (by kernel_rfl) (by simp) (AllReadyH.cons rfl (fun K hK => ?_) AllReadyH.nil)
                  rw [if_pos (by rfl)]
                  go_simp
                  refine (hP.out _).mono ?_
                  rintro e w3 ⟨rfl, hb3⟩
                  go_wp2_with fail
                  refine hK.out _ _ (hHeld2.below hb3) (fun hHeld3 => ?_)
                  clear hK K hHeld2 hb3
                  try simp only [pz0, pz1, pz2, pz3]
                  refine btake 30 (some 96) (.int .i64 1) rfl hHeld3 (fun w' hw => ?_) ?_
                  · have hl := kD.out w' hw.dirs; simp [execOp, Act.eval, hl, Result.andThen]
                  try simp only [pz0, pz1, pz2, pz3]
                  refine btake 31 (some 97) ?_ rfl hHeld3 (fun w' hw => ?_) ?_
                  rotate_left 1
                  · obtain ⟨c0, c1, c2, x0, x1, x2, x3, p0⟩ := hw.cells; go_simp; first | done | with_reducible rfl
                  try simp only [pz0, pz1, pz2, pz3]
                  refine btake 32 (some 98) ?_ rfl hHeld3 (fun w' hw => ?_) ?_
                  rotate_left 1
                  · obtain ⟨c0, c1, c2, x0, x1, x2, x3, p0⟩ := hw.cells; go_simp; first | done | with_reducible rfl
                  try simp only [pz0, pz1, pz2, pz3]
                  refine btake 33 (some 99) ?_ rfl hHeld3 (fun w' hw => ?_) ?_
                  rotate_left 1
                  · obtain ⟨c0, c1, c2, x0, x1, x2, x3, p0⟩ := hw.cells; go_simp; first | done | with_reducible rfl
                  try simp only [pz0, pz1, pz2, pz3]
                  refine btake 34 (some 100) ?_ rfl hHeld3 (fun w' hw => ?_) ?_
                  rotate_left 1
                  · obtain ⟨c0, c1, c2, x0, x1, x2, x3, p0⟩ := hw.cells; go_simp; first | done | with_reducible rfl
                  try simp only [pz0, pz1, pz2, pz3]
                  refine btake 35 (some 101) ?_ rfl hHeld3 (fun w' hw => ?_) ?_
                  rotate_left 1
                  · obtain ⟨c0, c1, c2, x0, x1, x2, x3, p0⟩ := hw.cells; go_simp; first | done | with_reducible rfl
                  try simp only [pz0, pz1, pz2, pz3]
                  refine btake 36 (some 102) ?_ rfl hHeld3 (fun w' hw => ?_) ?_
                  rotate_left 1
                  · obtain ⟨c0, c1, c2, x0, x1, x2, x3, p0⟩ := hw.cells; go_simp; first | done | with_reducible rfl
                  try simp only [pz0, pz1, pz2, pz3]
                  refine btake 37 (some 103) ?_ rfl hHeld3 (fun w' hw => ?_) ?_
                  rotate_left 1
                  · obtain ⟨c0, c1, c2, x0, x1, x2, x3, p0⟩ := hw.cells; go_simp; first | done | with_reducible rfl
                  try simp only [pz0, pz1, pz2, pz3]
                  refine btake 38 (some 104) ?_ rfl hHeld3 (fun w' hw => ?_) ?_
                  rotate_left 1
                  · obtain ⟨c0, c1, c2, x0, x1, x2, x3, p0⟩ := hw.cells; go_simp; first | done | with_reducible rfl
                  try simp only [pz0, pz1, pz2, pz3]
                  refine btake 39 (some 105) ?_ rfl hHeld3 (fun w' hw => ?_) ?_
                  rotate_left 1
                  · obtain ⟨c0, c1, c2, x0, x1, x2, x3, p0⟩ := hw.cells; go_simp; first | done | with_reducible rfl
                  try simp only [pz0, pz1, pz2, pz3]
                  refine btake 40 (some 106) ?_ rfl hHeld3 (fun w' hw => ?_) ?_
                  rotate_left 1
                  · obtain ⟨c0, c1, c2, x0, x1, x2, x3, p0⟩ := hw.cells; go_simp; first | done | with_reducible rfl
                  try simp only [pz0, pz1, pz2, pz3]
                  refine btake 41 (some 107) ?_ rfl hHeld3 (fun w' hw => ?_) ?_
                  rotate_left 1
                  · obtain ⟨c0, c1, c2, x0, x1, x2, x3, p0⟩ := hw.cells; go_simp; first | done | with_reducible rfl
                  try simp only [pz0, pz1, pz2, pz3]
                  refine btake 42 (some 108) ?_ rfl hHeld3 (fun w' hw => ?_) ?_
                  rotate_left 1
                  · obtain ⟨c0, c1, c2, x0, x1, x2, x3, p0⟩ := hw.cells; go_simp; first | done | with_reducible rfl
                  try simp only [pz0, pz1, pz2, pz3]
                  refine btake 43 (some 109) ?_ rfl hHeld3 (fun w' hw => ?_) ?_
                  rotate_left 1
                  · obtain ⟨c0, c1, c2, x0, x1, x2, x3, p0⟩ := hw.cells; go_simp; first | done | with_reducible rfl
                  try simp only [pz0, pz1, pz2, pz3]
                  refine bskip 3 44 110 hHeld3 ?_
                  simp only [skipPut, skipList, pz0, pz1, pz2, pz3]
                  refine btake 47 (some 113) ?_ rfl hHeld3 (fun w' hw => ?_) ?_
                  rotate_left 1
                  · obtain ⟨c0, c1, c2, x0, x1, x2, x3, p0⟩ := hw.cells; go_simp; first | done | with_reducible rfl
                  try simp only [pz0, pz1, pz2, pz3]
                  refine btake 48 (some 114) ?_ rfl hHeld3 (fun w' hw => ?_) ?_
                  rotate_left 1
                  · obtain ⟨c0, c1, c2, x0, x1, x2, x3, p0⟩ := hw.cells; go_simp; first | done | with_reducible rfl
                  try simp only [pz0, pz1, pz2, pz3]
                  refine bskip 5 49 115 hHeld3 ?_
                  simp only [skipPut, skipList, pz0, pz1, pz2, pz3]
                  refine btake 54 (some 120) ?_ rfl hHeld3 (fun w' hw => ?_) ?_
                  rotate_left 1
                  · obtain ⟨c0, c1, c2, x0, x1, x2, x3, p0⟩ := hw.cells; go_simp; first | done | with_reducible rfl
                  try simp only [pz0, pz1, pz2, pz3]
                  refine wpAnyH_done (by kernel_rfl) ?_ _
                  have kbx := Lib.hid hHeld3.box.2
                  clear hHeld3
                  go_wp2
                  go_ret
                  exact ⟨by rw [kf.out]; rfl, kbx.out⟩
                | zero =>
                  rw [t5] at hc3
                  by_cases t6 : x.2.time < 0
                  · have kR := Lib.hid (show RHold w (.slice (some ⟨b, off, none⟩) l.length tc) clock room db (l.take 0) wr.heap.size (mk x.1) true x.2.time (.slice da 0 dc) ⟨b, off, none⟩ (some x.1) (wr.alloc (.cells #[.string (mk x.1), .bool true, .int .i64 x.2.time, .slice da 0 dc] 54 (0, 0))).drew from RHold.first kBk.out kDk.out hpl hpc)
                    go_wp2
                    refine wp_region_held_drew (by kernel_rfl) kR.out (fun hHeld => ?_)
                    clear kR
                    have d6 : decide (x.2.time < 0) = true := by simpa using t6
                    refine btake 0 (some 66) ?_ rfl hHeld (fun w' hw => ?_) ?_
                    rotate_left 1
                    · obtain ⟨c0, c1, c2, x0, x1, x2, x3, p0⟩ := hw.cells; go_simp; first | done | with_reducible rfl
                    try simp only [pz0, pz1, pz2, pz3]
                    refine btake 1 (some 67) ?_ rfl hHeld (fun w' hw => ?_) ?_
                    rotate_left 1
                    · obtain ⟨c0, c1, c2, x0, x1, x2, x3, p0⟩ := hw.cells; go_simp; first | done | with_reducible rfl
                    try simp only [pz0, pz1, pz2, pz3]
                    refine wpAnyH_all (rs := [2]) (by kernel_rfl) (by simp) (AllReadyH.cons rfl (fun K hK => ?_) AllReadyH.nil)
                    rw [if_pos (by rfl)]
                    go_simp
                    refine (hV.out _).mono ?_
                    rintro e w2 ⟨rfl, hb2⟩
                    go_wp2_with fail
                    refine hK.out _ _ (hHeld.below hb2) (fun hHeld2 => ?_)
                    clear hK K hHeld hb2
                    try simp only [pz0, pz1, pz2, pz3]
                    refine btake 3 (some 69) ?_ rfl hHeld2 (fun w' hw => ?_) ?_
                    rotate_left 1
                    · obtain ⟨c0, c1, c2, x0, x1, x2, x3, p0⟩ := hw.cells; go_simp; first | done | with_reducible rfl
                    try simp only [pz0, pz1, pz2, pz3]
                    refine btake 4 (some 70) ?_ rfl hHeld2 (fun w' hw => ?_) ?_
                    rotate_left 1
                    · obtain ⟨c0, c1, c2, x0, x1, x2, x3, p0⟩ := hw.cells; go_simp; first | done | with_reducible rfl
                    try simp only [pz0, pz1, pz2, pz3]
                    refine btake 5 (some 71) ?_ rfl hHeld2 (fun w' hw => ?_) ?_
                    rotate_left 1
                    · obtain ⟨c0, c1, c2, x0, x1, x2, x3, p0⟩ := hw.cells; go_simp; first | done | with_reducible rfl
                    try simp only [pz0, pz1, pz2, pz3]
                    refine btake 6 (some 72) ?_ rfl hHeld2 (fun w' hw => ?_) ?_
                    rotate_left 1
                    · obtain ⟨c0, c1, c2, x0, x1, x2, x3, p0⟩ := hw.cells; go_simp; first | done | with_reducible rfl
                    try simp only [pz0, pz1, pz2, pz3]
                    refine btake 7 (some 73) ?_ rfl hHeld2 (fun w' hw => ?_) ?_
                    rotate_left 1
                    · obtain ⟨c0, c1, c2, x0, x1, x2, x3, p0⟩ := hw.cells; go_simp; first | done | with_reducible rfl
                    try simp only [pz0, pz1, pz2, pz3]
                    refine btake 8 (some 74) ?_ rfl hHeld2 (fun w' hw => ?_) ?_
                    rotate_left 1
                    · obtain ⟨c0, c1, c2, x0, x1, x2, x3, p0⟩ := hw.cells; go_simp; first | done | with_reducible rfl
                    try simp only [pz0, pz1, pz2, pz3]
                    refine btake 9 (some 75) ?_ rfl hHeld2 (fun w' hw => ?_) ?_
                    rotate_left 1
                    · obtain ⟨c0, c1, c2, x0, x1, x2, x3, p0⟩ := hw.cells; go_simp; first | done | with_reducible rfl
                    try simp only [pz0, pz1, pz2, pz3]
                    refine btake 10 (some 76) ?_ rfl hHeld2 (fun w' hw => ?_) ?_
                    rotate_left 1
                    · obtain ⟨c0, c1, c2, x0, x1, x2, x3, p0⟩ := hw.cells; go_simp; first | done | with_reducible rfl
                    try simp only [pz0, pz1, pz2, pz3]
                    refine btake 11 (some 77) ?_ rfl hHeld2 (fun w' hw => ?_) ?_
                    rotate_left 1
                    · obtain ⟨c0, c1, c2, x0, x1, x2, x3, p0⟩ := hw.cells; go_simp; first | done | with_reducible rfl
                    try simp only [pz0, pz1, pz2, pz3]
                    refine btake 12 (some 78) ?_ rfl hHeld2 (fun w' hw => ?_) ?_
                    rotate_left 1
                    · obtain ⟨c0, c1, c2, x0, x1, x2, x3, p0⟩ := hw.cells; go_simp; first | done | with_reducible rfl
                    try simp only [pz0, pz1, pz2, pz3]
                    refine bskip 10 13 79 hHeld2 ?_
                    simp only [skipPut, skipList, pz0, pz1, pz2, pz3]
                    refine btake 23 (some 89) ?_ rfl hHeld2 (fun w' hw => ?_) ?_
                    rotate_left 1
                    · obtain ⟨c0, c1, c2, x0, x1, x2, x3, p0⟩ := hw.cells; go_simp; first | done | with_reducible rfl
                    try simp only [pz0, pz1, pz2, pz3]
                    refine btake 24 (some 90) ?_ rfl hHeld2 (fun w' hw => ?_) ?_
                    rotate_left 1
                    · obtain ⟨c0, c1, c2, x0, x1, x2, x3, p0⟩ := hw.cells; go_simp; first | done | with_reducible rfl
                    try simp only [pz0, pz1, pz2, pz3]
                    refine btake 25 (some 91) ?_ rfl hHeld2 (fun w' hw => ?_) ?_
                    rotate_left 1
                    · obtain ⟨c0, c1, c2, x0, x1, x2, x3, p0⟩ := hw.cells; go_simp; first | done | with_reducible rfl
                    try simp only [pz0, pz1, pz2, pz3]
                    refine btake 26 (some 92) ?_ rfl hHeld2 (fun w' hw => ?_) ?_
                    rotate_left 1
                    · obtain ⟨c0, c1, c2, x0, x1, x2, x3, p0⟩ := hw.cells; go_simp; first | done | with_reducible rfl
                    try simp only [pz0, pz1, pz2, pz3]
                    refine btake 27 (some 93) ?_ rfl hHeld2 (fun w' hw => ?_) ?_
                    rotate_left 1
                    · obtain ⟨c0, c1, c2, x0, x1, x2, x3, p0⟩ := hw.cells; go_simp; first | done | with_reducible rfl
                    try simp only [pz0, pz1, pz2, pz3]
                    refine btake 28 (some 94) ?_ rfl hHeld2 (fun w' hw => ?_) ?_
                    rotate_left 1
                    · obtain ⟨c0, c1, c2, x0, x1, x2, x3, p0⟩ := hw.cells; go_simp; first | done | with_reducible rfl
                    try simp only [pz0, pz1, pz2, pz3]
                    refine wpAnyH_all (rs := [29]) (by kernel_rfl) (by simp) (AllReadyH.cons rfl (fun K hK => ?_) AllReadyH.nil)
                    rw [if_pos (by rfl)]
                    go_simp
                    refine (hP.out _).mono ?_
                    rintro e w3 ⟨rfl, hb3⟩
                    go_wp2_with fail
                    refine hK.out _ _ (hHeld2.below hb3) (fun hHeld3 => ?_)
                    clear hK K hHeld2 hb3
                    try simp only [pz0, pz1, pz2, pz3]
                    refine btake 30 (some 96) (.int .i64 1) rfl hHeld3 (fun w' hw => ?_) ?_
                    · have hl := kD.out w' hw.dirs; simp [execOp, Act.eval, hl, Result.andThen]
                    try simp only [pz0, pz1, pz2, pz3]
                    refine btake 31 (some 97) ?_ rfl hHeld3 (fun w' hw => ?_) ?_
                    rotate_left 1
                    · obtain ⟨c0, c1, c2, x0, x1, x2, x3, p0⟩ := hw.cells; go_simp; first | done | with_reducible rfl
                    try simp only [pz0, pz1, pz2, pz3]
                    refine btake 32 (some 98) ?_ rfl hHeld3 (fun w' hw => ?_) ?_
                    rotate_left 1
                    · obtain ⟨c0, c1, c2, x0, x1, x2, x3, p0⟩ := hw.cells; go_simp; first | done | with_reducible rfl
                    try simp only [pz0, pz1, pz2, pz3]
                    refine btake 33 (some 99) ?_ rfl hHeld3 (fun w' hw => ?_) ?_
                    rotate_left 1
                    · obtain ⟨c0, c1, c2, x0, x1, x2, x3, p0⟩ := hw.cells; go_simp; first | done | with_reducible rfl
                    try simp only [pz0, pz1, pz2, pz3]
                    refine btake 34 (some 100) ?_ rfl hHeld3 (fun w' hw => ?_) ?_
                    rotate_left 1
                    · obtain ⟨c0, c1, c2, x0, x1, x2, x3, p0⟩ := hw.cells; go_simp; first | done | with_reducible rfl
                    try simp only [pz0, pz1, pz2, pz3]
                    refine btake 35 (some 101) ?_ rfl hHeld3 (fun w' hw => ?_) ?_
                    rotate_left 1
                    · obtain ⟨c0, c1, c2, x0, x1, x2, x3, p0⟩ := hw.cells; go_simp; first | done | with_reducible rfl
                    try simp only [pz0, pz1, pz2, pz3]
                    refine btake 36 (some 102) ?_ rfl hHeld3 (fun w' hw => ?_) ?_
                    rotate_left 1
                    · obtain ⟨c0, c1, c2, x0, x1, x2, x3, p0⟩ := hw.cells; go_simp; first | done | with_reducible rfl
                    try simp only [pz0, pz1, pz2, pz3]
                    refine btake 37 (some 103) ?_ rfl hHeld3 (fun w' hw => ?_) ?_
                    rotate_left 1
                    · obtain ⟨c0, c1, c2, x0, x1, x2, x3, p0⟩ := hw.cells; go_simp; first | done | with_reducible rfl
                    try simp only [pz0, pz1, pz2, pz3]
                    refine btake 38 (some 104) ?_ rfl hHeld3 (fun w' hw => ?_) ?_
                    rotate_left 1
                    · obtain ⟨c0, c1, c2, x0, x1, x2, x3, p0⟩ := hw.cells; go_simp; first | done | with_reducible rfl
                    try simp only [pz0, pz1, pz2, pz3]
                    refine btake 39 (some 105) ?_ rfl hHeld3 (fun w' hw => ?_) ?_
                    rotate_left 1
                    · obtain ⟨c0, c1, c2, x0, x1, x2, x3, p0⟩ := hw.cells; go_simp; first | done | with_reducible rfl
                    try simp only [pz0, pz1, pz2, pz3]
                    refine btake 40 (some 106) ?_ rfl hHeld3 (fun w' hw => ?_) ?_
                    rotate_left 1
                    · obtain ⟨c0, c1, c2, x0, x1, x2, x3, p0⟩ := hw.cells; go_simp; first | done | with_reducible rfl
                    try simp only [pz0, pz1, pz2, pz3]
                    refine btake 41 (some 107) ?_ rfl hHeld3 (fun w' hw => ?_) ?_
                    rotate_left 1
                    · obtain ⟨c0, c1, c2, x0, x1, x2, x3, p0⟩ := hw.cells; go_simp; first | done | with_reducible rfl
                    try simp only [pz0, pz1, pz2, pz3]
                    refine btake 42 (some 108) ?_ rfl hHeld3 (fun w' hw => ?_) ?_
                    rotate_left 1
                    · obtain ⟨c0, c1, c2, x0, x1, x2, x3, p0⟩ := hw.cells; go_simp; first | done | with_reducible rfl
                    try simp only [pz0, pz1, pz2, pz3]
                    refine btake 43 (some 109) ?_ rfl hHeld3 (fun w' hw => ?_) ?_
                    rotate_left 1
                    · obtain ⟨c0, c1, c2, x0, x1, x2, x3, p0⟩ := hw.cells; go_simp; first | done | with_reducible rfl
                    try simp only [pz0, pz1, pz2, pz3]
                    refine btake 44 (some 110) ?_ rfl hHeld3 (fun w' hw => ?_) ?_
                    rotate_left 1
                    · obtain ⟨c0, c1, c2, x0, x1, x2, x3, p0⟩ := hw.cells; go_simp; first | done | with_reducible rfl
                    try simp only [pz0, pz1, pz2, pz3]
                    refine btake 45 (some 111) ?_ rfl hHeld3 (fun w' hw => ?_) ?_
                    rotate_left 1
                    · obtain ⟨c0, c1, c2, x0, x1, x2, x3, p0⟩ := hw.cells; go_simp; first | done | with_reducible rfl
                    try simp only [pz0, pz1, pz2, pz3]
                    refine btake 46 (some 112) ?_ rfl hHeld3 (fun w' hw => ?_) ?_
                    rotate_left 1
                    · obtain ⟨c0, c1, c2, x0, x1, x2, x3, p0⟩ := hw.cells; go_simp; first | done | with_reducible rfl
                    try simp only [pz0, pz1, pz2, pz3]
                    refine btake 47 (some 113) ?_ rfl hHeld3 (fun w' hw => ?_) ?_
                    rotate_left 1
                    · obtain ⟨c0, c1, c2, x0, x1, x2, x3, p0⟩ := hw.cells; go_simp; first | done | with_reducible rfl
                    try simp only [pz0, pz1, pz2, pz3]
                    refine btake 48 (some 114) ?_ rfl hHeld3 (fun w' hw => ?_) ?_
                    rotate_left 1
                    · obtain ⟨c0, c1, c2, x0, x1, x2, x3, p0⟩ := hw.cells; go_simp; first | done | with_reducible rfl
                    try simp only [pz0, pz1, pz2, pz3]
                    refine bskip 5 49 115 hHeld3 ?_
                    simp only [skipPut, skipList, pz0, pz1, pz2, pz3]
                    refine btake 54 (some 120) ?_ rfl hHeld3 (fun w' hw => ?_) ?_
                    rotate_left 1
                    · obtain ⟨c0, c1, c2, x0, x1, x2, x3, p0⟩ := hw.cells; go_simp; first | done | with_reducible rfl
                    try simp only [pz0, pz1, pz2, pz3]
                    refine wpAnyH_done (by kernel_rfl) ?_ _
                    have kbx := Lib.hid hHeld3.box.2
                    clear hHeld3
                    go_wp2
                    go_ret
                    exact ⟨by rw [kf.out]; rfl, kbx.out⟩
                  · by_cases t7 : clock < x.2.time
                    · have kR := Lib.hid (show RHold w (.slice (some ⟨b, off, none⟩) l.length tc) clock room db (l.take 0) wr.heap.size (mk x.1) true x.2.time (.slice da 0 dc) ⟨b, off, none⟩ (some x.1) (wr.alloc (.cells #[.string (mk x.1), .bool true, .int .i64 x.2.time, .slice da 0 dc] 54 (0, 0))).drew from RHold.first kBk.out kDk.out hpl hpc)
                      go_wp2
                      refine wp_region_held_drew (by kernel_rfl) kR.out (fun hHeld => ?_)
                      clear kR
                      have d6 : decide (x.2.time < 0) = false := by simpa using t6
                      have d7 : decide (clock < x.2.time) = true := by simpa using t7
                      refine btake 0 (some 66) ?_ rfl hHeld (fun w' hw => ?_) ?_
                      rotate_left 1
                      · obtain ⟨c0, c1, c2, x0, x1, x2, x3, p0⟩ := hw.cells; go_simp; first | done | with_reducible rfl
                      try simp only [pz0, pz1, pz2, pz3]
                      refine btake 1 (some 67) ?_ rfl hHeld (fun w' hw => ?_) ?_
                      rotate_left 1
                      · obtain ⟨c0, c1, c2, x0, x1, x2, x3, p0⟩ := hw.cells; go_simp; first | done | with_reducible rfl
                      try simp only [pz0, pz1, pz2, pz3]
                      refine wpAnyH_all (rs := [2]) (by kernel_rfl) (by simp) (AllReadyH.cons rfl (fun K hK => ?_) AllReadyH.nil)
                      rw [if_pos (by rfl)]
                      go_simp
                      refine (hV.out _).mono ?_
                      rintro e w2 ⟨rfl, hb2⟩
                      go_wp2_with fail
                      refine hK.out _ _ (hHeld.below hb2) (fun hHeld2 => ?_)
                      clear hK K hHeld hb2
                      try simp only [pz0, pz1, pz2, pz3]
                      refine btake 3 (some 69) ?_ rfl hHeld2 (fun w' hw => ?_) ?_
                      rotate_left 1
                      · obtain ⟨c0, c1, c2, x0, x1, x2, x3, p0⟩ := hw.cells; go_simp; first | done | with_reducible rfl
                      try simp only [pz0, pz1, pz2, pz3]
                      refine btake 4 (some 70) ?_ rfl hHeld2 (fun w' hw => ?_) ?_
                      rotate_left 1
                      · obtain ⟨c0, c1, c2, x0, x1, x2, x3, p0⟩ := hw.cells; go_simp; first | done | with_reducible rfl
                      try simp only [pz0, pz1, pz2, pz3]
                      refine btake 5 (some 71) ?_ rfl hHeld2 (fun w' hw => ?_) ?_
                      rotate_left 1
                      · obtain ⟨c0, c1, c2, x0, x1, x2, x3, p0⟩ := hw.cells; go_simp; first | done | with_reducible rfl
                      try simp only [pz0, pz1, pz2, pz3]
                      refine btake 6 (some 72) ?_ rfl hHeld2 (fun w' hw => ?_) ?_
                      rotate_left 1
                      · obtain ⟨c0, c1, c2, x0, x1, x2, x3, p0⟩ := hw.cells; go_simp; first | done | with_reducible rfl
                      try simp only [pz0, pz1, pz2, pz3]
                      refine btake 7 (some 73) ?_ rfl hHeld2 (fun w' hw => ?_) ?_
                      rotate_left 1
                      · obtain ⟨c0, c1, c2, x0, x1, x2, x3, p0⟩ := hw.cells; go_simp; first | done | with_reducible rfl
                      try simp only [pz0, pz1, pz2, pz3]
                      refine btake 8 (some 74) ?_ rfl hHeld2 (fun w' hw => ?_) ?_
                      rotate_left 1
                      · obtain ⟨c0, c1, c2, x0, x1, x2, x3, p0⟩ := hw.cells; go_simp; first | done | with_reducible rfl
                      try simp only [pz0, pz1, pz2, pz3]
                      refine btake 9 (some 75) ?_ rfl hHeld2 (fun w' hw => ?_) ?_
                      rotate_left 1
                      · obtain ⟨c0, c1, c2, x0, x1, x2, x3, p0⟩ := hw.cells; go_simp; first | done | with_reducible rfl
                      try simp only [pz0, pz1, pz2, pz3]
                      refine btake 10 (some 76) ?_ rfl hHeld2 (fun w' hw => ?_) ?_
                      rotate_left 1
                      · obtain ⟨c0, c1, c2, x0, x1, x2, x3, p0⟩ := hw.cells; go_simp; first | done | with_reducible rfl
                      try simp only [pz0, pz1, pz2, pz3]
                      refine btake 11 (some 77) ?_ rfl hHeld2 (fun w' hw => ?_) ?_
                      rotate_left 1
                      · obtain ⟨c0, c1, c2, x0, x1, x2, x3, p0⟩ := hw.cells; go_simp; first | done | with_reducible rfl
                      try simp only [pz0, pz1, pz2, pz3]
                      refine btake 12 (some 78) ?_ rfl hHeld2 (fun w' hw => ?_) ?_
                      rotate_left 1
                      · obtain ⟨c0, c1, c2, x0, x1, x2, x3, p0⟩ := hw.cells; go_simp; first | done | with_reducible rfl
                      try simp only [pz0, pz1, pz2, pz3]
                      refine bskip 10 13 79 hHeld2 ?_
                      simp only [skipPut, skipList, pz0, pz1, pz2, pz3]
                      refine btake 23 (some 89) ?_ rfl hHeld2 (fun w' hw => ?_) ?_
                      rotate_left 1
                      · obtain ⟨c0, c1, c2, x0, x1, x2, x3, p0⟩ := hw.cells; go_simp; first | done | with_reducible rfl
                      try simp only [pz0, pz1, pz2, pz3]
                      refine btake 24 (some 90) ?_ rfl hHeld2 (fun w' hw => ?_) ?_
                      rotate_left 1
                      · obtain ⟨c0, c1, c2, x0, x1, x2, x3, p0⟩ := hw.cells; go_simp; first | done | with_reducible rfl
                      try simp only [pz0, pz1, pz2, pz3]
                      refine btake 25 (some 91) ?_ rfl hHeld2 (fun w' hw => ?_) ?_
                      rotate_left 1
                      · obtain ⟨c0, c1, c2, x0, x1, x2, x3, p0⟩ := hw.cells; go_simp; first | done | with_reducible rfl
                      try simp only [pz0, pz1, pz2, pz3]
                      refine btake 26 (some 92) ?_ rfl hHeld2 (fun w' hw => ?_) ?_
                      rotate_left 1
                      · obtain ⟨c0, c1, c2, x0, x1, x2, x3, p0⟩ := hw.cells; go_simp; first | done | with_reducible rfl
                      try simp only [pz0, pz1, pz2, pz3]
                      refine btake 27 (some 93) ?_ rfl hHeld2 (fun w' hw => ?_) ?_
                      rotate_left 1
                      · obtain ⟨c0, c1, c2, x0, x1, x2, x3, p0⟩ := hw.cells; go_simp; first | done | with_reducible rfl
                      try simp only [pz0, pz1, pz2, pz3]
                      refine btake 28 (some 94) ?_ rfl hHeld2 (fun w' hw => ?_) ?_
                      rotate_left 1
                      · obtain ⟨c0, c1, c2, x0, x1, x2, x3, p0⟩ := hw.cells; go_simp; first | done | with_reducible rfl
                      try simp only [pz0, pz1, pz2, pz3]
                      refine wpAnyH_all (rs := [29]) (by kernel_rfl) (by simp) (AllReadyH.cons rfl (fun K hK => ?_) AllReadyH.nil)
                      rw [if_pos (by rfl)]
                      go_simp
                      refine (hP.out _).mono ?_
                      rintro e w3 ⟨rfl, hb3⟩
                      go_wp2_with fail
                      refine hK.out _ _ (hHeld2.below hb3) (fun hHeld3 => ?_)
                      clear hK K hHeld2 hb3
                      try simp only [pz0, pz1, pz2, pz3]
                      refine btake 30 (some 96) (.int .i64 1) rfl hHeld3 (fun w' hw => ?_) ?_
                      · have hl := kD.out w' hw.dirs; simp [execOp, Act.eval, hl, Result.andThen]
                      try simp only [pz0, pz1, pz2, pz3]
                      refine btake 31 (some 97) ?_ rfl hHeld3 (fun w' hw => ?_) ?_
                      rotate_left 1
                      · obtain ⟨c0, c1, c2, x0, x1, x2, x3, p0⟩ := hw.cells; go_simp; first | done | with_reducible rfl
                      try simp only [pz0, pz1, pz2, pz3]
                      refine btake 32 (some 98) ?_ rfl hHeld3 (fun w' hw => ?_) ?_
                      rotate_left 1
                      · obtain ⟨c0, c1, c2, x0, x1, x2, x3, p0⟩ := hw.cells; go_simp; first | done | with_reducible rfl
                      try simp only [pz0, pz1, pz2, pz3]
                      refine btake 33 (some 99) ?_ rfl hHeld3 (fun w' hw => ?_) ?_
                      rotate_left 1
                      · obtain ⟨c0, c1, c2, x0, x1, x2, x3, p0⟩ := hw.cells; go_simp; first | done | with_reducible rfl
                      try simp only [pz0, pz1, pz2, pz3]
                      refine btake 34 (some 100) ?_ rfl hHeld3 (fun w' hw => ?_) ?_
                      rotate_left 1
                      · obtain ⟨c0, c1, c2, x0, x1, x2, x3, p0⟩ := hw.cells; go_simp; first | done | with_reducible rfl
                      try simp only [pz0, pz1, pz2, pz3]
                      refine btake 35 (some 101) ?_ rfl hHeld3 (fun w' hw => ?_) ?_
                      rotate_left 1
                      · obtain ⟨c0, c1, c2, x0, x1, x2, x3, p0⟩ := hw.cells; go_simp; first | done | with_reducible rfl
                      try simp only [pz0, pz1, pz2, pz3]
                      refine btake 36 (some 102) ?_ rfl hHeld3 (fun w' hw => ?_) ?_
                      rotate_left 1
                      · obtain ⟨c0, c1, c2, x0, x1, x2, x3, p0⟩ := hw.cells; go_simp; first | done | with_reducible rfl
                      try simp only [pz0, pz1, pz2, pz3]
                      refine btake 37 (some 103) ?_ rfl hHeld3 (fun w' hw => ?_) ?_
                      rotate_left 1
                      · obtain ⟨c0, c1, c2, x0, x1, x2, x3, p0⟩ := hw.cells; go_simp; first | done | with_reducible rfl
                      try simp only [pz0, pz1, pz2, pz3]
                      refine btake 38 (some 104) ?_ rfl hHeld3 (fun w' hw => ?_) ?_
                      rotate_left 1
                      · obtain ⟨c0, c1, c2, x0, x1, x2, x3, p0⟩ := hw.cells; go_simp; first | done | with_reducible rfl
                      try simp only [pz0, pz1, pz2, pz3]
                      refine btake 39 (some 105) ?_ rfl hHeld3 (fun w' hw => ?_) ?_
                      rotate_left 1
                      · obtain ⟨c0, c1, c2, x0, x1, x2, x3, p0⟩ := hw.cells; go_simp; first | done | with_reducible rfl
                      try simp only [pz0, pz1, pz2, pz3]
                      refine btake 40 (some 106) ?_ rfl hHeld3 (fun w' hw => ?_) ?_
                      rotate_left 1
                      · obtain ⟨c0, c1, c2, x0, x1, x2, x3, p0⟩ := hw.cells; go_simp; first | done | with_reducible rfl
                      try simp only [pz0, pz1, pz2, pz3]
                      refine btake 41 (some 107) ?_ rfl hHeld3 (fun w' hw => ?_) ?_
                      rotate_left 1
                      · obtain ⟨c0, c1, c2, x0, x1, x2, x3, p0⟩ := hw.cells; go_simp; first | done | with_reducible rfl
                      try simp only [pz0, pz1, pz2, pz3]
                      refine btake 42 (some 108) ?_ rfl hHeld3 (fun w' hw => ?_) ?_
                      rotate_left 1
                      · obtain ⟨c0, c1, c2, x0, x1, x2, x3, p0⟩ := hw.cells; go_simp; first | done | with_reducible rfl
                      try simp only [pz0, pz1, pz2, pz3]
                      refine btake 43 (some 109) ?_ rfl hHeld3 (fun w' hw => ?_) ?_
                      rotate_left 1
                      · obtain ⟨c0, c1, c2, x0, x1, x2, x3, p0⟩ := hw.cells; go_simp; first | done | with_reducible rfl
                      try simp only [pz0, pz1, pz2, pz3]
                      refine btake 44 (some 110) ?_ rfl hHeld3 (fun w' hw => ?_) ?_
                      rotate_left 1
                      · obtain ⟨c0, c1, c2, x0, x1, x2, x3, p0⟩ := hw.cells; go_simp; first | done | with_reducible rfl
                      try simp only [pz0, pz1, pz2, pz3]
                      refine btake 45 (some 111) ?_ rfl hHeld3 (fun w' hw => ?_) ?_
                      rotate_left 1
                      · obtain ⟨c0, c1, c2, x0, x1, x2, x3, p0⟩ := hw.cells; go_simp; first | done | with_reducible rfl
                      try simp only [pz0, pz1, pz2, pz3]
                      refine btake 46 (some 112) ?_ rfl hHeld3 (fun w' hw => ?_) ?_
                      rotate_left 1
                      · obtain ⟨c0, c1, c2, x0, x1, x2, x3, p0⟩ := hw.cells; go_simp; first | done | with_reducible rfl
                      try simp only [pz0, pz1, pz2, pz3]
                      refine btake 47 (some 113) ?_ rfl hHeld3 (fun w' hw => ?_) ?_
                      rotate_left 1
                      · obtain ⟨c0, c1, c2, x0, x1, x2, x3, p0⟩ := hw.cells; go_simp; first | done | with_reducible rfl
                      try simp only [pz0, pz1, pz2, pz3]
                      refine btake 48 (some 114) ?_ rfl hHeld3 (fun w' hw => ?_) ?_
                      rotate_left 1
                      · obtain ⟨c0, c1, c2, x0, x1, x2, x3, p0⟩ := hw.cells; go_simp; first | done | with_reducible rfl
                      try simp only [pz0, pz1, pz2, pz3]
                      refine btake 49 (some 115) ?_ rfl hHeld3 (fun w' hw => ?_) ?_
                      rotate_left 1
                      · obtain ⟨c0, c1, c2, x0, x1, x2, x3, p0⟩ := hw.cells; go_simp; first | done | with_reducible rfl
                      try simp only [pz0, pz1, pz2, pz3]
                      refine btake 50 (some 116) ?_ rfl hHeld3 (fun w' hw => ?_) ?_
                      rotate_left 1
                      · obtain ⟨c0, c1, c2, x0, x1, x2, x3, p0⟩ := hw.cells; go_simp; first | done | with_reducible rfl
                      try simp only [pz0, pz1, pz2, pz3]
                      refine btake 51 (some 117) ?_ rfl hHeld3 (fun w' hw => ?_) ?_
                      rotate_left 1
                      · obtain ⟨c0, c1, c2, x0, x1, x2, x3, p0⟩ := hw.cells; go_simp; first | done | with_reducible rfl
                      try simp only [pz0, pz1, pz2, pz3]
                      refine btake 52 (some 118) ?_ rfl hHeld3 (fun w' hw => ?_) ?_
                      rotate_left 1
                      · obtain ⟨c0, c1, c2, x0, x1, x2, x3, p0⟩ := hw.cells; go_simp; first | done | with_reducible rfl
                      try simp only [pz0, pz1, pz2, pz3]
                      refine btake 53 (some 119) ?_ rfl hHeld3 (fun w' hw => ?_) ?_
                      rotate_left 1
                      · obtain ⟨c0, c1, c2, x0, x1, x2, x3, p0⟩ := hw.cells; go_simp; first | done | with_reducible rfl
                      try simp only [pz0, pz1, pz2, pz3]
                      refine btake 54 (some 120) ?_ rfl hHeld3 (fun w' hw => ?_) ?_
                      rotate_left 1
                      · obtain ⟨c0, c1, c2, x0, x1, x2, x3, p0⟩ := hw.cells; go_simp; first | done | with_reducible rfl
                      try simp only [pz0, pz1, pz2, pz3]
                      refine wpAnyH_done (by kernel_rfl) ?_ _
                      have kbx := Lib.hid hHeld3.box.2
                      clear hHeld3
                      go_wp2
                      go_ret
                      exact ⟨by rw [kf.out]; rfl, kbx.out⟩
                    · exact absurd (okNode_of (clock := clock) t1 t2 kt3.out kt4.out (fun _ => t5) (by omega) (by omega)) (by rw [kno.out]; simp)
              | false =>
                by_cases t6 : x.2.time < 0
                · have kR := Lib.hid (show RHold w (.slice (some ⟨b, off, none⟩) l.length tc) clock room db (l.take 0) wr.heap.size (mk x.1) false x.2.time (.slice da x.2.data.length dc) ⟨b, off, none⟩ (some x.1) (wr.alloc (.cells #[.string (mk x.1), .bool false, .int .i64 x.2.time, .slice da x.2.data.length dc] 54 (0, 0))).drew from RHold.first kBk.out kDk.out hpl hpc)
                  go_wp2
                  refine wp_region_held_drew (by kernel_rfl) kR.out (fun hHeld => ?_)
                  clear kR
                  have d6 : decide (x.2.time < 0) = true := by simpa using t6
                  refine btake 0 (some 66) ?_ rfl hHeld (fun w' hw => ?_) ?_
                  rotate_left 1
                  · obtain ⟨c0, c1, c2, x0, x1, x2, x3, p0⟩ := hw.cells; go_simp; first | done | with_reducible rfl
                  try simp only [pz0, pz1, pz2, pz3]
                  refine btake 1 (some 67) ?_ rfl hHeld (fun w' hw => ?_) ?_
                  rotate_left 1
                  · obtain ⟨c0, c1, c2, x0, x1, x2, x3, p0⟩ := hw.cells; go_simp; first | done | with_reducible rfl
                  try simp only [pz0, pz1, pz2, pz3]
                  refine wpAnyH_all (rs := [2]) (by kernel_rfl) (by simp) (AllReadyH.cons rfl (fun K hK => ?_) AllReadyH.nil)
                  rw [if_pos (by rfl)]
                  go_simp
                  refine (hV.out _).mono ?_
                  rintro e w2 ⟨rfl, hb2⟩
                  go_wp2_with fail
                  refine hK.out _ _ (hHeld.below hb2) (fun hHeld2 => ?_)
                  clear hK K hHeld hb2
                  try simp only [pz0, pz1, pz2, pz3]
                  refine btake 3 (some 69) ?_ rfl hHeld2 (fun w' hw => ?_) ?_
                  rotate_left 1
                  · obtain ⟨c0, c1, c2, x0, x1, x2, x3, p0⟩ := hw.cells; go_simp; first | done | with_reducible rfl
                  try simp only [pz0, pz1, pz2, pz3]
                  refine btake 4 (some 70) ?_ rfl hHeld2 (fun w' hw => ?_) ?_
                  rotate_left 1
                  · obtain ⟨c0, c1, c2, x0, x1, x2, x3, p0⟩ := hw.cells; go_simp; first | done | with_reducible rfl
                  try simp only [pz0, pz1, pz2, pz3]
                  refine btake 5 (some 71) ?_ rfl hHeld2 (fun w' hw => ?_) ?_
                  rotate_left 1
                  · obtain ⟨c0, c1, c2, x0, x1, x2, x3, p0⟩ := hw.cells; go_simp; first | done | with_reducible rfl
                  try simp only [pz0, pz1, pz2, pz3]
                  refine btake 6 (some 72) ?_ rfl hHeld2 (fun w' hw => ?_) ?_
                  rotate_left 1
                  · obtain ⟨c0, c1, c2, x0, x1, x2, x3, p0⟩ := hw.cells; go_simp; first | done | with_reducible rfl
                  try simp only [pz0, pz1, pz2, pz3]
                  refine btake 7 (some 73) ?_ rfl hHeld2 (fun w' hw => ?_) ?_
                  rotate_left 1
                  · obtain ⟨c0, c1, c2, x0, x1, x2, x3, p0⟩ := hw.cells; go_simp; first | done | with_reducible rfl
                  try simp only [pz0, pz1, pz2, pz3]
                  refine btake 8 (some 74) ?_ rfl hHeld2 (fun w' hw => ?_) ?_
                  rotate_left 1
                  · obtain ⟨c0, c1, c2, x0, x1, x2, x3, p0⟩ := hw.cells; go_simp; first | done | with_reducible rfl
                  try simp only [pz0, pz1, pz2, pz3]
                  refine btake 9 (some 75) ?_ rfl hHeld2 (fun w' hw => ?_) ?_
                  rotate_left 1
                  · obtain ⟨c0, c1, c2, x0, x1, x2, x3, p0⟩ := hw.cells; go_simp; first | done | with_reducible rfl
                  try simp only [pz0, pz1, pz2, pz3]
                  refine btake 10 (some 76) ?_ rfl hHeld2 (fun w' hw => ?_) ?_
                  rotate_left 1
                  · obtain ⟨c0, c1, c2, x0, x1, x2, x3, p0⟩ := hw.cells; go_simp; first | done | with_reducible rfl
                  try simp only [pz0, pz1, pz2, pz3]
                  refine btake 11 (some 77) ?_ rfl hHeld2 (fun w' hw => ?_) ?_
                  rotate_left 1
                  · obtain ⟨c0, c1, c2, x0, x1, x2, x3, p0⟩ := hw.cells; go_simp; first | done | with_reducible rfl
                  try simp only [pz0, pz1, pz2, pz3]
                  refine btake 12 (some 78) ?_ rfl hHeld2 (fun w' hw => ?_) ?_
                  rotate_left 1
                  · obtain ⟨c0, c1, c2, x0, x1, x2, x3, p0⟩ := hw.cells; go_simp; first | done | with_reducible rfl
                  try simp only [pz0, pz1, pz2, pz3]
                  refine bskip 10 13 79 hHeld2 ?_
                  simp only [skipPut, skipList, pz0, pz1, pz2, pz3]
                  refine btake 23 (some 89) ?_ rfl hHeld2 (fun w' hw => ?_) ?_
                  rotate_left 1
                  · obtain ⟨c0, c1, c2, x0, x1, x2, x3, p0⟩ := hw.cells; go_simp; first | done | with_reducible rfl
                  try simp only [pz0, pz1, pz2, pz3]
                  refine btake 24 (some 90) ?_ rfl hHeld2 (fun w' hw => ?_) ?_
                  rotate_left 1
                  · obtain ⟨c0, c1, c2, x0, x1, x2, x3, p0⟩ := hw.cells; go_simp; first | done | with_reducible rfl
                  try simp only [pz0, pz1, pz2, pz3]
                  refine btake 25 (some 91) ?_ rfl hHeld2 (fun w' hw => ?_) ?_
                  rotate_left 1
                  · obtain ⟨c0, c1, c2, x0, x1, x2, x3, p0⟩ := hw.cells; go_simp; first | done | with_reducible rfl
                  try simp only [pz0, pz1, pz2, pz3]
                  refine btake 26 (some 92) ?_ rfl hHeld2 (fun w' hw => ?_) ?_
                  rotate_left 1
                  · obtain ⟨c0, c1, c2, x0, x1, x2, x3, p0⟩ := hw.cells; go_simp; first | done | with_reducible rfl
                  try simp only [pz0, pz1, pz2, pz3]
                  refine btake 27 (some 93) ?_ rfl hHeld2 (fun w' hw => ?_) ?_
                  rotate_left 1
                  · obtain ⟨c0, c1, c2, x0, x1, x2, x3, p0⟩ := hw.cells; go_simp; first | done | with_reducible rfl
                  try simp only [pz0, pz1, pz2, pz3]
                  refine btake 28 (some 94) ?_ rfl hHeld2 (fun w' hw => ?_) ?_
                  rotate_left 1
                  · obtain ⟨c0, c1, c2, x0, x1, x2, x3, p0⟩ := hw.cells; go_simp; first | done | with_reducible rfl
                  try simp only [pz0, pz1, pz2, pz3]
                  refine wpAnyH_all (rs := [29]) (by kernel_rfl) (by simp) (AllReadyH.cons rfl (fun K hK => ?_) AllReadyH.nil)
                  rw [if_pos (by rfl)]
                  go_simp
                  refine (hP.out _).mono ?_
                  rintro e w3 ⟨rfl, hb3⟩
                  go_wp2_with fail
                  refine hK.out _ _ (hHeld2.below hb3) (fun hHeld3 => ?_)
                  clear hK K hHeld2 hb3
                  try simp only [pz0, pz1, pz2, pz3]
                  refine btake 30 (some 96) (.int .i64 1) rfl hHeld3 (fun w' hw => ?_) ?_
                  · have hl := kD.out w' hw.dirs; simp [execOp, Act.eval, hl, Result.andThen]
                  try simp only [pz0, pz1, pz2, pz3]
                  refine btake 31 (some 97) ?_ rfl hHeld3 (fun w' hw => ?_) ?_
                  rotate_left 1
                  · obtain ⟨c0, c1, c2, x0, x1, x2, x3, p0⟩ := hw.cells; go_simp; first | done | with_reducible rfl
                  try simp only [pz0, pz1, pz2, pz3]
                  refine btake 32 (some 98) ?_ rfl hHeld3 (fun w' hw => ?_) ?_
                  rotate_left 1
                  · obtain ⟨c0, c1, c2, x0, x1, x2, x3, p0⟩ := hw.cells; go_simp; first | done | with_reducible rfl
                  try simp only [pz0, pz1, pz2, pz3]
                  refine btake 33 (some 99) ?_ rfl hHeld3 (fun w' hw => ?_) ?_
                  rotate_left 1
                  · obtain ⟨c0, c1, c2, x0, x1, x2, x3, p0⟩ := hw.cells; go_simp; first | done | with_reducible rfl
                  try simp only [pz0, pz1, pz2, pz3]
                  refine btake 34 (some 100) ?_ rfl hHeld3 (fun w' hw => ?_) ?_
                  rotate_left 1
                  · obtain ⟨c0, c1, c2, x0, x1, x2, x3, p0⟩ := hw.cells; go_simp; first | done | with_reducible rfl
                  try simp only [pz0, pz1, pz2, pz3]
                  refine btake 35 (some 101) ?_ rfl hHeld3 (fun w' hw => ?_) ?_
                  rotate_left 1
                  · obtain ⟨c0, c1, c2, x0, x1, x2, x3, p0⟩ := hw.cells; go_simp; first | done | with_reducible rfl
                  try simp only [pz0, pz1, pz2, pz3]
                  refine btake 36 (some 102) ?_ rfl hHeld3 (fun w' hw => ?_) ?_
                  rotate_left 1
                  · obtain ⟨c0, c1, c2, x0, x1, x2, x3, p0⟩ := hw.cells; go_simp; first | done | with_reducible rfl
                  try simp only [pz0, pz1, pz2, pz3]
                  refine bskip 4 37 103 hHeld3 ?_
                  simp only [skipPut, skipList, pz0, pz1, pz2, pz3]
                  refine btake 41 (some 107) ?_ rfl hHeld3 (fun w' hw => ?_) ?_
                  rotate_left 1
                  · obtain ⟨c0, c1, c2, x0, x1, x2, x3, p0⟩ := hw.cells; go_simp; first | done | with_reducible rfl
                  try simp only [pz0, pz1, pz2, pz3]
                  refine btake 42 (some 108) ?_ rfl hHeld3 (fun w' hw => ?_) ?_
                  rotate_left 1
                  · obtain ⟨c0, c1, c2, x0, x1, x2, x3, p0⟩ := hw.cells; go_simp; first | done | with_reducible rfl
                  try simp only [pz0, pz1, pz2, pz3]
                  refine btake 43 (some 109) ?_ rfl hHeld3 (fun w' hw => ?_) ?_
                  rotate_left 1
                  · obtain ⟨c0, c1, c2, x0, x1, x2, x3, p0⟩ := hw.cells; go_simp; first | done | with_reducible rfl
                  try simp only [pz0, pz1, pz2, pz3]
                  refine btake 44 (some 110) ?_ rfl hHeld3 (fun w' hw => ?_) ?_
                  rotate_left 1
                  · obtain ⟨c0, c1, c2, x0, x1, x2, x3, p0⟩ := hw.cells; go_simp; first | done | with_reducible rfl
                  try simp only [pz0, pz1, pz2, pz3]
                  refine btake 45 (some 111) ?_ rfl hHeld3 (fun w' hw => ?_) ?_
                  rotate_left 1
                  · obtain ⟨c0, c1, c2, x0, x1, x2, x3, p0⟩ := hw.cells; go_simp; first | done | with_reducible rfl
                  try simp only [pz0, pz1, pz2, pz3]
                  refine btake 46 (some 112) ?_ rfl hHeld3 (fun w' hw => ?_) ?_
                  rotate_left 1
                  · obtain ⟨c0, c1, c2, x0, x1, x2, x3, p0⟩ := hw.cells; go_simp; first | done | with_reducible rfl
                  try simp only [pz0, pz1, pz2, pz3]
                  refine btake 47 (some 113) ?_ rfl hHeld3 (fun w' hw => ?_) ?_
                  rotate_left 1
                  · obtain ⟨c0, c1, c2, x0, x1, x2, x3, p0⟩ := hw.cells; go_simp; first | done | with_reducible rfl
                  try simp only [pz0, pz1, pz2, pz3]
                  refine btake 48 (some 114) ?_ rfl hHeld3 (fun w' hw => ?_) ?_
                  rotate_left 1
                  · obtain ⟨c0, c1, c2, x0, x1, x2, x3, p0⟩ := hw.cells; go_simp; first | done | with_reducible rfl
                  try simp only [pz0, pz1, pz2, pz3]
                  refine bskip 5 49 115 hHeld3 ?_
                  simp only [skipPut, skipList, pz0, pz1, pz2, pz3]
                  refine btake 54 (some 120) ?_ rfl hHeld3 (fun w' hw => ?_) ?_
                  rotate_left 1
                  · obtain ⟨c0, c1, c2, x0, x1, x2, x3, p0⟩ := hw.cells; go_simp; first | done | with_reducible rfl
                  try simp only [pz0, pz1, pz2, pz3]
                  refine wpAnyH_done (by kernel_rfl) ?_ _
                  have kbx := Lib.hid hHeld3.box.2
                  clear hHeld3
                  go_wp2
                  go_ret
                  exact ⟨by rw [kf.out]; rfl, kbx.out⟩
                · by_cases t7 : clock < x.2.time
                  · have kR := Lib.hid (show RHold w (.slice (some ⟨b, off, none⟩) l.length tc) clock room db (l.take 0) wr.heap.size (mk x.1) false x.2.time (.slice da x.2.data.length dc) ⟨b, off, none⟩ (some x.1) (wr.alloc (.cells #[.string (mk x.1), .bool false, .int .i64 x.2.time, .slice da x.2.data.length dc] 54 (0, 0))).drew from RHold.first kBk.out kDk.out hpl hpc)
                    go_wp2
                    refine wp_region_held_drew (by kernel_rfl) kR.out (fun hHeld => ?_)
                    clear kR
                    have d6 : decide (x.2.time < 0) = false := by simpa using t6
                    have d7 : decide (clock < x.2.time) = true := by simpa using t7
                    refine btake 0 (some 66) ?_ rfl hHeld (fun w' hw => ?_) ?_
                    rotate_left 1
                    · obtain ⟨c0, c1, c2, x0, x1, x2, x3, p0⟩ := hw.cells; go_simp; first | done | with_reducible rfl
                    try simp only [pz0, pz1, pz2, pz3]
                    refine btake 1 (some 67) ?_ rfl hHeld (fun w' hw => ?_) ?_
                    rotate_left 1
                    · obtain ⟨c0, c1, c2, x0, x1, x2, x3, p0⟩ := hw.cells; go_simp; first | done | with_reducible rfl
                    try simp only [pz0, pz1, pz2, pz3]
                    refine wpAnyH_all (rs := [2]) (by kernel_rfl) (by simp) (AllReadyH.cons rfl (fun K hK => ?_) AllReadyH.nil)
                    rw [if_pos (by rfl)]
                    go_simp
                    refine (hV.out _).mono ?_
                    rintro e w2 ⟨rfl, hb2⟩
                    go_wp2_with fail
                    refine hK.out _ _ (hHeld.below hb2) (fun hHeld2 => ?_)
                    clear hK K hHeld hb2
                    try simp only [pz0, pz1, pz2, pz3]
                    refine btake 3 (some 69) ?_ rfl hHeld2 (fun w' hw => ?_) ?_
                    rotate_left 1
                    · obtain ⟨c0, c1, c2, x0, x1, x2, x3, p0⟩ := hw.cells; go_simp; first | done | with_reducible rfl
                    try simp only [pz0, pz1, pz2, pz3]
                    refine btake 4 (some 70) ?_ rfl hHeld2 (fun w' hw => ?_) ?_
                    rotate_left 1
                    · obtain ⟨c0, c1, c2, x0, x1, x2, x3, p0⟩ := hw.cells; go_simp; first | done | with_reducible rfl
                    try simp only [pz0, pz1, pz2, pz3]
                    refine btake 5 (some 71) ?_ rfl hHeld2 (fun w' hw => ?_) ?_
                    rotate_left 1
                    · obtain ⟨c0, c1, c2, x0, x1, x2, x3, p0⟩ := hw.cells; go_simp; first | done | with_reducible rfl
                    try simp only [pz0, pz1, pz2, pz3]
                    refine btake 6 (some 72) ?_ rfl hHeld2 (fun w' hw => ?_) ?_
                    rotate_left 1
                    · obtain ⟨c0, c1, c2, x0, x1, x2, x3, p0⟩ := hw.cells; go_simp; first | done | with_reducible rfl
                    try simp only [pz0, pz1, pz2, pz3]
                    refine btake 7 (some 73) ?_ rfl hHeld2 (fun w' hw => ?_) ?_
                    rotate_left 1
                    · obtain ⟨c0, c1, c2, x0, x1, x2, x3, p0⟩ := hw.cells; go_simp; first | done | with_reducible rfl
                    try simp only [pz0, pz1, pz2, pz3]
                    refine btake 8 (some 74) ?_ rfl hHeld2 (fun w' hw => ?_) ?_
                    rotate_left 1
                    · obtain ⟨c0, c1, c2, x0, x1, x2, x3, p0⟩ := hw.cells; go_simp; first | done | with_reducible rfl
                    try simp only [pz0, pz1, pz2, pz3]
                    refine btake 9 (some 75) ?_ rfl hHeld2 (fun w' hw => ?_) ?_
                    rotate_left 1
                    · obtain ⟨c0, c1, c2, x0, x1, x2, x3, p0⟩ := hw.cells; go_simp; first | done | with_reducible rfl
                    try simp only [pz0, pz1, pz2, pz3]
                    refine btake 10 (some 76) ?_ rfl hHeld2 (fun w' hw => ?_) ?_
                    rotate_left 1
                    · obtain ⟨c0, c1, c2, x0, x1, x2, x3, p0⟩ := hw.cells; go_simp; first | done | with_reducible rfl
                    try simp only [pz0, pz1, pz2, pz3]
                    refine btake 11 (some 77) ?_ rfl hHeld2 (fun w' hw => ?_) ?_
                    rotate_left 1
                    · obtain ⟨c0, c1, c2, x0, x1, x2, x3, p0⟩ := hw.cells; go_simp; first | done | with_reducible rfl
                    try simp only [pz0, pz1, pz2, pz3]
                    refine btake 12 (some 78) ?_ rfl hHeld2 (fun w' hw => ?_) ?_
                    rotate_left 1
                    · obtain ⟨c0, c1, c2, x0, x1, x2, x3, p0⟩ := hw.cells; go_simp; first | done | with_reducible rfl
                    try simp only [pz0, pz1, pz2, pz3]
                    refine bskip 10 13 79 hHeld2 ?_
                    simp only [skipPut, skipList, pz0, pz1, pz2, pz3]
                    refine btake 23 (some 89) ?_ rfl hHeld2 (fun w' hw => ?_) ?_
                    rotate_left 1
                    · obtain ⟨c0, c1, c2, x0, x1, x2, x3, p0⟩ := hw.cells; go_simp; first | done | with_reducible rfl
                    try simp only [pz0, pz1, pz2, pz3]
                    refine btake 24 (some 90) ?_ rfl hHeld2 (fun w' hw => ?_) ?_
                    rotate_left 1
                    · obtain ⟨c0, c1, c2, x0, x1, x2, x3, p0⟩ := hw.cells; go_simp; first | done | with_reducible rfl
                    try simp only [pz0, pz1, pz2, pz3]
                    refine btake 25 (some 91) ?_ rfl hHeld2 (fun w' hw => ?_) ?_
                    rotate_left 1
                    · obtain ⟨c0, c1, c2, x0, x1, x2, x3, p0⟩ := hw.cells; go_simp; first | done | with_reducible rfl
                    try simp only [pz0, pz1, pz2, pz3]
                    refine btake 26 (some 92) ?_ rfl hHeld2 (fun w' hw => ?_) ?_
                    rotate_left 1
                    · obtain ⟨c0, c1, c2, x0, x1, x2, x3, p0⟩ := hw.cells; go_simp; first | done | with_reducible rfl
                    try simp only [pz0, pz1, pz2, pz3]
                    refine btake 27 (some 93) ?_ rfl hHeld2 (fun w' hw => ?_) ?_
                    rotate_left 1
                    · obtain ⟨c0, c1, c2, x0, x1, x2, x3, p0⟩ := hw.cells; go_simp; first | done | with_reducible rfl
                    try simp only [pz0, pz1, pz2, pz3]
                    refine btake 28 (some 94) ?_ rfl hHeld2 (fun w' hw => ?_) ?_
                    rotate_left 1
                    · obtain ⟨c0, c1, c2, x0, x1, x2, x3, p0⟩ := hw.cells; go_simp; first | done | with_reducible rfl
                    try simp only [pz0, pz1, pz2, pz3]
                    refine wpAnyH_all (rs := [29]) (by kernel_rfl) (by simp) (AllReadyH.cons rfl (fun K hK => ?_) AllReadyH.nil)
                    rw [if_pos (by rfl)]
                    go_simp
                    refine (hP.out _).mono ?_
                    rintro e w3 ⟨rfl, hb3⟩
                    go_wp2_with fail
                    refine hK.out _ _ (hHeld2.below hb3) (fun hHeld3 => ?_)
                    clear hK K hHeld2 hb3
                    try simp only [pz0, pz1, pz2, pz3]
                    refine btake 30 (some 96) (.int .i64 1) rfl hHeld3 (fun w' hw => ?_) ?_
                    · have hl := kD.out w' hw.dirs; simp [execOp, Act.eval, hl, Result.andThen]
                    try simp only [pz0, pz1, pz2, pz3]
                    refine btake 31 (some 97) ?_ rfl hHeld3 (fun w' hw => ?_) ?_
                    rotate_left 1
                    · obtain ⟨c0, c1, c2, x0, x1, x2, x3, p0⟩ := hw.cells; go_simp; first | done | with_reducible rfl
                    try simp only [pz0, pz1, pz2, pz3]
                    refine btake 32 (some 98) ?_ rfl hHeld3 (fun w' hw => ?_) ?_
                    rotate_left 1
                    · obtain ⟨c0, c1, c2, x0, x1, x2, x3, p0⟩ := hw.cells; go_simp; first | done | with_reducible rfl
                    try simp only [pz0, pz1, pz2, pz3]
                    refine btake 33 (some 99) ?_ rfl hHeld3 (fun w' hw => ?_) ?_
                    rotate_left 1
                    · obtain ⟨c0, c1, c2, x0, x1, x2, x3, p0⟩ := hw.cells; go_simp; first | done | with_reducible rfl
                    try simp only [pz0, pz1, pz2, pz3]
                    refine btake 34 (some 100) ?_ rfl hHeld3 (fun w' hw => ?_) ?_
                    rotate_left 1
                    · obtain ⟨c0, c1, c2, x0, x1, x2, x3, p0⟩ := hw.cells; go_simp; first | done | with_reducible rfl
                    try simp only [pz0, pz1, pz2, pz3]
                    refine btake 35 (some 101) ?_ rfl hHeld3 (fun w' hw => ?_) ?_
                    rotate_left 1
                    · obtain ⟨c0, c1, c2, x0, x1, x2, x3, p0⟩ := hw.cells; go_simp; first | done | with_reducible rfl
                    try simp only [pz0, pz1, pz2, pz3]
                    refine btake 36 (some 102) ?_ rfl hHeld3 (fun w' hw => ?_) ?_
                    rotate_left 1
                    · obtain ⟨c0, c1, c2, x0, x1, x2, x3, p0⟩ := hw.cells; go_simp; first | done | with_reducible rfl
                    try simp only [pz0, pz1, pz2, pz3]
                    refine bskip 4 37 103 hHeld3 ?_
                    simp only [skipPut, skipList, pz0, pz1, pz2, pz3]
                    refine btake 41 (some 107) ?_ rfl hHeld3 (fun w' hw => ?_) ?_
                    rotate_left 1
                    · obtain ⟨c0, c1, c2, x0, x1, x2, x3, p0⟩ := hw.cells; go_simp; first | done | with_reducible rfl
                    try simp only [pz0, pz1, pz2, pz3]
                    refine btake 42 (some 108) ?_ rfl hHeld3 (fun w' hw => ?_) ?_
                    rotate_left 1
                    · obtain ⟨c0, c1, c2, x0, x1, x2, x3, p0⟩ := hw.cells; go_simp; first | done | with_reducible rfl
                    try simp only [pz0, pz1, pz2, pz3]
                    refine btake 43 (some 109) ?_ rfl hHeld3 (fun w' hw => ?_) ?_
                    rotate_left 1
                    · obtain ⟨c0, c1, c2, x0, x1, x2, x3, p0⟩ := hw.cells; go_simp; first | done | with_reducible rfl
                    try simp only [pz0, pz1, pz2, pz3]
                    refine btake 44 (some 110) ?_ rfl hHeld3 (fun w' hw => ?_) ?_
                    rotate_left 1
                    · obtain ⟨c0, c1, c2, x0, x1, x2, x3, p0⟩ := hw.cells; go_simp; first | done | with_reducible rfl
                    try simp only [pz0, pz1, pz2, pz3]
                    refine btake 45 (some 111) ?_ rfl hHeld3 (fun w' hw => ?_) ?_
                    rotate_left 1
                    · obtain ⟨c0, c1, c2, x0, x1, x2, x3, p0⟩ := hw.cells; go_simp; first | done | with_reducible rfl
                    try simp only [pz0, pz1, pz2, pz3]
                    refine btake 46 (some 112) ?_ rfl hHeld3 (fun w' hw => ?_) ?_
                    rotate_left 1
                    · obtain ⟨c0, c1, c2, x0, x1, x2, x3, p0⟩ := hw.cells; go_simp; first | done | with_reducible rfl
                    try simp only [pz0, pz1, pz2, pz3]
                    refine btake 47 (some 113) ?_ rfl hHeld3 (fun w' hw => ?_) ?_
                    rotate_left 1
                    · obtain ⟨c0, c1, c2, x0, x1, x2, x3, p0⟩ := hw.cells; go_simp; first | done | with_reducible rfl
                    try simp only [pz0, pz1, pz2, pz3]
                    refine btake 48 (some 114) ?_ rfl hHeld3 (fun w' hw => ?_) ?_
                    rotate_left 1
                    · obtain ⟨c0, c1, c2, x0, x1, x2, x3, p0⟩ := hw.cells; go_simp; first | done | with_reducible rfl
                    try simp only [pz0, pz1, pz2, pz3]
                    refine btake 49 (some 115) ?_ rfl hHeld3 (fun w' hw => ?_) ?_
                    rotate_left 1
                    · obtain ⟨c0, c1, c2, x0, x1, x2, x3, p0⟩ := hw.cells; go_simp; first | done | with_reducible rfl
                    try simp only [pz0, pz1, pz2, pz3]
                    refine btake 50 (some 116) ?_ rfl hHeld3 (fun w' hw => ?_) ?_
                    rotate_left 1
                    · obtain ⟨c0, c1, c2, x0, x1, x2, x3, p0⟩ := hw.cells; go_simp; first | done | with_reducible rfl
                    try simp only [pz0, pz1, pz2, pz3]
                    refine btake 51 (some 117) ?_ rfl hHeld3 (fun w' hw => ?_) ?_
                    rotate_left 1
                    · obtain ⟨c0, c1, c2, x0, x1, x2, x3, p0⟩ := hw.cells; go_simp; first | done | with_reducible rfl
                    try simp only [pz0, pz1, pz2, pz3]
                    refine btake 52 (some 118) ?_ rfl hHeld3 (fun w' hw => ?_) ?_
                    rotate_left 1
                    · obtain ⟨c0, c1, c2, x0, x1, x2, x3, p0⟩ := hw.cells; go_simp; first | done | with_reducible rfl
                    try simp only [pz0, pz1, pz2, pz3]
                    refine btake 53 (some 119) ?_ rfl hHeld3 (fun w' hw => ?_) ?_
                    rotate_left 1
                    · obtain ⟨c0, c1, c2, x0, x1, x2, x3, p0⟩ := hw.cells; go_simp; first | done | with_reducible rfl
                    try simp only [pz0, pz1, pz2, pz3]
                    refine btake 54 (some 120) ?_ rfl hHeld3 (fun w' hw => ?_) ?_
                    rotate_left 1
                    · obtain ⟨c0, c1, c2, x0, x1, x2, x3, p0⟩ := hw.cells; go_simp; first | done | with_reducible rfl
                    try simp only [pz0, pz1, pz2, pz3]
                    refine wpAnyH_done (by kernel_rfl) ?_ _
                    have kbx := Lib.hid hHeld3.box.2
                    clear hHeld3
                    go_wp2
                    go_ret
                    exact ⟨by rw [kf.out]; rfl, kbx.out⟩
                  · exact absurd (okNode_of (clock := clock) t1 t2 kt3.out kt4.out (fun e => by rw [kxd.out] at e; cases e) (by omega) (by omega)) (by rw [kno.out]; simp)
        · have hkl : k = l.length := by omega
          subst hkl
          rw [List.take_length, List.drop_length] at hokk
          exact absurd hokk (by simp [kindF])
end
end Go.Proofs.YtejofgdglpmlkaaGreatDoor
