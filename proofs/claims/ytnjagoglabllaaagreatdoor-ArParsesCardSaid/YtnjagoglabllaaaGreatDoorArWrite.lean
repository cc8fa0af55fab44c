/-
  Write. Conditions: names of at most 2^47 bytes, data of at most 2^40, at most 2^42 members.
-/
import Derived.Test.YtnjagoglabllaaaGreatDoorArTable
import Derived.Test.YtnjagoglabllaaaGreatDoorArHeld
import Derived.Lib.SlBytesConst
namespace Go.Proofs.YtnjagoglabllaaaGreatDoor
open Go.RowKit

theorem body_app : ∀ (a b : List Mem) (c : Nat), bodyB c (a ++ b) = bodyB c a ++ bodyB (c + (tableB a).length) b
  | [], b, c => by simp [bodyB, tableB]
  | x :: a, b, c => by
    rw [List.cons_append, bodyB, bodyB, body_app a b, List.append_assoc, tableB]
    unfold nextAt
    split
    · congr 3; simp; omega
    · rfl
theorem body_more {l : List Mem} {k : Nat} {x : Mem} (h : l[k]? = some x) : bodyB 0 (l.take (k + 1)) = bodyB 0 (l.take k) ++ oneB (tableB (l.take k)).length x := by
  rw [take_more h, body_app, Nat.zero_add, bodyB, bodyB, List.append_nil]
theorem size_mem {l : List Mem} {x : Mem} (h : x ∈ l) : 60 + evenN x.data.length ≤ sumN l := by
  induction l with
  | nil => cases h
  | cons y r ih =>
    rw [sumN]
    rcases List.mem_cons.1 h with rfl | h
    · omega
    · have := ih h; omega
theorem size_small {l : List Mem} (h : ¬ 65536 < sizeN l) : (∀ x ∈ l, x.name.length ≤ 65536 ∧ x.data.length ≤ 65536) ∧ (tableB l).length ≤ 65536 := by
  have h2 : sumN l ≤ sizeN l := by unfold sizeN; omega
  have h3 : (tableB l).length ≤ sizeN l := by unfold sizeN evenN; split <;> omega
  refine ⟨fun x hx => ⟨?_, ?_⟩, by omega⟩
  · by_cases hm : longM x = true
    · have := table_len l x hx hm; omega
    · unfold longM at hm; simp at hm; omega
  · have := size_mem hx; unfold evenN at this; omega
theorem magic_pos (xs : Bs) : 0 < (magicB ++ xs).length := by rw [List.length_append]; unfold magicB; simp; omega
theorem dec12 {n : Nat} (h : n < 1000000000000) : (Go.Lib.decDigits n).length ≤ 12 :=
  dec_len (by have : (10 : Nat) ^ 12 = 1000000000000 := by decide
              omega) (by decide)
theorem fair_parts {x : Mem} (h : fairB x = true) : x.name ≠ [] ∧ x.name.length ≤ 255 ∧ hasZ x.name = false ∧ 0 ≤ x.date ∧ x.date < 1000000000000 := by
  unfold fairB at h
  rw [all_hasZ] at h
  simp only [Bool.and_eq_true, decide_eq_true_eq, Bool.not_eq_true'] at h
  obtain ⟨⟨⟨⟨h1, h2⟩, h3⟩, h4⟩, h5⟩ := h
  exact ⟨h1, h2, h3, h4, h5⟩
theorem date_len {n : Int} (h0 : 0 ≤ n) (h1 : n < 1000000000000) : (dateB n).length ≤ 12 := by
  unfold dateB Go.Lib.itoa
  rw [if_neg (by omega)]
  exact dec_len (by have : (10 : Nat) ^ 12 = 1000000000000 := by decide
                    omega) (by decide)
theorem name_len (at' : Nat) (x : Mem) (h : at' < 1000000000000) : (nameB at' x).length ≤ 16 := by
  unfold nameB longM
  by_cases hl : 15 < x.name.length
  · have := dec_len (n := at') (k := 12) (by have : (10 : Nat) ^ 12 = 1000000000000 := by decide
                                             omega) (by decide)
    simp [hl]; omega
  · simp [hl]; omega
theorem one_len {at' : Nat} {x : Mem} (h : at' < 1000000000000) (hf : fairB x = true) (hd : x.data.length < 10000000000) : (oneB at' x).length = 60 + evenN x.data.length := by
  obtain ⟨-, -, -, h4, h5⟩ := fair_parts hf
  unfold oneB
  rw [List.length_append, evenB_len, headB_len (name_len at' x h) (date_len h4 h5) (by decide) (by decide) hd]
theorem body_len : ∀ (l : List Mem) (c : Nat), c + (tableB l).length < 1000000000000 → l.all fairB = true → (∀ x ∈ l, x.data.length < 10000000000) → (bodyB c l).length = sumN l
  | [], c, _, _, _ => rfl
  | x :: r, c, h, hf, hd => by
    rw [List.all_cons, Bool.and_eq_true] at hf
    have h2 : nextAt c x + (tableB r).length = c + (tableB (x :: r)).length := by
      rw [tableB]; unfold nextAt; split
      · simp; omega
      · rfl
    rw [bodyB, List.length_append, sumN, one_len (by omega) hf.1 (hd x (by simp)), body_len r _ (by omega) hf.2 (fun y hy => hd y (by simp [hy]))]
theorem heads_len (l : List Mem) (h : (tableB l).length < 10000000000) : (headsB l).length = if 0 < (tableB l).length then 60 + evenN (tableB l).length else 0 := by
  unfold headsB
  split
  · rw [List.length_append, evenB_len, headB_len (by decide) (by decide) (by decide) (by decide) h]
  · rfl
theorem arch_len {l : List Mem} (hf : l.all fairB = true) (hs : ¬ 65536 < sizeN l) : (archB l).length = sizeN l := by
  obtain ⟨h1, h2⟩ := size_small hs
  unfold archB
  rw [List.length_append, List.length_append, heads_len l (by omega), body_len l 0 (by omega) hf (fun x hx => by have := (h1 x hx).2; omega)]
  unfold sizeN magicB
  simp
  omega
/-- What holds while a member is written. -/
structure WriteH (w : World) (mb : Nat) (v0 v1 v2 : Value) (W : World) : Prop where
  c0 : W.cell? ⟨mb, 0, none⟩ = some v0
  c1 : W.cell? ⟨mb, 1, none⟩ = some v1
  c2 : W.cell? ⟨mb, 2, none⟩ = some v2
  lt : mb < W.heap.size
  below : Below w.heap.size w W
theorem WriteH.on {w W W' : World} {mb : Nat} {v0 v1 v2 : Value} (h : WriteH w mb v0 v1 v2 W) (hb : Below W.heap.size W W') : WriteH w mb v0 v1 v2 W' :=
  ⟨(hb.cell (p := ⟨mb, 0, none⟩) h.lt).trans h.c0, (hb.cell (p := ⟨mb, 1, none⟩) h.lt).trans h.c1, (hb.cell (p := ⟨mb, 2, none⟩) h.lt).trans h.c2, Nat.lt_of_lt_of_le h.lt hb.size, h.below.trans (hb.mono h.below.size)⟩
theorem WriteH.touch {w W W' : World} {mb : Nat} {v0 v1 v2 : Value} {r : Option Nat} (h : WriteH w mb v0 v1 v2 W) (hb : W.grownBy W' r) (hr : r ≠ some mb) (hB : Below w.heap.size W W') : WriteH w mb v0 v1 v2 W' := by
  have e := hb.block mb h.lt (fun e => hr e.symm)
  have hc : ∀ o, W'.cell? ⟨mb, o, none⟩ = W.cell? ⟨mb, o, none⟩ := fun o => World.cell?_of_block (a := ⟨mb, o, none⟩) e
  exact ⟨(hc 0).trans h.c0, (hc 1).trans h.c1, (hc 2).trans h.c2, Nat.lt_of_lt_of_le h.lt hb.size, h.below.trans hB⟩
/-- The world behind '[]byte("!<arch>\n")'. -/
def magicW (w : World) : World := w.alloc (.cells #[.int .u8 33, .int .u8 60, .int .u8 97, .int .u8 114, .int .u8 99, .int .u8 104, .int .u8 62, .int .u8 10] 5 (8, 9))
theorem magic_conv (w : World) : (convert 26 26 (.slice (some ⟨w.heap.size, 0, none⟩) 8 8)).run Tryz.prog (w.alloc (.cells #[.int .u8 33, .int .u8 60, .int .u8 97, .int .u8 114, .int .u8 99, .int .u8 104, .int .u8 62, .int .u8 10] 5)) = .ok (.slice (some ⟨w.heap.size, 0, none⟩) 8 8) (magicW w) :=
  Go.Lib.run_convert_bytes_const w 26 5 _ 8 8 Tryz.underlying26 Tryz.underlying5
theorem magic_row {B : Nat} (w : World) (hB : B ≤ w.heap.size) : RowX (magicW w) B (.slice (some ⟨w.heap.size, 0, none⟩) 8 8) magicB :=
  ⟨by decide, Or.inr ⟨w.heap.size, rfl, hB, heap_alloc_new w _⟩⟩
/-- The world behind '[]byte(s)'. -/
def byteW (w : World) (s : Bs) : World := w.drew.alloc (.cells (bytesRow (mk s) (grownCap w s.length 0 5)) 5 ((bytesRow (mk s) (grownCap w s.length 0 5)).size, (bytesRow (mk s) (grownCap w s.length 0 5)).size + 1))
theorem byte_conv (w : World) (s : Bs) : (convert 9 26 (.string (mk s))).run Tryz.prog w = .ok (.slice (some ⟨w.heap.size, 0, none⟩) s.length (grownCap w s.length 0 5)) (byteW w s) := by
  have := run_bytes_of_string (P := Tryz.prog) w 9 26 5 (mk s) Tryz.underlying9 Tryz.underlying26 Tryz.underlying5
  rw [mk_size] at this
  exact this
theorem byte_below (w : World) (s : Bs) : Below w.heap.size w (byteW w s) := (below_drew w).alloc (Nat.le_refl _) _
theorem byte_row (w : World) (s : Bs) (hs : s.length ≤ 1099511627776) : BytesAt (byteW w s) (.slice (some ⟨w.heap.size, 0, none⟩) s.length (grownCap w s.length 0 5)) s (fun j => j = w.heap.size) := by
  refine ⟨_, _, rfl, grownCap_ge w _ 0 5, grownCap_le_maxLen w _ 0 5 (by unfold maxLen; omega), (fun e => by cases e), fun _ => ⟨w.heap.size, 0, rfl, rfl, by simp [byteW], fun k y hk => ?_⟩⟩
  rw [Nat.zero_add, cell_of_row (byteW w s) w.heap.size k _ 5 _ (heap_alloc_new w.drew _)]
  have hk' := (List.getElem?_eq_some_iff.1 hk)
  obtain ⟨h1, h2⟩ := hk'
  rw [bytesRow_at (mk s) _ k (by simpa [mk] using h1)]
  subst h2
  simp [mk]
theorem pre_len (l : List Mem) (k : Nat) : (magicB ++ headsB l ++ bodyB 0 (l.take k)).length ≤ (archB l).length := by
  have e : bodyB 0 l = bodyB 0 (l.take k) ++ bodyB (0 + (tableB (l.take k)).length) (l.drop k) := by rw [← body_app, List.take_append_drop]
  unfold archB
  rw [e, ← List.append_assoc]
  exact (List.prefix_append _ _).length_le
/-- What Write answers: nothing, or a row of its own. -/
def OutX (w : World) (B : Nat) (v : Value) (d : Bs) : Prop := (v = .slice none 0 0 ∧ d = []) ∨ RowX w B v d
section
variable {l : List Mem} {nv : Value} {T : Nat → Prop} {w : World}
set_option maxRecDepth 100000 in
set_option maxHeartbeats 4000000 in
theorem write_calls (htab : Tab w.heap.size w) (ht : MemsAt w nv l T) (hT : ∀ k, T k → k < w.heap.size) (hp : ∀ x ∈ l, x.name.length ≤ 140737488355328 ∧ x.data.length ≤ 1099511627776 ∧ -9223372036854775808 ≤ x.date ∧ x.date ≤ 9223372036854775807) (hl : l.length ≤ 4398046511104) :
    Calls Tryz.prog 11 #[nv] w fun e w' => ∃ v, e = .returned (.tuple #[v, .int .i64 (archP l).2]) ∧ OutX w' w.heap.size v (archP l).1 ∧ Below w.heap.size w w' := by
  obtain ⟨ta, tc, hnv⟩ := ht.form
  subst hnv
  have kt := Lib.hid ht
  have kT := Lib.hid hT
  have kp := Lib.hid hp
  have ktab := Lib.hid htab
  have hS := Lib.hid (size_calls ht hT (fun x hx => ⟨(hp x hx).1, (hp x hx).2.1⟩) hl)
  clear ht hT hp htab
  go_enter Tryz.func11, Tryz.ntmps11
  by_cases h5 : 5000 < l.length
  · have y1 : (5000 : Int) < (l.length : Int) := by omega
    have ha : archP l = ([], 2) := by unfold archP; rw [if_pos (Or.inl h5)]
    rw [ha]
    go_wp2_with fail
    go_ret2
    exact ⟨_, rfl, Or.inl ⟨rfl, rfl⟩, Below.refl _ _⟩
  · have y1 : ¬ (5000 : Int) < (l.length : Int) := by omega
    by_cases hbig : 65536 < sizeN l
    · have ha : archP l = ([], 2) := by unfold archP; rw [if_pos (Or.inr hbig)]
      rw [ha]
      go_wp2_with (go_at_call 23; refine hS.out.mono ?_; rintro e w1 ⟨n, rfl, hn, hb⟩; have kb := Lib.hid hb; have y2 := hn.2 hbig; clear hn hb)
      go_ret2
      exact ⟨_, rfl, Or.inl ⟨rfl, rfl⟩, kb.out⟩
    · obtain ⟨hsm, htl⟩ := size_small hbig
      go_upto_region 3 with (go_at_call 23; refine hS.out.mono ?_; rintro e w1 ⟨n, rfl, hn, hb⟩; have kb1 := Lib.hid hb; have y2 : ¬ 65536 < n := fun h => hbig (hn.1 h); clear hn hb)
      have hz1 := kb1.out.size
      have har : archP l = if l.all fairB = false then ([], 1) else (archB l, 0) := by unfold archP; rw [if_neg (by omega)]
      have khar := Lib.hid har
      have kbig := Lib.hid hbig
      clear har hbig h5
      go_wp2_with fail
      go_loopw [5, 22] (fun _ iv wr => ∃ k : Nat, k ≤ l.length ∧ iv = .int .i64 k ∧ (l.take k).all fairB = true ∧ Below w.heap.size w wr) (fun _ iv _ => l.length - (intOf iv).toNat)
      case atStart => exact ⟨0, Nat.zero_le _, rfl, by simp, kb1.out⟩
      case round =>
        obtain ⟨k, hk, rfl, hf, hB⟩ := hrel
        have kB := Lib.hid hB
        have kf := Lib.hid hf
        clear hB hf
        by_cases hlt : k < l.length
        · obtain ⟨x, hx⟩ : ∃ x, l[k]? = some x := ⟨_, List.getElem?_eq_getElem hlt⟩
          have kx := Lib.hid hx
          obtain ⟨b, off, dv, hta, hTb, hbl, hc0, hc1, hc2, hdv⟩ := (kt.out.of_heap (w' := wr) (T' := T) (fun j hj => kB.out.block j (kT.out j hj)) (fun _ h => h)).at hx
          obtain ⟨da, dc, hdf⟩ := hdv.form
          subst hta hdf
          have hpx := kp.out x (List.mem_of_getElem? hx)
          have hsx := hsm x (List.mem_of_getElem? hx)
          have kX := Lib.hid (heap_alloc_new wr (.cells #[.string (mk x.name), .int .i64 x.date, .slice da x.data.length dc] 37))
          have kA := Lib.hid (below_al (o := .cells #[.string (mk x.name), .int .i64 x.date, .slice da x.data.length dc] 37) (Below.refl wr.heap.size wr))
          have hFi := Lib.hid (fun w => fits_calls x (.slice da x.data.length dc) w (by omega) (by omega))
          have hfx : (l.take (k + 1)).all fairB = fairB x := by rw [take_more hx, List.all_append, kf.out]; simp
          have kfx := Lib.hid hfx
          clear hTb hdv hx hfx hpx
          go_upto_region 6 with (fail)
          generalize wr.alloc (.cells #[.string (mk x.name), .int .i64 x.date, .slice da x.data.length dc] 37) = w2 at *
          obtain ⟨m0, m1, m2, -⟩ := cells3 kX.out
          have hml := heap_lt kX.out
          clear hc0 hc1 hc2 hbl
          have kB2 := Lib.hid (kB.out.trans (kA.out.mono kB.out.size))
          generalize hfb : fairB x = fb at *
          have kfb := Lib.hid hfb
          clear hfb
          cases fb with
          | true =>
            go_wp2_with (go_at_call 24; refine (hFi.out _).mono ?_; rintro e w3 ⟨rfl, hb⟩; have kb3 := Lib.hid hb; clear hb)
            exact ⟨⟨k + 1, by omega, by go_num, kfx.out, kB2.out.trans (kb3.out.mono kB2.out.size)⟩, by simp [intOf]; omega⟩
          | false =>
            go_wp2_with (go_at_call 24; refine (hFi.out _).mono ?_; rintro e w3 ⟨rfl, hb⟩; have kb3 := Lib.hid hb; clear hb)
            go_ret2
            have hn : archP l = ([], 1) := by
              rw [khar.out, if_pos]
              rw [Bool.eq_false_iff]
              intro h
              rw [List.all_eq_true] at h
              have := h x (List.mem_of_getElem? kx.out)
              rw [kfb.out] at this; cases this
            rw [hn]
            exact ⟨_, rfl, Or.inl ⟨rfl, rfl⟩, kB2.out.trans (kb3.out.mono kB2.out.size)⟩
        · have hkl : k = l.length := by omega
          have y3 : ¬ (k : Int) < (l.length : Int) := by omega
          have hal : l.all fairB = true := by have := kf.out; rwa [hkl, List.take_length] at this
          have har : archP l = (archB l, 0) := by rw [khar.out, hal]; rfl
          have kal := Lib.hid hal
          have kar := Lib.hid har
          clear hkl har hal
          have hmc := magic_conv wr
          have kmr := Lib.hid (magic_row wr kB.out.size)
          have kmB := Lib.hid (kB.out.trans ((show Below wr.heap.size wr (magicW wr) from below_al (Below.refl _ _)).mono kB.out.size))
          have hTa := Lib.hid (table_calls (kt.out.of_heap (w' := magicW wr) (T' := T) (fun j hj => kmB.out.block j (kT.out j hj)) (fun _ h => h)) (fun j hj => Nat.lt_of_lt_of_le (kT.out j hj) kmB.out.size) (by omega) (by omega) (fun x hx => (kp.out x hx).1))
          go_upto_if 35 with (go_at_call 25; refine hTa.out.mono ?_; rintro e w3 ⟨rfl, hb⟩; have kmr3 := Lib.hid (kmr.out.below hb); have kB3 := Lib.hid (kmB.out.trans (hb.mono kmB.out.size)); clear hb)
          have hz3 := kB3.out.size
          go_cut [6] from 35 to 39 (fun v6 wx => RowX wx w.heap.size v6 (magicB ++ headsB l) ∧ Below w.heap.size w wx)
          case first =>
            by_cases hte : tableB l = []
            · have hue : (mk (tableB l)).toList.isEmpty = true := by rw [Go.Lib.toList_data, mk_list, hte]; rfl
              have kh0 := Lib.hid (show headsB l = [] by unfold headsB; rw [hte]; rfl)
              clear hte
              simp only [hue, Bool.not_true]
              go_wp2_with fail
              go_meet
              case rel => rw [kh0.out, List.append_nil]; exact ⟨kmr3.out, kB3.out⟩
            · have hue := mk_isEmpty hte
              have hpos : 0 < (tableB l).length := by cases h : tableB l with
                | nil => exact absurd h hte
                | cons _ _ => simp
              have kh0 := Lib.hid (show headsB l = headB [47, 47] [] [] [] (tableB l).length ++ evenB (tableB l) by unfold headsB; rw [if_pos hpos])
              clear hte
              have hbc := byte_conv w3 (tableB l)
              have kbb := Lib.hid (byte_below w3 (tableB l))
              have kbr := Lib.hid (byte_row w3 (tableB l) (by omega))
              have kB4 := Lib.hid (kB3.out.trans (kbb.out.mono kB3.out.size))
              have kP := Lib.hid (put_calls (w := byteW w3 (tableB l)) (name := [47, 47]) (date := []) (owner := []) (mode := []) (ktab.out.on kB4.out) kB4.out.size (kmr3.out.below kbb.out) kbr.out (fun k hk => by
                subst hk
                have h1 := kmr3.out.own rfl
                have h2 := heap_lt (w := byteW w3 (tableB l)) (heap_alloc_new w3.drew _)
                refine ⟨h2, fun e => ?_⟩
                injection e with e
                exact Nat.lt_irrefl _ (e ▸ h1.2)) (by decide) (by decide) (by decide) (by decide) (by omega) (by decide))
              generalize byteW w3 (tableB l) = w4 at *
              simp only [hue, Bool.not_false]
              go_wp2_with (go_at_call 26; refine kP.out.mono ?_; rintro e w5 ⟨a5, n5, c5, rfl, ho, hb, -⟩; have ko5 := Lib.hid ho; have kB5 := Lib.hid (kB4.out.trans hb); clear ho hb)
              go_meet
              case rel => rw [kh0.out]; exact ⟨⟨magic_pos _, Or.inl ko5.out⟩, kB5.out⟩
          case rest =>
            obtain ⟨hr6, hB6⟩ := hcut
            have kr6 := Lib.hid hr6
            have kB6 := Lib.hid hB6
            clear hr6 hB6
            go_wp2_with fail
            go_loopw [6, 8, 10, 11, 42] (fun v6 av _ _ iv wr => ∃ k : Nat, k ≤ l.length ∧ iv = .int .i64 k ∧ av = .int .i64 ((tableB (l.take k)).length : Nat) ∧ RowX wr w.heap.size v6 (magicB ++ headsB l ++ bodyB 0 (l.take k)) ∧ Below w.heap.size w wr) (fun _ _ _ _ iv _ => l.length - (intOf iv).toNat)
            case atStart => exact ⟨0, Nat.zero_le _, rfl, rfl, by rw [List.take_zero, bodyB, List.append_nil]; exact kr6.out, kB6.out⟩
            case round =>
              obtain ⟨k, hk, rfl, rfl, hro, hB⟩ := hrel
              have kro := Lib.hid hro
              have kB := Lib.hid hB
              clear hro hB
              by_cases hlt : k < l.length
              · obtain ⟨x, hx⟩ : ∃ x, l[k]? = some x := ⟨_, List.getElem?_eq_getElem hlt⟩
                have kx := Lib.hid hx
                obtain ⟨b, off, dv, hta, hTb, hbl, hc0, hc1, hc2, hdv⟩ := (kt.out.of_heap (w' := wr) (T' := T) (fun j hj => kB.out.block j (kT.out j hj)) (fun _ h => h)).at hx
                obtain ⟨da, dc, hdf⟩ := hdv.form
                subst hta hdf
                have hpx := kp.out x (List.mem_of_getElem? hx)
                have hsx := hsm x (List.mem_of_getElem? hx)
                have hms : (mk x.name).size = x.name.length := mk_size x.name
                have kX := Lib.hid (heap_alloc_new wr (.cells #[.string (mk x.name), .int .i64 x.date, .slice da x.data.length dc] 37))
                have kA := Lib.hid (below_al (o := .cells #[.string (mk x.name), .int .i64 x.date, .slice da x.data.length dc] 37) (Below.refl wr.heap.size wr))
                have kdv := Lib.hid hdv
                have hfx := fair_parts (List.all_eq_true.1 kal.out x (List.mem_of_getElem? hx))
                have htm := table_more hx
                have hbm := body_more hx
                have ktk := Lib.hid (And.intro htm hbm)
                have htl1 := table_pre l k
                have htl2 := table_pre l (k + 1)
                obtain ⟨tn, htn⟩ : ∃ tn, tn = (tableB (l.take k)).length := ⟨_, rfl⟩
                rw [← htn] at htl1 hbm
                rw [← htn]
                clear hTb hdv hx htm hbm
                go_upto_region 17 with (fail)
                obtain ⟨mb, hmb⟩ : ∃ mb, mb = wr.heap.size := ⟨_, rfl⟩
                have kH := Lib.hid (show WriteH w mb (.string (mk x.name)) (.int .i64 x.date) (.slice da x.data.length dc) (wr.alloc (.cells #[.string (mk x.name), .int .i64 x.date, .slice da x.data.length dc] 37)) from by
                  subst hmb
                  obtain ⟨m0, m1, m2, -⟩ := cells3 kX.out
                  exact ⟨m0, m1, m2, heap_lt kX.out, kB.out.trans (kA.out.mono kB.out.size)⟩)
                rw [← hmb]
                generalize wr.alloc (.cells #[.string (mk x.name), .int .i64 x.date, .slice da x.data.length dc] 37) = w2 at *
                have kmb := Lib.hid hmb
                clear hmb kX hc0 hc1 hc2 hbl
                have m0 := kH.out.c0
                have m1 := kH.out.c1
                have m2 := kH.out.c2
                have hml := kH.out.lt
                have kIt := Lib.hid (itoa_calls (ktab.out.on kH.out.below) (tn : Int) (by omega) (by omega))
                have kin := Lib.hid (itoa_nat tn)
                have his : (mk (Go.Lib.itoa (tn : Int))).size ≤ 20 := by
                  rw [mk_size, kin.out]
                  exact Nat.le_trans (dec12 (n := tn) (by omega)) (by decide)
                go_upto_if 52 with (fail)
                go_cut [8, 11] from 52 to 61 (fun av nm wx => av = .int .i64 ((tableB (l.take (k + 1))).length : Nat) ∧ nm = .string (mk (nameB tn x)) ∧ Below w2.heap.size w2 wx)
                case first =>
                  by_cases hnm : 15 < x.name.length
                  · have hd : decide ((15 : Int) < (x.name.length : Int)) = true := decide_eq_true (by omega)
                    obtain ⟨a2, ha2⟩ : ∃ a2 : Nat, a2 = x.name.length + 2 := ⟨_, rfl⟩
                    obtain ⟨t1, ht1⟩ : ∃ t1 : Nat, t1 = tn + a2 := ⟨_, rfl⟩
                    have e1 : IntKind.i64.wrap ((x.name.length : Int) + 2) = (a2 : Int) := by rw [IntWalk.i64_in _ (by omega)]; omega
                    have e2 : IntKind.i64.wrap ((tn : Int) + (a2 : Int)) = (t1 : Int) := by rw [IntWalk.i64_in _ (by omega)]; omega
                    have ka := Lib.hid (And.intro ha2 ht1)
                    have ktn := Lib.hid htn
                    have knm := Lib.hid hnm
                    clear ha2 ht1 htn hnm htl1 htl2
                    simp only [hd]
                    go_wp2_with (go_at_call 27; refine kIt.out.mono ?_; rintro e w3 ⟨rfl, hb⟩; have kb3 := Lib.hid hb; have hm3 := (kH.out.on hb).c0; have hl3 := (kH.out.on hb).lt; clear hb)
                    go_meet
                    case rel =>
                      refine ⟨?_, ?_, kb3.out⟩
                      · obtain ⟨h1, h2⟩ := ka.out
                        have h3 := ktk.out.1
                        rw [if_pos knm.out] at h3
                        rw [h3, List.length_append, List.length_append, ← ktn.out]
                        show Value.int .i64 (t1 : Int) = .int .i64 ((tn + x.name.length + 2 : Nat) : Int)
                        congr 1
                        omega
                      · have h4 : nameB tn x = 47 :: Go.Lib.decDigits tn := by unfold nameB longM; rw [if_pos (by simpa using knm.out)]
                        rw [h4, kin.out, show (⟨#[47]⟩ : ByteArray) = mk [47] from rfl, mk_append]
                        rfl
                  · have hd : decide ((15 : Int) < (x.name.length : Int)) = false := decide_eq_false (by omega)
                    have ktn := Lib.hid htn
                    have knm := Lib.hid hnm
                    clear htn hnm htl1 htl2
                    simp only [hd]
                    go_wp2_with fail
                    go_meet
                    case rel =>
                      refine ⟨?_, ?_, Below.refl _ _⟩
                      · have h3 := ktk.out.1
                        rw [if_neg knm.out] at h3
                        rw [h3, ktn.out]
                      · have h4 : nameB tn x = x.name ++ [47] := by unfold nameB longM; rw [if_neg (by simpa using knm.out)]
                        rw [h4, show (⟨#[47]⟩ : ByteArray) = mk [47] from rfl, mk_append]
                case rest =>
                  obtain ⟨rfl, rfl, hb⟩ := hcut
                  have kH0 := Lib.hid ((kH.out.on hb).on (below_drew wc))
                  have kbc := Lib.hid hb
                  have hIt := Lib.hid (itoa_calls (ktab.out.on kH0.out.below) x.date (by omega) (by omega))
                  have ktn := Lib.hid htn
                  clear hb m0 m1 m2 hml kIt his htn
                  go_wp2_with fail
                  refine lbegin 8 (WriteH w mb (.string (mk x.name)) (.int .i64 x.date) (.slice da x.data.length dc)) (by kernel_rfl) ?_
                  refine ltake 8 0 (some 62) ?_ rfl kH0.out (by rfl) (fun w' hw => ?_) ?_
                  rotate_left 1
                  · have p0 := hw.c0; have p1 := hw.c1; have p2 := hw.c2; have pl := hw.lt; go_simp; first | done | with_reducible rfl
                  try simp only [Act.put, List.setIfInBounds_toArray, List.set_cons_zero, List.set_cons_succ]
                  refine ltake 8 1 (some 63) ?_ rfl kH0.out (by rfl) (fun w' hw => ?_) ?_
                  rotate_left 1
                  · have p0 := hw.c0; have p1 := hw.c1; have p2 := hw.c2; have pl := hw.lt; go_simp; first | done | with_reducible rfl
                  try simp only [Act.put, List.setIfInBounds_toArray, List.set_cons_zero, List.set_cons_succ]
                  refine ltake 8 2 (some 64) ?_ rfl kH0.out (by rfl) (fun w' hw => ?_) ?_
                  rotate_left 1
                  · have p0 := hw.c0; have p1 := hw.c1; have p2 := hw.c2; have pl := hw.lt; go_simp; first | done | with_reducible rfl
                  try simp only [Act.put, List.setIfInBounds_toArray, List.set_cons_zero, List.set_cons_succ]
                  refine ltake 8 3 (some 65) ?_ rfl kH0.out (by rfl) (fun w' hw => ?_) ?_
                  rotate_left 1
                  · have p0 := hw.c0; have p1 := hw.c1; have p2 := hw.c2; have pl := hw.lt; go_simp; first | done | with_reducible rfl
                  try simp only [Act.put, List.setIfInBounds_toArray, List.set_cons_zero, List.set_cons_succ]
                  refine ltake 8 5 (some 67) ?_ rfl kH0.out (by rfl) (fun w' hw => ?_) ?_
                  rotate_left 1
                  · have p0 := hw.c0; have p1 := hw.c1; have p2 := hw.c2; have pl := hw.lt; go_simp; first | done | with_reducible rfl
                  try simp only [Act.put, List.setIfInBounds_toArray, List.set_cons_zero, List.set_cons_succ]
                  refine ltake 8 6 (some 68) ?_ rfl kH0.out (by rfl) (fun w' hw => ?_) ?_
                  rotate_left 1
                  · have p0 := hw.c0; have p1 := hw.c1; have p2 := hw.c2; have pl := hw.lt; go_simp; first | done | with_reducible rfl
                  try simp only [Act.put, List.setIfInBounds_toArray, List.set_cons_zero, List.set_cons_succ]
                  refine lready (rs := [4]) (by kernel_rfl) (by simp) (lcons rfl (fun K hK => ?_) (lnil))
                  rw [if_pos (by rfl)]
                  go_simp
                  refine hIt.out.mono ?_
                  rintro e w5 ⟨rfl, hb⟩
                  have kb5 := Lib.hid hb
                  have kH5 := Lib.hid (kH0.out.on hb)
                  clear hb
                  refine hK.out _ _ (fun _ => kH5.out) (fun _ => ?_)
                  clear hK K
                  try simp only [Act.put, List.setIfInBounds_toArray, List.set_cons_zero, List.set_cons_succ]
                  have kC := Lib.hid (((kA.out.trans (kbc.out.mono kA.out.size)).trans ((below_drew wc).mono (Nat.le_trans kA.out.size kbc.out.size))).trans (kb5.out.mono (Nat.le_trans kA.out.size kbc.out.size)))
                  have kP := Lib.hid (put_calls (w := w5) (B := w.heap.size) (v := u6) (xs := magicB ++ headsB l ++ bodyB 0 (l.take k)) (name := nameB tn x) (date := Go.Lib.itoa x.date) (owner := [48]) (mode := [49, 48, 48, 54, 52, 52]) (data := x.data) (ktab.out.on kH5.out.below) kH5.out.below.size (kro.out.below kC.out) (kdv.out.of_heap (w' := w5) (S' := T) (fun j hj => kC.out.block j (Nat.lt_of_lt_of_le (kT.out j hj) kB.out.size)) (fun _ h => h)) (fun j hj => by
                    have h1 := kT.out j hj
                    refine ⟨Nat.lt_of_lt_of_le h1 kH5.out.below.size, fun e => ?_⟩
                    have h2 := (kro.out.own e).1
                    omega) (by have := name_len tn x (by omega); omega) (by have := date_len hfx.2.2.2.1 hfx.2.2.2.2; unfold dateB at this; omega) (by decide) (by decide) (by omega) (by
                      have h1 := pre_len l k
                      have h2 := arch_len kal.out kbig.out
                      have h3 := kbig.out
                      omega))
                  refine lready (rs := [7]) (by kernel_rfl) (by simp) (lcons rfl (fun K hK => ?_) (lnil))
                  rw [if_pos (by rfl)]
                  go_simp
                  refine kP.out.mono ?_
                  rintro e w6 ⟨a6, n6, c6, rfl, ho, hb, hg⟩
                  have ko6 := Lib.hid ho
                  have kB6' := Lib.hid (kH5.out.below.trans hb)
                  have kH6 := Lib.hid (kH5.out.touch hg (fun e => by have := (kro.out.own e).2; have := kmb.out; omega) hb)
                  clear ho hb hg
                  refine hK.out _ _ (fun _ => kH6.out) (fun _ => ?_)
                  clear hK K
                  try simp only [Act.put, List.setIfInBounds_toArray, List.set_cons_zero, List.set_cons_succ]
                  refine lready (rs := [8]) (by kernel_rfl) (by simp) (lcons rfl (fun K hK => ?_) (lnil))
                  rw [if_pos (by rfl)]
                  go_simp
                  refine hK.out _ _ (fun h => absurd rfl h) (fun _ => ?_)
                  clear hK K
                  refine ldone (by kernel_rfl) ?_ _
                  go_wp2_with fail
                  have h9 := ktk.out.2
                  refine ⟨⟨k + 1, by omega, by go_num, rfl, ?_, kB6'.out⟩, by simp [intOf]; omega⟩
                  refine ⟨by rw [List.append_assoc]; exact magic_pos _, Or.inl ?_⟩
                  rw [h9, ← ktn.out, ← List.append_assoc]
                  exact ko6.out
              · have hkl : k = l.length := by omega
                have y4 : ¬ (k : Int) < (l.length : Int) := by omega
                have kf := kro.out
                rw [hkl, List.take_length] at kf
                have kf9 := Lib.hid kf
                clear kf hkl
                go_wp2_with fail
                go_ret2
                rw [kar.out]
                exact ⟨_, rfl, Or.inr kf9.out, kB.out⟩
end
end Go.Proofs.YtnjagoglabllaaaGreatDoor
