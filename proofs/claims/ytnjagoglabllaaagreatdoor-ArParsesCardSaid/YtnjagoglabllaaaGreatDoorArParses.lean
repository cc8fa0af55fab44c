/-
  ArParses answers true. Conditions: strconv.ErrSyntax holds an error; Itoa's table reads as laid; texts of at most 2^47 bytes.
-/
import Derived.Test.YtnjagoglabllaaaGreatDoorArParse
import Derived.Test.YtnjagoglabllaaaGreatDoorArMemb
import Derived.Test.YtnjagoglabllaaaGreatDoorArSpoil
import Derived.Test.YtnjagoglabllaaaGreatDoorArWrites
namespace Go.Proofs.YtnjagoglabllaaaGreatDoor
open Go.RowKit

/-- What a list is that was read out of bytes. -/
def ReadIs (b : Bs) (l : List Mem) (ec : Int) : Prop :=
  (archP l = (b, 0) ∧ ec = 0) ∨ (l = [] ∧ (∀ l', archP l' ≠ (b, 0)) ∧ ec = if 65536 < b.length then 2 else 20)
theorem ReadIs.one {b : Bs} {l m : List Mem} {e f : Int} (h1 : ReadIs b l e) (h2 : ReadIs b m f) : l = m ∧ e = f := by
  rcases h1 with ⟨h1, rfl⟩ | ⟨rfl, h1, rfl⟩
  · rcases h2 with ⟨h2, rfl⟩ | ⟨rfl, h2, rfl⟩
    · have a1 := read_arch h1
      have a2 := read_arch h2
      rw [a1] at a2; injection a2 with a2
      exact ⟨a2, rfl⟩
    · exact absurd h1 (h2 _)
  · rcases h2 with ⟨h2, rfl⟩ | ⟨rfl, h2, rfl⟩
    · exact absurd h2 (h1 _)
    · exact ⟨rfl, rfl⟩
theorem ReadIs.len {b : Bs} {l : List Mem} {e : Int} (h : ReadIs b l e) : l.length ≤ b.length + 1 := by
  rcases h with ⟨h, -⟩ | ⟨rfl, -⟩
  · exact (readP_bounds (read_arch h)).1
  · exact Nat.zero_le _
theorem ParsePost.any {w w' : World} {b : Bs} {e : Ending} (h : ParsePost w b e w') : ∃ l a c ec, e = .returned (.tuple #[.slice a l.length c, .int .i64 ec]) ∧ MemsAt w' (.slice a l.length c) l (fun j => w.heap.size ≤ j ∧ j < w'.heap.size) ∧ ReadIs b l ec ∧ Below w.heap.size w w' := by
  obtain ⟨⟨l, a, c, L, hl, rfl, hLm, hLo⟩ | ⟨hno, rfl⟩, hb⟩ := h
  · exact ⟨l, a, c, 0, rfl, by have h := hLo.mems; rwa [hLm] at h, Or.inl ⟨hl, rfl⟩, hb⟩
  · exact ⟨[], none, 0, _, rfl, MemsAt.nil _ _, Or.inr ⟨rfl, hno, rfl⟩, hb⟩
theorem ParsePost.spoil {w w' : World} {b : Bs} {e : Ending} (h : ParsePost w b e w') (hb : b.length ≤ 70000) : ∃ n a c ec, e = .returned (.tuple #[.slice a n c, .int .i64 ec]) ∧ MSpoil w' w.heap.size w'.heap.size (.slice a n c) n ∧ n ≤ 70001 ∧ Below w.heap.size w w' := by
  obtain ⟨⟨l, a, c, L, hl, rfl, hLm, hLo⟩ | ⟨hno, rfl⟩, hbb⟩ := h
  · have hbd := readP_bounds (read_arch hl)
    have hn : L.length = l.length := by rw [← hLm, List.length_map]
    refine ⟨l.length, a, c, 0, rfl, ?_, by omega, hbb⟩
    rw [← hn] at hLo ⊢
    exact hLo.spoil (fun x hx => by have := hbd.2 x.m (by rw [← hLm]; exact List.mem_map_of_mem hx); omega)
  · exact ⟨0, none, 0, _, rfl, ⟨none, 0, rfl, fun h => absurd h (Nat.lt_irrefl _)⟩, by omega, hbb⟩
theorem MembPost.any {w w' : World} {b : Bs} {e : Ending} (h : MembPost w b e w') : ∃ l a c ec, e = .returned (.tuple #[.slice a l.length c, .int .i64 ec]) ∧ MemsAt w' (.slice a l.length c) l (fun j => j < w'.heap.size) ∧ ReadIs b l ec ∧ Below w.heap.size w w' := by
  obtain ⟨⟨l, v, hl, rfl, hLo⟩ | ⟨hno, rfl⟩, hb⟩ := h
  · obtain ⟨a, c, rfl⟩ := hLo.form
    exact ⟨l, a, c, 0, rfl, hLo, Or.inl ⟨hl, rfl⟩, hb⟩
  · exact ⟨[], none, 0, _, rfl, MemsAt.nil _ _, Or.inr ⟨rfl, hno, rfl⟩, hb⟩

section
variable {v1 v2 : Value} {b o : Bs} {S1 S2 : Nat → Prop} {w : World}
set_option maxRecDepth 100000 in
set_option maxHeartbeats 8000000 in
theorem parses_calls (htab : Tab w.heap.size w) (herr : ErrV w) (h1 : BytesAt w v1 b S1) (hS1 : ∀ k, S1 k → k < w.heap.size) (hbl : b.length ≤ 140737488355328) (h2 : BytesAt w v2 o S2) (hS2 : ∀ k, S2 k → k < w.heap.size) (hol : o.length ≤ 140737488355328) :
    Calls Tryz.prog 4 #[v1, v2] w fun e w' => e = .returned (.bool true) ∧ Below w.heap.size w w' := by
  obtain ⟨a1, c1, e1⟩ := h1.form
  obtain ⟨a2, c2, e2⟩ := h2.form
  subst e1 e2
  have k1 := Lib.hid (fun (W : World) (h : Below w.heap.size w W) => h1.of_heap (w' := W) (S' := S1) (fun j hj => h.block j (hS1 j hj)) (fun _ h => h))
  have k2 := Lib.hid (fun (W : World) (h : Below w.heap.size w W) => h2.of_heap (w' := W) (S' := S2) (fun j hj => h.block j (hS2 j hj)) (fun _ h => h))
  have kS1 := Lib.hid (fun (W : World) (h : Below w.heap.size w W) (j : Nat) (hj : S1 j) => Nat.lt_of_lt_of_le (hS1 j hj) h.size)
  have kS2 := Lib.hid (fun (W : World) (h : Below w.heap.size w W) (j : Nat) (hj : S2 j) => Nat.lt_of_lt_of_le (hS2 j hj) h.size)
  have ktab := Lib.hid htab
  have kerr := Lib.hid (fun (W : World) (h : Below w.heap.size w W) => herr.on h herr.2)
  have kA := Lib.hid (alive_calls w htab)
  clear h1 h2 hS1 hS2 htab herr
  go_enter Tryz.func4, Tryz.ntmps4
  go_upto_region 2 with (go_at_call 8; refine kA.out.mono ?_; rintro e w2 ⟨rfl, hb2⟩; have kb2 := Lib.hid hb2; clear hb2)
  clear kA
  by_cases hlong : 70000 < b.length
  · have y0 : (70000 : Int) < (b.length : Int) := by omega
    go_wp2_with fail
    go_ret
    exact ⟨rfl, kb2.out⟩
  have y0 : ¬ (70000 : Int) < (b.length : Int) := by omega
  by_cases hlong2 : 70000 < o.length
  · have y1 : (70000 : Int) < (o.length : Int) := by omega
    go_wp2_with fail
    go_ret
    exact ⟨rfl, kb2.out⟩
  have y1 : ¬ (70000 : Int) < (o.length : Int) := by omega
  clear hbl hol
  have kb1 := Lib.hid (k1.out _ kb2.out)
  obtain ⟨n1, hn1⟩ : ∃ n1, (b ++ [167]).length = n1 := ⟨_, rfl⟩
  have hn2 : b.length + 1 = n1 := by rw [← hn1]; simp
  go_upto_region 4 with fail
  go_upto_region 5 with (first | (at_builtin; (refine wpList_append_bytes _ rfl _ _ rfl w2.heap.size (.slice none 0 0) [] rfl (World.ownsRow_nil _ _ _ _) (.slice a1 b.length c1) b _ rfl kb1.out (by simp; omega) (Nat.le_refl _) ?_; intro a4 c4 w4 ho4 hg4; rw [List.nil_append] at ho4; have k4 := Lib.hid ho4; have kB4 := Lib.hid (below_none (Below.refl w2.heap.size w2) (v := .slice none 0 0) hg4 (fun k e => by cases e)); have hz4 := hg4.size; clear ho4 hg4)) | (at_builtin; (refine wpList_append_bytes _ rfl _ _ rfl w2.heap.size (.slice a4 b.length c4) b rfl (k4.out.alloc (.cells #[.int .u8 167] 5)) (.slice (some ⟨w4.heap.size, 0, none⟩) 1 1) [167] (fun j => j = w4.heap.size) rfl (one_byte w4) (by simp; omega) (by simp; omega) ?_; intro a6 c6 w6 ho6 hg6; obtain ⟨g, rfl⟩ := buffer_of rfl ho6; have kU := Lib.hid (ubytes_less ho6); have kX6 := Lib.hid (show OutX w6 w2.heap.size (.slice (some ⟨g, 0, none⟩) (b ++ [167]).length c6) (b ++ [167]) from Or.inr ⟨by simp, Or.inl ho6⟩); have kB6 := Lib.hid (lent_row kB4.out kB4.out.size hg6 (fun g e => (k4.out.lt g e).1)); have hz6 := hg6.size; clear ho6 hg6)))
  have kb6 := Lib.hid (kb2.out.trans (kB6.out.mono kb2.out.size))
  have hcap := kU.out.2.1
  have hgr := kU.out.2.2
  have kP := Lib.hid (parse_calls kU.out.1.1 (fun j hj => by subst hj; exact hgr.2.1) (by omega) (kerr.out _ kb6.out) ((ktab.out.on kb6.out).mono kb6.out.size))
  go_upto_region 6 with (go_at_call 15; refine kP.out.mono ?_; rintro e w7 hp; obtain ⟨l, la, lc, ec, rfl, hM, hR, hb⟩ := hp.any; have kM := Lib.hid hM; have kR := Lib.hid hR; have kb67 := Lib.hid hb; clear hp hM hR hb)
  have kb7 := Lib.hid (kb6.out.trans (kb67.out.mono kb6.out.size))
  have kU7 := Lib.hid (kU.out.1.1.of_heap (w' := w7) (S' := fun j => j = g) (fun j hj => kb67.out.block j (by subst hj; exact hgr.2.1)) (fun _ h => h))
  have hcv1 := bytes_drew kU7.out
  have hcv2 := bytes_drew (k1.out _ kb7.out)
  have c167 := (kb67.out.cell (p := ⟨g, b.length, none⟩) hgr.2.1).trans hgr.2.2
  have f1 : ((mk b).toList == (mk b).toList) = true := beq_self_eq_true _
  have kX7 := Lib.hid ((kX6.out.on kb67.out).loose (by rw [hn1]; omega))
  rw [hn1] at kX7
  have y2 : (b.length : Int) < (n1 : Int) := by omega
  clear kP kb1
  go_quiet (fail)
  go_wp2_with fail
  go_loopw [10] (fun iv wr => ∃ k : Nat, k ≤ n1 ∧ iv = .int .i64 k ∧ XLoose wr w2.heap.size (.slice (some ⟨g, 0, none⟩) n1 c6) n1 ∧ Kept (fun j => j = g) w7 wr) (fun iv _ => n1 - (intOf iv).toNat)
  case atStart => exact ⟨0, Nat.zero_le _, rfl, kX7.out, (Kept.refl _ w7).drewN nq⟩
  case round =>
    obtain ⟨k, hk, rfl, hX, hK⟩ := hrel
    have kX := Lib.hid hX
    have kK := Lib.hid hK
    clear hX hK
    by_cases hlt : k < n1
    · obtain ⟨g', u, hg', hgB, hgl, hcu, hfu⟩ := kX.out.at hlt
      injection hg' with hg'
      injection hg' with hg'
      subst hg'
      have y3 : (k : Int) < (n1 : Int) := by omega
      go_wp2_with fail
      obtain ⟨u', hu'⟩ := xor_byte u
      rw [hu']
      exact ⟨⟨k + 1, by omega, by go_num, kX.out.put _ _ rfl _, kK.out.trans (S' := fun j => j = g) (Kept.grown (set_grown _ _ _ _) (fun k e => by injection e with e; exact e.symm)) (fun j hj => Or.inl hj)⟩, by simp [intOf]; omega⟩
    · have y3 : ¬ (k : Int) < (n1 : Int) := by omega
      have hw2 := kb2.out.size
      have hw6 := kb67.out.size
      have kb8 := Lib.hid (below_kept kb7.out (kK.out.weaken (S' := fun j => w.heap.size ≤ j) (fun j hj => by subst hj; omega)) kb7.out.size)
      have kP2 := Lib.hid (parse_calls (k2.out _ kb8.out) (kS2.out _ kb8.out) (by omega) (kerr.out _ kb8.out) ((ktab.out.on kb8.out).mono kb8.out.size))
      have kM8 := Lib.hid (kM.out.of_heap (w' := wr) (T' := fun j => j < wr.heap.size) (fun j hj => kK.out.block j hj.2 (by omega)) (fun j hj => Nat.lt_of_lt_of_le hj.2 kK.out.size))
      obtain ⟨w8, hw8⟩ : ∃ x, x = wr := ⟨_, rfl⟩
      subst hw8
      go_upto_region 12 with (go_at_call 15; refine kP2.out.mono ?_; rintro e w9 hp; obtain ⟨n, ma, mc, ed, rfl, hS, hn, hb⟩ := hp.spoil (by omega); have kI := Lib.hid (MInv.make (Below.refl _ _) hS); have kb89 := Lib.hid hb; have kn := Lib.hid hn; clear hp hS hb hn)
      have hn := kn.out
      clear kP2 kX kn
      go_wp2_with fail
      go_loopw [13, 14] (fun iv _ wr => ∃ i : Nat, i ≤ n ∧ iv = .int .i64 i ∧ MInv w9 w8.heap.size w9.heap.size (.slice ma n mc) n wr) (fun iv _ _ => n - (intOf iv).toNat)
      case atStart => exact ⟨0, Nat.zero_le _, rfl, kI.out⟩
      case round =>
        obtain ⟨i, hi, rfl, hI⟩ := hrel
        have kJ := Lib.hid hI
        clear hI
        by_cases hlt2 : i < n
        · obtain ⟨a', c', e', h0⟩ := kJ.out.at'
          injection e' with e1 e2 e3
          subst e1
          obtain ⟨g2, cur, rfl, hgB, hgh, hg, hsz, hmems⟩ := h0 (by omega)
          obtain ⟨dv, hdv, hul⟩ := hmems i hlt2
          have hdc : wr.cell? ⟨g2, i * 3 + 2, none⟩ = some dv := by rw [cell_of_row wr g2 _ cur 37 (0, 0) hg]; exact hdv
          obtain ⟨da, dn, dc, hdf, hdn, hbytes⟩ := hul
          subst hdf
          have kul := Lib.hid (show ULoose wr w8.heap.size w9.heap.size g2 (.slice da dn dc) from ⟨da, dn, dc, rfl, hdn, hbytes⟩)
          have y4 : (i : Int) < (n : Int) := by omega
          have hgl := heap_lt hg
          clear hmems hdv hbytes hg hsz e2 e3 h0
          go_wp2_with fail
          go_loopw [14] (fun kv wr => ∃ k : Nat, k ≤ dn ∧ kv = .int .i64 k ∧ MInv w9 w8.heap.size w9.heap.size (.slice (some ⟨g2, 0, none⟩) n mc) n wr ∧ ULoose wr w8.heap.size w9.heap.size g2 (.slice da dn dc) ∧ wr.cell? ⟨g2, i * 3 + 2, none⟩ = some (.slice da dn dc)) (fun kv _ => dn - (intOf kv).toNat)
          case atStart => exact ⟨0, Nat.zero_le _, rfl, kJ.out, kul.out, hdc⟩
          case round =>
            obtain ⟨k2, hk2, rfl, hI2, hU2, hd2⟩ := hrel
            have kI2 := Lib.hid hI2
            have kU2 := Lib.hid hU2
            clear hI2 hU2
            by_cases hlt3 : k2 < dn
            · obtain ⟨a2, n2, c2, e', -, h2⟩ := kU2.out
              injection e' with e1 e2 e3
              subst e1 e2
              obtain ⟨bb, oo, cur2, rfl, hbB, hbh, hbg, hbc, hbs⟩ := h2 (by omega)
              obtain ⟨u, hu⟩ := hbs k2 hlt3
              have hcu : wr.cell? ⟨bb, oo + k2, none⟩ = some (.int .u8 u.toNat) := by rw [cell_of_row wr bb _ cur2 5 (0, 0) hbc]; exact hu
              have hfu : wr.frozen? ⟨bb, oo + k2, none⟩ = false := Go.Joins.unfrozen_of_block hbc _
              have hbl3 := heap_lt hbc
              have y5 : (k2 : Int) < (dn : Int) := by omega
              clear hbs hu hbc
              go_wp2_with fail
              go_region
              go_wp2_with fail
              obtain ⟨u', hu'⟩ := xor_byte u
              rw [hu']
              have kq := Lib.hid (kI2.out.byte (o := oo + k2) (u := u') hbB hbg)
              exact ⟨⟨k2 + 1, by omega, by go_num, kq.out.drew 1, kU2.out.put _ _ _, (World.cell?_of_block (a := ⟨g2, _, none⟩) (Below.heap_setCell _ _ _ _ (fun e => hbg e.symm))).trans hd2⟩, by simp [intOf]; omega⟩
            · have y5 : ¬ (k2 : Int) < (dn : Int) := by omega
              obtain ⟨a', c', e', h0⟩ := kI2.out.at'
              injection e' with e1 e2 e3
              subst e1
              obtain ⟨g', cur', e', -, -, hg, hsz, -⟩ := h0 (by omega)
              injection e' with e'; injection e' with e'
              subst e'
              have hfr := Go.Joins.unfrozen_of_block hg (i * 3)
              have hgl := heap_lt hg
              obtain ⟨v0, hv0⟩ : ∃ v, wr.cell? ⟨g2, i * 3, none⟩ = some v := ⟨_, by rw [cell_of_row wr g2 _ cur' 37 (0, 0) hg]; exact Array.getElem?_eq_getElem (by omega)⟩
              clear hg e2 e3 h0
              go_wp2_with fail
              exact ⟨⟨i + 1, by omega, by go_num, kI2.out.name hlt2⟩, by simp [intOf]; omega⟩
        · have y4 : ¬ (i : Int) < (n : Int) := by omega
          have hb9 := kJ.out.below
          have kb9 := Lib.hid ((kb8.out.trans (kb89.out.mono kb8.out.size)).trans (kJ.out.below.mono (by have := kb8.out.size; omega)))
          have kMb := Lib.hid (members_calls (k1.out _ kb9.out) (kS1.out _ kb9.out) (by omega))
          have kM9 := Lib.hid (kM8.out.of_heap (w' := wr) (T' := fun j => j < wr.heap.size) (fun j hj => (hb9.block j hj).trans (kb89.out.block j hj)) (fun j hj => Nat.lt_of_lt_of_le hj (Nat.le_trans kb89.out.size hb9.size)))
          obtain ⟨wa, hwa⟩ : ∃ x, x = wr := ⟨_, rfl⟩
          subst hwa
          go_upto_region 21 with (go_at_call 16; refine kMb.out.mono ?_; rintro e wb hp; obtain ⟨m, na, nc, ef, rfl, hM2, hR2, hb⟩ := hp.any; obtain ⟨rfl, rfl⟩ := kR.out.one hR2; have kM2 := Lib.hid hM2; have kba := Lib.hid hb; clear hp hM2 hR2 hb)
          have kb10 := Lib.hid (kb9.out.trans (kba.out.mono kb9.out.size))
          have kMl := Lib.hid (kM9.out.of_heap (w' := wb) (T' := fun j => j < wb.heap.size) (fun j hj => kba.out.block j hj) (fun j hj => Nat.lt_of_lt_of_le hj kba.out.size))
          have hll := kR.out.len
          have hSm := Lib.hid (same_calls kMl.out kM2.out (fun _ h => h) (fun _ h => h) (by omega) (by omega))
          rw [sameB_true rfl] at hSm
          have f2 : (ec == ec) = true := beq_self_eq_true _
          go_wp2_with (first | (go_at_call 14; refine (num_calls _ _).mono ?_; rintro e w0 ⟨rfl, rfl⟩) | (go_at_call 17; refine hSm.out.mono ?_; rintro e wd ⟨rfl, hb6⟩; have kbd := Lib.hid (kb10.out.trans (hb6.mono kb10.out.size)); clear hb6))
          go_ret
          exact ⟨rfl, kbd.out⟩
end
end Go.Proofs.YtnjagoglabllaaaGreatDoor
