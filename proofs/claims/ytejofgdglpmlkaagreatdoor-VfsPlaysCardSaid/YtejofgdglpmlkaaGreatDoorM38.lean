/-
  change: a call of both, and what it answers. Conditions: a tree that is right, texts of at most 2^31 bytes; the library's variable is laid.
-/
import Derived.Test.YtejofgdglpmlkaaGreatDoorM36
import Derived.Test.YtejofgdglpmlkaaGreatDoorM37
import Derived.Test.YtejofgdglpmlkaaGreatDoorM31
import Derived.Test.YtejofgdglpmlkaaGreatDoorM28
import Derived.Deep.DeepCutAuto
import Derived.Deep.CutBlock
namespace Go.Proofs.YtejofgdglpmlkaaGreatDoor
open Go.RowKit

theorem tmod9 (a : Int) : a.tmod 9 = 0 ∨ a.tmod 9 = 1 ∨ a.tmod 9 = 2 ∨ a.tmod 9 = 3 ∨ a.tmod 9 = 4 ∨ a.tmod 9 = 5 ∨ a.tmod 9 < 0 ∨ 5 < a.tmod 9 := by omega
/-- The buffer that is handed to Write. -/
theorem buffer_of {w : World} {B n c : Nat} {a : Option Addr} {d : Bs} (hn : n = (d ++ [167]).length) (h : w.ownsRow B 5 1 (.slice a n c) n (ucells (d ++ [167]))) : ∃ g, a = some ⟨g, 0, none⟩ := by
  subst hn
  rcases h.2 with ⟨e, _⟩ | ⟨g', cap, cur, e, hb, hg, hn, hm, hs, ht⟩
  · injection e with e1 e2; simp at e2
  · injection e with e1 e2 e3
    exact ⟨g', e1⟩
theorem one_byte (w : World) : BytesAt (w.alloc (.cells #[.int .u8 167] 5)) (.slice (some ⟨w.heap.size, 0, none⟩) 1 1) [167] (fun j => j = w.heap.size) := by
  refine ⟨_, 1, rfl, Nat.le_refl _, by decide, (fun e => by cases e), fun _ => ⟨w.heap.size, 0, rfl, rfl, by simp, fun k y hk => ?_⟩⟩
  match k, hk with
  | 0, hk =>
    simp at hk; subst hk
    exact one_new w _ _
theorem UBytes.loose {w : World} {B hi : Nat} {v : Value} {d : Bs} (h : UBytes w v d (fun k => B ≤ k ∧ k < hi)) (hd : d.length ≤ 1099511627776) : ULoose w B hi hi v := by
  obtain ⟨⟨a, c, e, h1, h2, h3, h4⟩, h5⟩ := h
  refine ⟨a, _, c, e, hd, fun hl => ?_⟩
  obtain ⟨b, off, e1, hs, hb, hc⟩ := h4 hl
  subst e1
  obtain ⟨cur, hcur⟩ := h5 b off _ c e hl
  refine ⟨b, off, cur, rfl, hs.1, hs.2, by omega, hcur, fun k hk => ?_⟩
  obtain ⟨y, hy⟩ : ∃ y, d[k]? = some y := ⟨_, List.getElem?_eq_getElem hk⟩
  have := hc k y hy
  rw [cell_of_row w b (off + k) cur 5 (0, 0) hcur] at this
  exact ⟨y, this⟩
section
variable {w : World} {f fb : Nat} {S R Tb : Nat → Prop} {st : St} {clock room : Int} {x : OpD} {da : Option Addr} {dc : Nat}
set_option maxRecDepth 100000 in
set_option maxHeartbeats 16000000 in
theorem change_law (hB : Both w f fb S R st clock room) (hw : Wf st clock room) (hb : BytesAt w (.slice da x.b.length dc) x.b Tb) (hTb : ∀ k, Tb k → ¬ S k ∧ ¬ R k ∧ k < w.heap.size) (hp : x.p.length ≤ 2147483647) (hq : x.q.length ≤ 2147483647) (hxb : x.b.length ≤ 1099511627775) (hlw : Laid w) :
    Calls Tryz.prog 23 #[.pointer (some ⟨f, 0, none⟩), .pointer (some ⟨fb, 0, none⟩), .agg #[.int .i64 x.kind, .string (mk x.p), .string (mk x.q), .slice da x.b.length dc]] w fun e w' => e = .returned (.bool true) ∧ BothPost w f fb S R room (chRes st clock room x) w' := by
  have kBo := Lib.hid hB
  have kw := Lib.hid hw
  have kb := Lib.hid hb
  have kTb := Lib.hid hTb
  have klw := Lib.hid hlw
  have hl0 := hlw.lt
  have kX1 := Lib.hid (heap_alloc_new w (.cells #[.int .i64 x.kind, .string (mk x.p), .string (mk x.q), .slice da x.b.length dc] 43))
  have kW1 := Lib.hid (below_al (o := .cells #[.int .i64 x.kind, .string (mk x.p), .string (mk x.q), .slice da x.b.length dc] 43) (Below.refl w.heap.size w))
  clear hB hw hb hTb hlw
  go_enter Tryz.func23, Tryz.ntmps23
  go_upto_region 1 with (fail)
  have hz1 : w.heap.size < (w.alloc (.cells #[.int .i64 x.kind, .string (mk x.p), .string (mk x.q), .slice da x.b.length dc] 43)).heap.size := by simp
  generalize w.alloc (.cells #[.int .i64 x.kind, .string (mk x.p), .string (mk x.q), .slice da x.b.length dc] 43) = w1 at *
  obtain ⟨o0, o1, o2, o3, -⟩ := cells4 kX1.out
  have ol := heap_lt kX1.out
  have kb1 := Lib.hid (kb.out.of_heap (w' := w1) (fun j hj => kW1.out.block j (kTb.out j hj).2.2) (fun _ h => h))
  obtain ⟨n1, hn1⟩ : ∃ n1, (x.b ++ [167]).length = n1 := ⟨_, rfl⟩
  have hn2 : x.b.length + 1 = n1 := by rw [← hn1]; simp
  go_upto_region 4 with (first | (at_builtin; (refine wpList_append_bytes _ rfl _ _ rfl w1.heap.size (.slice none 0 0) [] rfl (World.ownsRow_nil _ _ _ _) (.slice da x.b.length dc) x.b _ rfl kb1.out (by simp; omega) (Nat.le_refl _) ?_; intro a4 c4 w4 ho4 hg4; rw [List.nil_append] at ho4; have k4 := Lib.hid ho4; have kB4 := Lib.hid (below_none (Below.refl w1.heap.size w1) (v := .slice none 0 0) hg4 (fun k e => by cases e)); have hz4 := hg4.size; clear ho4 hg4)) | (at_builtin; (refine wpList_append_bytes _ rfl _ _ rfl w1.heap.size (.slice a4 x.b.length c4) x.b rfl (k4.out.alloc (.cells #[.int .u8 167] 5)) (.slice (some ⟨w4.heap.size, 0, none⟩) 1 1) [167] (fun j => j = w4.heap.size) rfl (one_byte w4) (by simp; omega) (by simp; omega) ?_; intro a6 c6 w6 ho6 hg6; obtain ⟨g, rfl⟩ := buffer_of rfl ho6; have kU := Lib.hid (ubytes_less ho6); have kUall := Lib.hid (ubytes_own ho6); have kB6 := Lib.hid (lent_row kB4.out kB4.out.size hg6 (fun g e => (k4.out.lt g e).1)); have hz6 := hg6.size; clear ho6 hg6)))
  clear o0 o1 o2 o3 ol
  have kX6 := Lib.hid ((kB6.out.block _ hz1).trans kX1.out)
  obtain ⟨o0, o1, o2, o3, -⟩ := cells4 kX6.out
  have ol := heap_lt kX6.out
  have hz6w := kB6.out.size
  have kW6 := Lib.hid (kW1.out.trans (kB6.out.mono (by omega)))
  have kBo6 := Lib.hid (kBo.out.below kW6.out)
  have klw6 := Lib.hid (klw.out.below hl0 (kW6.out.mono (by omega)))
  have hcap := kU.out.2.1
  have hgr := kU.out.2.2
  go_upto_block 0 with fail
  go_cut [8, 9] from 19 to 97 (fun e c wx => e = .int .i64 (chRes st clock room x).1 ∧ c = .int .i64 (chRes st clock room x).1 ∧ BothPost w6 f fb S R room (chRes st clock room x) wx)
  case first =>
    obtain ⟨⟨mb, N, hF⟩, hR, hd⟩ := kBo6.out
    have kF := Lib.hid hF
    have kR := Lib.hid hR
    clear hF hR
    have hps : (mk x.p).size ≤ 2147483647 := by rw [mk_size]; exact hp
    have hqs : (mk x.q).size ≤ 2147483647 := by rw [mk_size]; exact hq
    have hSl : ∀ k, S k → k < w.heap.size := fun k hk => kBo.out.lt k (Or.inl hk)
    have hSl : ∀ k, S k → k < w.heap.size := fun k hk => kBo.out.lt k (Or.inl hk)
    rcases tmod9 x.kind with h | h | h | h | h | h | h | h
    · have kres := Lib.hid (show chRes st clock room x = writeRes st clock room (clean x.p) x.b false by unfold chRes; rw [if_pos h])
      have hOp := Lib.hid (write_all (w := w6.drew) (add := false) (p := mk x.p) (kF.out.below (below_drew w6)) kw.out hps (by rw [mk_list]) (kU.out.1.1.of_heap (w' := w6.drew) (fun _ _ => rfl) (fun _ h => h)) (fun k hk => ⟨fun hs => by have := hSl _ hs; omega, by have : w6.drew.heap.size = w6.heap.size := rfl; omega⟩) (by omega) (klw6.out.below (Nat.lt_of_lt_of_le hl0 kW6.out.size) (below_drew w6)))
      have hz8 : (0 : Int) ≤ (x.b.length : Int) := by omega
      have hz9 : (x.b.length : Int) ≤ (c6 : Int) := by omega
      go_upto_region 6 with (fail)
      have hH := And.intro o1 o3
      refine lbegin 9 (fun w' => w'.cell? ⟨w.heap.size, 1, none⟩ = some (.string (mk x.p)) ∧ w'.cell? ⟨w.heap.size, 3, none⟩ = some (.slice da x.b.length dc)) (by kernel_rfl) ?_
      refine ltake 9 0 (some 22) ?_ rfl hH (by rfl) (fun w' hw => ?_) ?_
      rotate_left 1
      · obtain ⟨p1, p3⟩ := hw; go_simp; first | done | with_reducible rfl
      try simp only [pz0, pz1, pz2, pz3]
      refine ltake 9 1 (some 23) ?_ rfl hH (by rfl) (fun w' hw => ?_) ?_
      rotate_left 1
      · obtain ⟨p1, p3⟩ := hw; go_simp; first | done | with_reducible rfl
      try simp only [pz0, pz1, pz2, pz3]
      refine ltake 9 2 (some 24) ?_ rfl hH (by rfl) (fun w' hw => ?_) ?_
      rotate_left 1
      · obtain ⟨p1, p3⟩ := hw; go_simp; first | done | with_reducible rfl
      try simp only [pz0, pz1, pz2, pz3]
      refine ltake 9 3 (some 25) ?_ rfl hH (by rfl) (fun w' hw => ?_) ?_
      rotate_left 1
      · obtain ⟨p1, p3⟩ := hw; go_simp; first | done | with_reducible rfl
      try simp only [pz0, pz1, pz2, pz3]
      refine ltake 9 4 (some 26) ?_ rfl hH (by rfl) (fun w' hw => ?_) ?_
      rotate_left 1
      · obtain ⟨p1, p3⟩ := hw; go_simp; first | done | with_reducible rfl
      try simp only [pz0, pz1, pz2, pz3]
      refine ltake 9 5 (some 27) ?_ rfl hH (by rfl) (fun w' hw => ?_) ?_
      rotate_left 1
      · obtain ⟨p1, p3⟩ := hw; go_simp; first | done | with_reducible rfl
      try simp only [pz0, pz1, pz2, pz3]
      refine ltake 9 6 (some 28) ?_ rfl hH (by rfl) (fun w' hw => ?_) ?_
      rotate_left 1
      · obtain ⟨p1, p3⟩ := hw; go_simp; first | done | with_reducible rfl
      try simp only [pz0, pz1, pz2, pz3]
      refine ltake 9 7 (some 29) (.slice (some ⟨g, 0, none⟩) x.b.length c6) rfl hH (by rfl) (fun w' hw => ?_) ?_
      · obtain ⟨p1, p3⟩ := hw; go_simp; first | done | (simp [sliced, addr_lit]; done)
      try simp only [pz0, pz1, pz2, pz3]
      refine lready (rs := [8]) (by kernel_rfl) (by simp) (lcons rfl (fun K hK => ?_) (lnil))
      rw [if_pos (by rfl)]
      go_simp
      refine hOp.out.mono ?_
      intro e wx hP0; have hP := hP0.after (below_drew w6); clear hP0; obtain rfl := hP.1; have kP := Lib.hid hP; have kX7 := Lib.hid ((hP.far (heap_lt kX6.out) (fun hs => Nat.lt_irrefl _ (hSl _ hs))).trans kX6.out); obtain ⟨fv, L, hR1⟩ := kR.out.same (fun k hk => hP.far (kR.out.ltR k hk) (fun hs => hd k hs hk)); have kb7 := Lib.hid (kb.out.of_heap (w' := wx) (S' := Tb) (fun j hj => (hP.far (by have := (kTb.out j hj).2.2; omega) (kTb.out j hj).1).trans (kW6.out.block j (kTb.out j hj).2.2)) (fun _ h => h)); have kOp2 := Lib.hid (refWrite_calls (add := false) (p := mk x.p) hR1 kw.out hps (by rw [mk_list]) kb7.out (fun k hk => by have := (kTb.out k hk).2.2; have := hP.size; omega) (by omega)); clear hP hR1; clear o0 o1 o2 o3 ol; obtain ⟨o0, o1, o2, o3, -⟩ := cells4 kX7.out; have ol := heap_lt kX7.out
      refine hK.out _ _ (fun _ => ⟨o1, o3⟩) (fun _ => ?_)
      clear hK K
      try simp only [pz0, pz1, pz2, pz3]
      refine lready (rs := [9]) (by kernel_rfl) (by simp) (lcons rfl (fun K hK => ?_) (lnil))
      rw [if_pos (by rfl)]
      go_simp
      refine hK.out _ _ (fun h => absurd rfl h) (fun _ => ?_)
      clear hK K
      refine ldone (by kernel_rfl) ?_ _
      go_wp2_with (go_at_call 41; refine kOp2.out.mono ?_; intro e wy hP2; obtain rfl := hP2.1; have kP2 := Lib.hid hP2; clear hP2)
      go_meet
      case rel => exact ⟨by rw [kres.out], by rw [kres.out], by rw [kres.out]; exact BothPost.of kBo6.out kP.out kP2.out⟩
    · have kres := Lib.hid (show chRes st clock room x = writeRes st clock room (clean x.p) x.b true by unfold chRes; rw [if_neg (by omega), if_pos h])
      have hOp := Lib.hid (write_all (w := w6.drew) (add := true) (p := mk x.p) (kF.out.below (below_drew w6)) kw.out hps (by rw [mk_list]) (kU.out.1.1.of_heap (w' := w6.drew) (fun _ _ => rfl) (fun _ h => h)) (fun k hk => ⟨fun hs => by have := hSl _ hs; omega, by have : w6.drew.heap.size = w6.heap.size := rfl; omega⟩) (by omega) (klw6.out.below (Nat.lt_of_lt_of_le hl0 kW6.out.size) (below_drew w6)))
      have hz8 : (0 : Int) ≤ (x.b.length : Int) := by omega
      have hz9 : (x.b.length : Int) ≤ (c6 : Int) := by omega
      go_upto_region 9 with (fail)
      have hH := And.intro o1 o3
      refine lbegin 9 (fun w' => w'.cell? ⟨w.heap.size, 1, none⟩ = some (.string (mk x.p)) ∧ w'.cell? ⟨w.heap.size, 3, none⟩ = some (.slice da x.b.length dc)) (by kernel_rfl) ?_
      refine ltake 9 0 (some 39) ?_ rfl hH (by rfl) (fun w' hw => ?_) ?_
      rotate_left 1
      · obtain ⟨p1, p3⟩ := hw; go_simp; first | done | with_reducible rfl
      try simp only [pz0, pz1, pz2, pz3]
      refine ltake 9 1 (some 40) ?_ rfl hH (by rfl) (fun w' hw => ?_) ?_
      rotate_left 1
      · obtain ⟨p1, p3⟩ := hw; go_simp; first | done | with_reducible rfl
      try simp only [pz0, pz1, pz2, pz3]
      refine ltake 9 2 (some 41) ?_ rfl hH (by rfl) (fun w' hw => ?_) ?_
      rotate_left 1
      · obtain ⟨p1, p3⟩ := hw; go_simp; first | done | with_reducible rfl
      try simp only [pz0, pz1, pz2, pz3]
      refine ltake 9 3 (some 42) ?_ rfl hH (by rfl) (fun w' hw => ?_) ?_
      rotate_left 1
      · obtain ⟨p1, p3⟩ := hw; go_simp; first | done | with_reducible rfl
      try simp only [pz0, pz1, pz2, pz3]
      refine ltake 9 4 (some 43) ?_ rfl hH (by rfl) (fun w' hw => ?_) ?_
      rotate_left 1
      · obtain ⟨p1, p3⟩ := hw; go_simp; first | done | with_reducible rfl
      try simp only [pz0, pz1, pz2, pz3]
      refine ltake 9 5 (some 44) ?_ rfl hH (by rfl) (fun w' hw => ?_) ?_
      rotate_left 1
      · obtain ⟨p1, p3⟩ := hw; go_simp; first | done | with_reducible rfl
      try simp only [pz0, pz1, pz2, pz3]
      refine ltake 9 6 (some 45) ?_ rfl hH (by rfl) (fun w' hw => ?_) ?_
      rotate_left 1
      · obtain ⟨p1, p3⟩ := hw; go_simp; first | done | with_reducible rfl
      try simp only [pz0, pz1, pz2, pz3]
      refine ltake 9 7 (some 46) (.slice (some ⟨g, 0, none⟩) x.b.length c6) rfl hH (by rfl) (fun w' hw => ?_) ?_
      · obtain ⟨p1, p3⟩ := hw; go_simp; first | done | (simp [sliced, addr_lit]; done)
      try simp only [pz0, pz1, pz2, pz3]
      refine lready (rs := [8]) (by kernel_rfl) (by simp) (lcons rfl (fun K hK => ?_) (lnil))
      rw [if_pos (by rfl)]
      go_simp
      refine hOp.out.mono ?_
      intro e wx hP0; have hP := hP0.after (below_drew w6); clear hP0; obtain rfl := hP.1; have kP := Lib.hid hP; have kX7 := Lib.hid ((hP.far (heap_lt kX6.out) (fun hs => Nat.lt_irrefl _ (hSl _ hs))).trans kX6.out); obtain ⟨fv, L, hR1⟩ := kR.out.same (fun k hk => hP.far (kR.out.ltR k hk) (fun hs => hd k hs hk)); have kb7 := Lib.hid (kb.out.of_heap (w' := wx) (S' := Tb) (fun j hj => (hP.far (by have := (kTb.out j hj).2.2; omega) (kTb.out j hj).1).trans (kW6.out.block j (kTb.out j hj).2.2)) (fun _ h => h)); have kOp2 := Lib.hid (refWrite_calls (add := true) (p := mk x.p) hR1 kw.out hps (by rw [mk_list]) kb7.out (fun k hk => by have := (kTb.out k hk).2.2; have := hP.size; omega) (by omega)); clear hP hR1; clear o0 o1 o2 o3 ol; obtain ⟨o0, o1, o2, o3, -⟩ := cells4 kX7.out; have ol := heap_lt kX7.out
      refine hK.out _ _ (fun _ => ⟨o1, o3⟩) (fun _ => ?_)
      clear hK K
      try simp only [pz0, pz1, pz2, pz3]
      refine lready (rs := [9]) (by kernel_rfl) (by simp) (lcons rfl (fun K hK => ?_) (lnil))
      rw [if_pos (by rfl)]
      go_simp
      refine hK.out _ _ (fun h => absurd rfl h) (fun _ => ?_)
      clear hK K
      refine ldone (by kernel_rfl) ?_ _
      go_wp2_with (go_at_call 41; refine kOp2.out.mono ?_; intro e wy hP2; obtain rfl := hP2.1; have kP2 := Lib.hid hP2; clear hP2)
      go_meet
      case rel => exact ⟨by rw [kres.out], by rw [kres.out], by rw [kres.out]; exact BothPost.of kBo6.out kP.out kP2.out⟩
    · have kres := Lib.hid (show chRes st clock room x = mkdirRes st clock room (clean x.p) by unfold chRes; rw [if_neg (by omega), if_neg (by omega), if_pos h])
      have hOp := Lib.hid (mkdir_all (p := mk x.p) kF.out kw.out hps (by rw [mk_list]) klw6.out)
      go_wp2_with (first | (go_at_call 18; refine hOp.out.mono ?_; intro e wx hP; obtain rfl := hP.1; have kP := Lib.hid hP; have kX7 := Lib.hid ((hP.far (heap_lt kX6.out) (fun hs => Nat.lt_irrefl _ (hSl _ hs))).trans kX6.out); obtain ⟨fv, L, hR1⟩ := kR.out.same (fun k hk => hP.far (kR.out.ltR k hk) (fun hs => hd k hs hk)); have kOp2 := Lib.hid (refMkdir_calls (p := mk x.p) hR1 kw.out hps (by rw [mk_list])); clear hP hR1; clear o0 o1 o2 o3 ol; obtain ⟨o0, o1, o2, o3, -⟩ := cells4 kX7.out; have ol := heap_lt kX7.out) | (go_at_call 42; refine kOp2.out.mono ?_; intro e wy hP2; obtain rfl := hP2.1; have kP2 := Lib.hid hP2; clear hP2))
      go_meet
      case rel => exact ⟨by rw [kres.out], by rw [kres.out], by rw [kres.out]; exact BothPost.of kBo6.out kP.out kP2.out⟩
    · have kres := Lib.hid (show chRes st clock room x = removeRes st clock (clean x.p) by unfold chRes; rw [if_neg (by omega), if_neg (by omega), if_neg (by omega), if_pos h])
      have hOp := Lib.hid (remove_all (p := mk x.p) kF.out kw.out hps (by rw [mk_list]) klw6.out)
      go_wp2_with (first | (go_at_call 19; refine hOp.out.mono ?_; intro e wx hP; obtain rfl := hP.1; have kP := Lib.hid hP; have kX7 := Lib.hid ((hP.far (heap_lt kX6.out) (fun hs => Nat.lt_irrefl _ (hSl _ hs))).trans kX6.out); obtain ⟨fv, L, hR1⟩ := kR.out.same (fun k hk => hP.far (kR.out.ltR k hk) (fun hs => hd k hs hk)); have kOp2 := Lib.hid (refRemove_calls (p := mk x.p) hR1 kw.out hps (by rw [mk_list])); clear hP hR1; clear o0 o1 o2 o3 ol; obtain ⟨o0, o1, o2, o3, -⟩ := cells4 kX7.out; have ol := heap_lt kX7.out) | (go_at_call 43; refine kOp2.out.mono ?_; intro e wy hP2; obtain rfl := hP2.1; have kP2 := Lib.hid hP2; clear hP2))
      go_meet
      case rel => exact ⟨by rw [kres.out], by rw [kres.out], by rw [kres.out]; exact BothPost.of kBo6.out kP.out kP2.out⟩
    · have kres := Lib.hid (show chRes st clock room x = renameRes st clock (clean x.p) (clean x.q) by unfold chRes; rw [if_neg (by omega), if_neg (by omega), if_neg (by omega), if_neg (by omega), if_pos h])
      have hOp := Lib.hid (rename_all (p := mk x.p) (p2 := mk x.q) kF.out kw.out hps (by rw [mk_list]) hqs (by rw [mk_list]) klw6.out)
      go_wp2_with (first | (go_at_call 20; refine hOp.out.mono ?_; intro e wx hP; obtain rfl := hP.1; have kP := Lib.hid hP; have kX7 := Lib.hid ((hP.far (heap_lt kX6.out) (fun hs => Nat.lt_irrefl _ (hSl _ hs))).trans kX6.out); obtain ⟨fv, L, hR1⟩ := kR.out.same (fun k hk => hP.far (kR.out.ltR k hk) (fun hs => hd k hs hk)); have kOp2 := Lib.hid (refRename_calls (p := mk x.p) (p2 := mk x.q) hR1 kw.out hps (by rw [mk_list]) hqs (by rw [mk_list])); clear hP hR1; clear o0 o1 o2 o3 ol; obtain ⟨o0, o1, o2, o3, -⟩ := cells4 kX7.out; have ol := heap_lt kX7.out) | (go_at_call 44; refine kOp2.out.mono ?_; intro e wy hP2; obtain rfl := hP2.1; have kP2 := Lib.hid hP2; clear hP2))
      go_meet
      case rel => exact ⟨by rw [kres.out], by rw [kres.out], by rw [kres.out]; exact BothPost.of kBo6.out kP.out kP2.out⟩
    · have kres := Lib.hid (show chRes st clock room x = touchRes st clock room (clean x.p) by unfold chRes; rw [if_neg (by omega), if_neg (by omega), if_neg (by omega), if_neg (by omega), if_neg (by omega), if_pos h])
      have hOp := Lib.hid (touch_all (p := mk x.p) kF.out kw.out hps (by rw [mk_list]) klw6.out)
      go_wp2_with (first | (go_at_call 21; refine hOp.out.mono ?_; intro e wx hP; obtain rfl := hP.1; have kP := Lib.hid hP; have kX7 := Lib.hid ((hP.far (heap_lt kX6.out) (fun hs => Nat.lt_irrefl _ (hSl _ hs))).trans kX6.out); obtain ⟨fv, L, hR1⟩ := kR.out.same (fun k hk => hP.far (kR.out.ltR k hk) (fun hs => hd k hs hk)); have kOp2 := Lib.hid (refTouch_calls (p := mk x.p) hR1 kw.out hps (by rw [mk_list])); clear hP hR1; clear o0 o1 o2 o3 ol; obtain ⟨o0, o1, o2, o3, -⟩ := cells4 kX7.out; have ol := heap_lt kX7.out) | (go_at_call 45; refine kOp2.out.mono ?_; intro e wy hP2; obtain rfl := hP2.1; have kP2 := Lib.hid hP2; clear hP2))
      go_meet
      case rel => exact ⟨by rw [kres.out], by rw [kres.out], by rw [kres.out]; exact BothPost.of kBo6.out kP.out kP2.out⟩
    · have kres := Lib.hid (show chRes st clock room x = (0, st, clock) by unfold chRes; rw [if_neg (by omega), if_neg (by omega), if_neg (by omega), if_neg (by omega), if_neg (by omega), if_neg (by omega)])
      have n0 : (x.kind.tmod 9 == 0) = false := by rw [beq_eq_false_iff_ne]; omega
      have n1 : (x.kind.tmod 9 == 1) = false := by rw [beq_eq_false_iff_ne]; omega
      have n2 : (x.kind.tmod 9 == 2) = false := by rw [beq_eq_false_iff_ne]; omega
      have n3 : (x.kind.tmod 9 == 3) = false := by rw [beq_eq_false_iff_ne]; omega
      have n4 : (x.kind.tmod 9 == 4) = false := by rw [beq_eq_false_iff_ne]; omega
      have n5 : (x.kind.tmod 9 == 5) = false := by rw [beq_eq_false_iff_ne]; omega
      go_wp2_with fail
      go_meet
      case rel => exact ⟨by rw [kres.out], by rw [kres.out], by rw [kres.out]; exact BothPost.stay kBo6.out (Below.refl _ _)⟩
    · have kres := Lib.hid (show chRes st clock room x = (0, st, clock) by unfold chRes; rw [if_neg (by omega), if_neg (by omega), if_neg (by omega), if_neg (by omega), if_neg (by omega), if_neg (by omega)])
      have n0 : (x.kind.tmod 9 == 0) = false := by rw [beq_eq_false_iff_ne]; omega
      have n1 : (x.kind.tmod 9 == 1) = false := by rw [beq_eq_false_iff_ne]; omega
      have n2 : (x.kind.tmod 9 == 2) = false := by rw [beq_eq_false_iff_ne]; omega
      have n3 : (x.kind.tmod 9 == 3) = false := by rw [beq_eq_false_iff_ne]; omega
      have n4 : (x.kind.tmod 9 == 4) = false := by rw [beq_eq_false_iff_ne]; omega
      have n5 : (x.kind.tmod 9 == 5) = false := by rw [beq_eq_false_iff_ne]; omega
      go_wp2_with fail
      go_meet
      case rel => exact ⟨by rw [kres.out], by rw [kres.out], by rw [kres.out]; exact BothPost.stay kBo6.out (Below.refl _ _)⟩
  case rest =>
    obtain ⟨rfl, rfl, hP⟩ := hcut
    have kP := Lib.hid hP
    have kK := Lib.hid (show Kept (fun k => S k ∨ R k) w6 wc from hP.elim fun _ h => h.elim fun _ h => h.2.2.2)
    clear hP o0 o1 o2 o3 ol
    have hlo := kBo.out.lt
    have kXc := Lib.hid ((kK.out.block _ (heap_lt kX6.out) (fun h => Nat.lt_irrefl _ (hlo _ h))).trans kX6.out)
    have kfarb := Lib.hid (fun k (hk : w1.heap.size ≤ k ∧ k < w6.heap.size) => kK.out.block k hk.2 (fun h => by have := hlo k h; omega))
    have kUc := Lib.hid (kUall.out.of_heap (w' := wc) (fun k hk => kfarb.out k hk) (fun _ h => h))
    have kUs := Lib.hid (kU.out.1.of_heap (w' := wc) (S' := fun j => j = g) (fun k hk => kfarb.out k (by subst hk; exact ⟨kU.out.2.2.1, kU.out.2.2.2.1⟩)) (fun _ h => h))
    have kbc := Lib.hid (kb.out.of_heap (w' := wc) (S' := Tb) (fun j hj => (kK.out.block j (by have := (kTb.out j hj).2.2; omega) (fun h => h.elim (kTb.out j hj).1 (kTb.out j hj).2.1)).trans (kW6.out.block j (kTb.out j hj).2.2)) (fun _ h => h))
    have h167 : wc.cell? ⟨g, x.b.length, none⟩ = some (.int .u8 167) := (World.cell?_of_block (a := ⟨g, _, none⟩) (kfarb.out g ⟨kU.out.2.2.1, kU.out.2.2.2.1⟩)).trans kU.out.2.2.2.2
    have hgl : g < wc.heap.size := Nat.lt_of_lt_of_le kU.out.2.2.2.1 kK.out.size
    obtain ⟨o0, o1, o2, o3, -⟩ := cells4 kXc.out
    have ol := heap_lt kXc.out
    have hcv1 := fun n => bytes_str (kUs.out.1.of_heap (w' := wc.drewN n) (fun _ _ => rfl) (fun _ h => h))
    have hcv2 := fun n => bytes_str (kbc.out.of_heap (w' := wc.drewN n) (fun _ _ => rfl) (fun _ h => h))
    have z1 : (x.b.length : Int) < (n1 : Int) := by omega
    have z2 : (0 : Int) ≤ (x.b.length : Int) := by omega
    have z3 : (x.b.length : Int) ≤ (c6 : Int) := by omega
    go_wp2_with fail
    go_quiet (fail)
    have kUd := Lib.hid (show ULoose (wc.drewN nq) w1.heap.size w6.heap.size w6.heap.size (.slice (some ⟨g, 0, none⟩) n1 c6) by
      have := (kUc.out.of_heap (w' := wc.drewN nq) (fun _ _ => rfl) (fun _ h => h)).loose (by rw [hn1]; omega)
      rwa [hn1] at this)
    have kKd := Lib.hid (show Kept (fun j => w1.heap.size ≤ j ∧ j < w6.heap.size) wc (wc.drewN nq) from Kept.of_below (below_drewN' (Below.refl _ _) nq))
    clear o0 o1 o2 o3 ol h167 hgl hcv1 hcv2 z1 z3
    generalize wc.drewN nq = W0 at *
    go_wp2_with fail
    go_loopw [11] (fun iv wr => ∃ i : Nat, i ≤ n1 ∧ iv = .int .i64 i ∧ ULoose wr w1.heap.size w6.heap.size w6.heap.size (.slice (some ⟨g, 0, none⟩) n1 c6) ∧ Kept (fun j => w1.heap.size ≤ j ∧ j < w6.heap.size) wc wr) (fun iv _ => n1 - (intOf iv).toNat)
    case atStart => exact ⟨0, Nat.zero_le _, rfl, kUd.out, kKd.out⟩
    case round =>
      obtain ⟨i, hi, rfl, hU2, hK2⟩ := hrel
      have kU2 := Lib.hid hU2
      have kK2 := Lib.hid hK2
      clear hU2 hK2
      by_cases hlt : i < n1
      · obtain ⟨a2, n2, c2, e', -, h2⟩ := kU2.out
        injection e' with e1 e2 e3
        subst e1 e2
        obtain ⟨b, o, cur2, e4, hbB, hbh, -, hbc, hbs⟩ := h2 (by omega)
        injection e4 with e4; injection e4 with e4 e5
        subst e4 e5
        obtain ⟨u, hu⟩ := hbs i hlt
        rw [Nat.zero_add] at hu
        have hcu : wr.cell? ⟨g, i, none⟩ = some (.int .u8 u.toNat) := by rw [cell_of_row wr g _ cur2 5 (0, 0) hbc]; exact hu
        have hfu : wr.frozen? ⟨g, i, none⟩ = false := Go.Joins.unfrozen_of_block hbc _
        have hbl3 := heap_lt hbc
        have y1 : (i : Int) < (n1 : Int) := by omega
        clear hbs hu hbc h2 e3
        go_wp2_with fail
        obtain ⟨u', hu'⟩ := xor_byte u
        rw [hu']
        exact ⟨⟨i + 1, by omega, by go_num, kU2.out.put _ _ _, kK2.out.trans (S' := fun j => w1.heap.size ≤ j ∧ j < w6.heap.size) (Kept.grown (set_grown wr g i _) (fun k e => by injection e with e; subst e; exact ⟨hbB, hbh⟩)) (fun k h => Or.inl h)⟩, by simp [intOf]; omega⟩
      · have y1 : ¬ (i : Int) < (n1 : Int) := by omega
        generalize hc : (chRes st clock room x).1 = cc at *
        go_wp2_with (go_at_call 12; refine (num_calls _ _).mono ?_; rintro e w0 ⟨rfl, rfl⟩)
        go_ret
        exact ⟨rfl, BothPost.close kW6.out kP.out kK2.out (fun k hk => ⟨by omega, hk.2⟩) hlo⟩
end
end Go.Proofs.YtejofgdglpmlkaaGreatDoor
