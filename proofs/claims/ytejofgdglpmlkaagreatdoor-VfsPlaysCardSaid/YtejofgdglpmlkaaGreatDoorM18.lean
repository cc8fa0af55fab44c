/-
  The reference's file system: a node comes (put). Conditions: at most 1000 nodes, paths rising, none of them the new one.
-/
import Derived.Test.YtejofgdglpmlkaaGreatDoorM17
namespace Go.Proofs.YtejofgdglpmlkaaGreatDoor
open Go.RowKit

section
variable {w w' : World} {fb : Nat} {fv fv' : Value} {L L' : List NV} {R : Nat → Prop} {l : St} {clock clock' room : Int}
/-- Behind the appends of put, and the store. -/
theorem put_end {W8 w9 w11 : World} {g n c k : Nat} {v9 v11 : Value} {x : NV} (h : RefIn w fb (.slice (some ⟨g, 0, none⟩) n c) L R l clock room) (h8 : Below w.heap.size w W8) (hg9 : W8.grownBy w9 (Value.slice (some ⟨g, 0, none⟩) k c).ownBlock)
    (hat9 : v9.ownBlock = (Value.slice (some ⟨g, 0, none⟩) k c).ownBlock ∨ v9.ownBlock = some W8.heap.size) (hg11 : w9.grownBy w11 v9.ownBlock) (hat11 : v11.ownBlock = v9.ownBlock ∨ v11.ownBlock = some w9.heap.size)
    (hrow : w11.ownsRow 0 54 4 v11 (L.take k ++ [x] ++ L.drop k).length (nflat (L.take k ++ [x] ++ L.drop k))) (hx : BytesAt w x.dv x.n.data (fun j => R j ∧ j ≠ fb ∧ (Value.slice (some ⟨g, 0, none⟩) n c).ownBlock ≠ some j)) :
    RefIn (w11.setCell ⟨fb, 0, none⟩ v11) fb v11 (L.take k ++ [x] ++ L.drop k) (Plus R w.heap.size (w11.setCell ⟨fb, 0, none⟩ v11).heap.size) (l.take k ++ [x.nd] ++ l.drop k) clock room ∧ Kept R w (w11.setCell ⟨fb, 0, none⟩ v11) := by
  have hfl := heap_lt h.hc
  have hgg := h.own g rfl
  have hgl := h.lt g hgg.1
  have hgf := hgg.2
  have z8 := h8.size
  have z9 := hg9.size
  have z11 := hg11.size
  have hset := set_grown w11 fb 0 v11
  have zs := hset.size
  have own9 : ∀ q, v9.ownBlock = some q → q = g ∨ w.heap.size ≤ q := fun q hq => by
    rcases hat9 with e | e
    · rw [e] at hq; injection hq with hq; exact Or.inl hq.symm
    · rw [e] at hq; injection hq with hq; exact Or.inr (by omega)
  have own11 : ∀ q, v11.ownBlock = some q → q = g ∨ w.heap.size ≤ q := fun q hq => by
    rcases hat11 with e | e
    · rw [e] at hq; exact own9 q hq
    · rw [e] at hq; injection hq with hq; exact Or.inr (by omega)
  have far : ∀ j, j < w.heap.size → j ≠ g → w11.heap[j]? = w.heap[j]? := fun j hj hne =>
    ((hg11.block j (by omega) (fun e => by rcases own9 j e.symm with h1 | h1; exact hne h1; omega)).trans (hg9.block j (by omega) (fun e => by injection e with e; exact hne e))).trans (h8.block j hj)
  have hc11 : w11.heap[fb]? = _ := (far fb hfl (fun e => hgf e.symm)).trans h.hc
  have hfar : ∀ j, j < w.heap.size → j ≠ fb → j ≠ g → (w11.setCell ⟨fb, 0, none⟩ v11).heap[j]? = w.heap[j]? := fun j hj h1 h2 => (hset.block j (by omega) (fun e => h1 (by injection e))).trans (far j hj h2)
  have hres := h.turn (fv' := v11) (L' := L.take k ++ [x] ++ L.drop k) (clock' := clock) (w' := w11.setCell ⟨fb, 0, none⟩ v11) (hset.os.trans (hg11.os.trans (hg9.os.trans h8.os))) (hset.tape.trans (hg11.tape.trans (hg9.tape.trans h8.tape))) (hset.output.trans (hg11.output.trans (hg9.output.trans h8.output))) (by omega)
    (fun j hj h1 h2 => hfar j hj h1 (fun e => h2 (by rw [e]; rfl))) (by simpa using set_heap hc11 0 v11) (hrow.kept hset (Or.inr (fun e => by rcases own11 fb e with h1 | h1; exact hgf h1.symm; omega)))
    (fun q hq => (own11 q hq).imp (fun e => by rw [e]; rfl) id) (fun y hy => by
      rcases List.mem_append.1 hy with hy | hy
      · rcases List.mem_append.1 hy with hy | hy
        · exact Or.inl (List.mem_of_mem_take hy)
        · rw [List.mem_singleton] at hy
          subst hy
          refine Or.inr (hx.of_heap (fun j hj => hfar j (h.lt j hj.1) hj.2.1 (fun e => hj.2.2 (by rw [e]; rfl))) (fun j hj => ⟨Or.inl hj.1, hj.2.1, fun e => ?_⟩))
          rcases own11 j e with h1 | h1
          · exact hj.2.2 (by rw [h1]; rfl)
          · have := h.lt j hj.1; omega
      · exact Or.inl (List.mem_of_mem_drop hy))
  rw [List.map_append, List.map_append, List.map_take, List.map_drop, h.eq] at hres
  exact hres
/-- What put's last region loads. -/
def PHeld (fb bx : Nat) (fv : Value) (p : Bs) (d : Bool) (t : Int) (dv : Value) (w' : World) : Prop :=
  w'.cell? ⟨fb, 0, none⟩ = some fv ∧ w'.heap[bx]? = some (.cells #[.string (mk p), .bool d, .int .i64 t, dv] 54 (0, 0))
set_option maxRecDepth 100000 in
set_option maxHeartbeats 4000000 in
theorem refput_calls (h : RefIn w fb fv L R l clock room) (hr : Rising l) (hl : l.length ≤ 1000) {p dat : Bs} {d : Bool} {t : Int} {dv : Value} (hf : find l p = none) (hd : BytesAt w dv dat (fun j => R j ∧ j ≠ fb ∧ fv.ownBlock ≠ some j)) :
    Calls Tryz.prog 64 #[.pointer (some ⟨fb, 0, none⟩), .agg #[.string (mk p), .bool d, .int .i64 t, dv]] w fun e w' => e = .returned (.tuple #[]) ∧ ∃ fv' L', RefIn w' fb fv' L' (Plus R w.heap.size w'.heap.size) (putSt l p ⟨d, t, dat⟩) clock room ∧ Kept R w w' := by
  have hLl : L.length = l.length := by rw [← h.eq, List.length_map]
  have hrow := h.row
  obtain ⟨da, dc, hdv⟩ := hd.form
  subst hdv
  have kd := Lib.hid hd
  have kr := Lib.hid hr
  have kf := Lib.hid hf
  have kform := Lib.hid h.forms
  have kh := Lib.hid h
  have hfl := heap_lt h.hc
  have kput := Lib.hid (fun (k : Nat) (h1 : ∀ (i : Nat) (x : Bs × PN), i < k → l[i]? = some x → x.1 < p) (h2 : ∀ x, l[k]? = some x → ¬ x.1 < p) => put_insert (n := ⟨d, t, dat⟩) hr hf h1 h2)
  by_cases hfn : fv = .slice none 0 0
  · subst hfn
    obtain ⟨rfl⟩ : l = [] := List.length_eq_zero_iff.1 (by
      rw [← hLl]
      rcases hrow.2 with ⟨e, hn⟩ | ⟨g, cap, cur, e, _⟩
      · exact hn
      · cases e)
    have hL0 : L = [] := List.length_eq_zero_iff.1 hLl
    subst hL0
    have khk := Lib.hid h.hc
    clear h hrow hr hf hd hLl
    go_enter Tryz.func64, Tryz.ntmps64
    go_wp2
    have kc1 := Lib.hid (heap_alloc_new w (.cells #[.string (mk p), .bool d, .int .i64 t, .slice da dat.length dc] 54))
    have kb1 := Lib.hid (below_al (o := .cells #[.string (mk p), .bool d, .int .i64 t, .slice da dat.length dc] 54) (Below.refl w.heap.size w))
    have kf1 := Lib.hid ((kb1.out.block fb hfl).trans khk.out)
    obtain ⟨f0, -⟩ := cells3 kf1.out
    obtain ⟨b0, b1, b2, b3, bf⟩ := cells4 kc1.out
    have hw1 : (w.alloc (.cells #[.string (mk p), .bool d, .int .i64 t, .slice da dat.length dc] 54)).heap.size = w.heap.size + 1 := by simp
    clear b1 b2 b3
    generalize w.alloc (.cells #[.string (mk p), .bool d, .int .i64 t, .slice da dat.length dc] 54) = w1 at *
    go_loopw [4] (fun kv wr => kv = .int .i64 0 ∧ ∃ n, wr = w1.drewN n) (fun kv _ => 0)
    case atStart => exact ⟨rfl, 0, rfl⟩
    case round =>
      obtain ⟨rfl, n, rfl⟩ := hrel
      go_wp2_with fail
      go_quiet (fail)
      go_upto_region 5 with (fail)
      have kb4 := Lib.hid (below_drewN' kb1.out (n + nq))
      have kH4 := Lib.hid (show PHeld fb w.heap.size (.slice none 0 0) p d t (.slice da dat.length dc) (w1.drewN (n + nq)).drew from ⟨f0, kc1.out⟩)
      have hw4 : (w1.drewN (n + nq)).heap.size = w.heap.size + 1 := hw1
      generalize w1.drewN (n + nq) = w4 at *
      refine lbegin 14 (PHeld fb w.heap.size (.slice none 0 0) p d t (.slice da dat.length dc)) (by kernel_rfl) ?_
      refine ltake 14 0 (some 35) ?_ rfl kH4.out (by rfl) (fun w' hw => ?_) ?_
      rotate_left 1
      · obtain ⟨p0, pb⟩ := hw; obtain ⟨q0, q1, q2, q3, -⟩ := cells4 pb; go_simp; first | done | with_reducible rfl
      try simp only [pz0, pz1, pz2, pz3]
      refine ltake 14 1 (some 36) ?_ rfl kH4.out (by rfl) (fun w' hw => ?_) ?_
      rotate_left 1
      · obtain ⟨p0, pb⟩ := hw; obtain ⟨q0, q1, q2, q3, -⟩ := cells4 pb; go_simp; first | done | with_reducible rfl
      try simp only [pz0, pz1, pz2, pz3]
      refine ltake 14 2 (some 37) ?_ rfl kH4.out (by rfl) (fun w' hw => ?_) ?_
      rotate_left 1
      · obtain ⟨p0, pb⟩ := hw; obtain ⟨q0, q1, q2, q3, -⟩ := cells4 pb; go_simp; first | done | with_reducible rfl
      try simp only [pz0, pz1, pz2, pz3]
      refine ltake 14 3 (some 38) ?_ rfl kH4.out (by rfl) (fun w' hw => ?_) ?_
      rotate_left 1
      · obtain ⟨p0, pb⟩ := hw; obtain ⟨q0, q1, q2, q3, -⟩ := cells4 pb; go_simp; first | done | with_reducible rfl
      try simp only [pz0, pz1, pz2, pz3]
      refine ltake 14 4 (some 39) ?_ rfl kH4.out (by rfl) (fun w' hw => ?_) ?_
      rotate_left 1
      · obtain ⟨p0, pb⟩ := hw; obtain ⟨q0, q1, q2, q3, -⟩ := cells4 pb; go_simp; first | done | with_reducible rfl
      try simp only [pz0, pz1, pz2, pz3]
      refine ltake 14 5 (some 40) ?_ rfl kH4.out (by rfl) (fun w' hw => ?_) ?_
      rotate_left 1
      · obtain ⟨p0, pb⟩ := hw; obtain ⟨q0, q1, q2, q3, -⟩ := cells4 pb; go_simp; first | done | with_reducible rfl
      try simp only [pz0, pz1, pz2, pz3]
      refine ltake 14 6 (some 41) (.slice none 0 0) rfl kH4.out (by rfl) (fun w' hw => ?_) ?_
      · obtain ⟨p0, pb⟩ := hw; obtain ⟨q0, q1, q2, q3, -⟩ := cells4 pb; go_simp; first | done | with_reducible rfl
      try simp only [pz0, pz1, pz2, pz3]
      refine ltake 14 7 (some 42) (.agg #[.string (mk p), .bool d, .int .i64 t, .slice da dat.length dc]) rfl kH4.out (by rfl) (fun w' hw => ?_) ?_
      · obtain ⟨p0, pb⟩ := hw; obtain ⟨q0, q1, q2, q3, -⟩ := cells4 pb; go_simp; first | done | with_reducible rfl
      try simp only [pz0, pz1, pz2, pz3]
      refine ltake 14 10 (some 45) ?_ rfl kH4.out (by rfl) (fun w' hw => ?_) ?_
      rotate_left 1
      · obtain ⟨p0, pb⟩ := hw; obtain ⟨q0, q1, q2, q3, -⟩ := cells4 pb; go_simp; first | done | with_reducible rfl
      try simp only [pz0, pz1, pz2, pz3]
      have hz8 : ((w4.alloc (.cells #[.string (mk p), .bool d, .int .i64 t, .slice da dat.length dc] 54)).drew).heap.size = w4.heap.size + 1 := by simp
      refine lready (rs := [8]) (by kernel_rfl) (by simp) (lcons rfl (fun K hK => ?_) (lnil))
      rw [if_pos (by rfl)]
      go_simp
      have kb8 := Lib.hid (show Below w.heap.size w ((w4.alloc (.cells #[.string (mk p), .bool d, .int .i64 t, .slice da dat.length dc] 54)).drew) from (below_al kb4.out).trans ⟨rfl, rfl, rfl, Nat.le_refl _, fun _ _ => rfl⟩)
      have kc8 := Lib.hid (show ∀ (j : Nat) (u : Value), (NV.make p ⟨d, t, dat⟩ (.slice da dat.length dc)).cells[j]? = some u → ((w4.alloc (.cells #[.string (mk p), .bool d, .int .i64 t, .slice da dat.length dc] 54)).drew).cell? ((⟨w4.heap.size, 0, none⟩ : Addr).add j) = some u from cells_new w4 (NV.make p ⟨d, t, dat⟩ (.slice da dat.length dc)).cells 54)
      have ko8 := Lib.hid (show ∀ j, j < w4.heap.size → ((w4.alloc (.cells #[.string (mk p), .bool d, .int .i64 t, .slice da dat.length dc] 54)).drew).heap[j]? = w4.heap[j]? from fun j hj => heap_alloc_old w4 (.cells #[.string (mk p), .bool d, .int .i64 t, .slice da dat.length dc] 54) hj)
      have kH8 := Lib.hid (show PHeld fb w.heap.size (.slice none 0 0) p d t (.slice da dat.length dc) ((w4.alloc (.cells #[.string (mk p), .bool d, .int .i64 t, .slice da dat.length dc] 54)).drew) from ⟨(cells3 ((kb8.out.block fb hfl).trans khk.out)).1, (ko8.out _ (by omega)).trans kH4.out.2⟩)
      refine hK.out _ _ (fun _ => kH8.out) (fun _ => ?_)
      clear hK K
      try simp only [pz0, pz1, pz2, pz3]
      generalize (w4.alloc (.cells #[.string (mk p), .bool d, .int .i64 t, .slice da dat.length dc] 54)).drew = W8 at *
      refine lready (rs := [9]) (by kernel_rfl) (by simp) (lcons rfl (fun K hK => ?_) (lnil))
      refine step_append_nodes (by rfl) _ _ (by rfl) (.slice none 0 0) [] [NV.make p ⟨d, t, dat⟩ (.slice da dat.length dc)] (by rfl) (World.ownsRow_nil _ _ _ _) (some ⟨w.heap.size + 1, 0, none⟩) 1 1 rfl (by rfl) (fun ad e => by injection e with e; subst e; exact fun j u hu => by have := kc8.out j u (by simpa [nflat] using hu); rwa [hw4] at this) (fun e => by cases e) (fun x hx => by rw [List.mem_singleton] at hx; subst hx; exact ⟨_, _, _, rfl⟩) (by rw [List.length_nil, List.length_singleton]; omega) ?_
      intro v9 w9 h9 hg9 hat9
      obtain ⟨a9, c9, hv9⟩ := row_form h9
      rw [List.nil_append] at h9 hv9
      subst hv9
      have k9 := Lib.hid h9
      have kg9 := Lib.hid hg9
      have kat9 := Lib.hid (show ∀ q, (Value.slice a9 [NV.make p ⟨d, t, dat⟩ (.slice da dat.length dc)].length c9).ownBlock = some q → w.heap.size + 2 ≤ q from fun q hq => by
        rcases hat9 with e | e
        · rw [e] at hq; cases hq
        · rw [e] at hq; injection hq with hq; omega)
      clear h9 hg9 hat9
      have hw9 := kg9.out.size
      have kf9 := Lib.hid (show w9.heap[fb]? = some (.cells #[.slice none 0 0, .int .i64 clock, .int .i64 room] 62 (0, 0)) from (kg9.out.block fb (by omega) (fun e => by cases e)).trans ((kb8.out.block fb hfl).trans khk.out))
      have kH9 := Lib.hid (show PHeld fb w.heap.size (.slice none 0 0) p d t (.slice da dat.length dc) w9 from ⟨(cells3 kf9.out).1, (kg9.out.block _ (by omega) (fun e => by cases e)).trans kH8.out.2⟩)
      refine hK.out _ _ (fun _ => kH9.out) (fun _ => ?_)
      clear hK K
      try simp only [pz0, pz1, pz2, pz3]
      refine lready (rs := [11]) (by kernel_rfl) (by simp) (lcons rfl (fun K hK => ?_) (lnil))
      refine step_append_nodes (by rfl) _ _ (by rfl) (.slice a9 [NV.make p ⟨d, t, dat⟩ (.slice da dat.length dc)].length c9) [NV.make p ⟨d, t, dat⟩ (.slice da dat.length dc)] [] (by rfl) k9.out none 0 0 rfl (by rfl) (fun ad e => by cases e) (fun _ => rfl) (fun x hx => by cases hx) (by simp) ?_
      intro v11 w11 h11 hg11 hat11
      obtain ⟨a11, c11, hv11⟩ := row_form h11
      rw [List.append_nil] at h11 hv11
      subst hv11
      have k11 := Lib.hid h11
      have kg11 := Lib.hid hg11
      have kat11 := Lib.hid (show ∀ q, (Value.slice a11 [NV.make p ⟨d, t, dat⟩ (.slice da dat.length dc)].length c11).ownBlock = some q → w.heap.size + 2 ≤ q from fun q hq => by
        rcases hat11 with e | e
        · rw [e] at hq; exact kat9.out q hq
        · rw [e] at hq; injection hq with hq; omega)
      clear h11 hg11 hat11
      have hw11 := kg11.out.size
      have kf11 := Lib.hid (show w11.heap[fb]? = some (.cells #[.slice none 0 0, .int .i64 clock, .int .i64 room] 62 (0, 0)) from (kg11.out.block fb (by omega) (fun e => by have := kat9.out fb e.symm; omega)).trans kf9.out)
      obtain ⟨s0, s1, s2, sf⟩ := cells3 kf11.out
      have sf0 := sf 0
      have hl11 := heap_lt kf11.out
      have kH11 := Lib.hid (show PHeld fb w.heap.size (.slice none 0 0) p d t (.slice da dat.length dc) w11 from ⟨s0, (kg11.out.block _ (by omega) (fun e => by have := kat9.out _ e.symm; omega)).trans kH9.out.2⟩)
      clear s1 s2 sf
      refine hK.out _ _ (fun _ => kH11.out) (fun _ => ?_)
      clear hK K
      try simp only [pz0, pz1, pz2, pz3]
      refine lready (rs := [12]) (by kernel_rfl) (by simp) (lcons rfl (fun K hK => ?_) (lnil))
      rw [if_pos (by rfl)]
      go_simp
      refine hK.out _ _ (fun _ => kH11.out) (fun _ => ?_)
      clear hK K
      try simp only [pz0, pz1, pz2, pz3]
      refine lready (rs := [13]) (by kernel_rfl) (by simp) (lcons rfl (fun K hK => ?_) (lnil))
      rw [if_pos (by rfl)]
      go_simp
      refine hK.out _ _ (fun _ => kH11.out) (fun _ => ?_)
      clear hK K
      try simp only [pz0, pz1, pz2, pz3]
      refine lready (rs := [14]) (by kernel_rfl) (by simp) (lcons rfl (fun K hK => ?_) (lnil))
      rw [if_pos (by rfl)]
      go_simp
      refine hK.out _ _ (fun h => absurd rfl h) (fun _ => ?_)
      clear hK K
      refine ldone (by kernel_rfl) ?_ _
      go_wp2_with fail
      go_end0
      have hset := set_grown w11 fb 0 (.slice a11 [NV.make p ⟨d, t, dat⟩ (.slice da dat.length dc)].length c11)
      have zs := hset.size
      have far : ∀ j, j < w.heap.size → w11.heap[j]? = w.heap[j]? := fun j hj => (kg11.out.block j (by omega) (fun e => by have := kat9.out j e.symm; omega)).trans ((kg9.out.block j (by omega) (fun e => by cases e)).trans (kb8.out.block j hj))
      have hfar : ∀ j, j < w.heap.size → j ≠ fb → (w11.setCell ⟨fb, 0, none⟩ (.slice a11 [NV.make p ⟨d, t, dat⟩ (.slice da dat.length dc)].length c11)).heap[j]? = w.heap[j]? := fun j hj h1 => (hset.block j (by omega) (fun e => h1 (by injection e))).trans (far j hj)
      have hres := kh.out.turn (fv' := .slice a11 [NV.make p ⟨d, t, dat⟩ (.slice da dat.length dc)].length c11) (L' := [NV.make p ⟨d, t, dat⟩ (.slice da dat.length dc)]) (clock' := clock) (hset.os.trans (kg11.out.os.trans (kg9.out.os.trans kb8.out.os))) (hset.tape.trans (kg11.out.tape.trans (kg9.out.tape.trans kb8.out.tape))) (hset.output.trans (kg11.out.output.trans (kg9.out.output.trans kb8.out.output))) (by omega)
        (fun j hj h1 _ => hfar j hj h1) (by simpa using set_heap kf11.out 0 (.slice a11 [NV.make p ⟨d, t, dat⟩ (.slice da dat.length dc)].length c11)) (k11.out.kept hset (Or.inr (fun e => by have := kat11.out fb e; omega))) (fun q hq => Or.inr (by have := kat11.out q hq; omega))
        (fun y hy => Or.inr (by
          rw [List.mem_singleton] at hy
          subst hy
          exact kd.out.of_heap (fun j hj => hfar j (kh.out.lt j hj.1) hj.2.1) (fun j hj => ⟨Or.inl hj.1, hj.2.1, fun e => by have := kat11.out j e; have := kh.out.lt j hj.1; omega⟩)))
      exact ⟨rfl, _, _, hres⟩
  obtain ⟨g, c, hfv⟩ : ∃ g c, fv = .slice (some ⟨g, 0, none⟩) l.length c := by
    rcases hrow.2 with ⟨e, hn⟩ | ⟨g, cap, cur, e, _⟩
    · exact absurd e hfn
    · exact ⟨g, cap, by rw [e, hLl]⟩
  clear hfn
  subst hfv
  have hcap : l.length ≤ c ∧ c ≤ maxLen := by
    rcases hrow.2 with ⟨e, hn⟩ | ⟨g, cap, cur, e, _, _, h1, h2, _⟩
    · cases e
    · injection e with e1 e2 e3; exact ⟨by omega, by omega⟩
  obtain ⟨hcap, hcm⟩ := hcap
  unfold maxLen at hcm
  have hgl := (hrow.lt g rfl).2
  have kt := Lib.hid h.tree
  have kow := Lib.hid hrow
  have khk := Lib.hid h.hc
  clear h hrow hr hf hd
  go_enter Tryz.func64, Tryz.ntmps64
  go_wp2
  have kc1 := Lib.hid (heap_alloc_new w (.cells #[.string (mk p), .bool d, .int .i64 t, .slice da dat.length dc] 54))
  have kb1 := Lib.hid (below_al (o := .cells #[.string (mk p), .bool d, .int .i64 t, .slice da dat.length dc] 54) (Below.refl w.heap.size w))
  have kf1 := Lib.hid ((kb1.out.block fb hfl).trans khk.out)
  obtain ⟨f0, -⟩ := cells3 kf1.out
  obtain ⟨b0, b1, b2, b3, bf⟩ := cells4 kc1.out
  have hw1 : (w.alloc (.cells #[.string (mk p), .bool d, .int .i64 t, .slice da dat.length dc] 54)).heap.size = w.heap.size + 1 := by simp
  have kt1 := Lib.hid (kt.out.of_heap (w' := w.alloc (.cells #[.string (mk p), .bool d, .int .i64 t, .slice da dat.length dc] 54)) (fun j hj => kb1.out.block j (kh.out.lt j hj)) (fun _ h => h))
  clear b1 b2 b3
  generalize w.alloc (.cells #[.string (mk p), .bool d, .int .i64 t, .slice da dat.length dc] 54) = w1 at *
  go_loopw [4] (fun kv wr => ∃ k : Nat, k ≤ l.length ∧ kv = .int .i64 k ∧ (∀ (i : Nat) (x : Bs × PN), i < k → l[i]? = some x → x.1 < p) ∧ ∃ n, wr = w1.drewN n) (fun kv _ => l.length - (intOf kv).toNat)
  case atStart => exact ⟨0, Nat.zero_le _, rfl, fun i x h => absurd h (Nat.not_lt_zero _), 0, rfl⟩
  case round =>
    obtain ⟨k, hk, rfl, hlo, n, rfl⟩ := hrel
    have klo := Lib.hid hlo
    clear hlo
    by_cases hgo : ∃ y, l[k]? = some y ∧ y.1 < p
    · obtain ⟨y, hy, hyp⟩ := hgo
      obtain ⟨bb, off, dv', hta, -, hbl, hd0, -, -, -, -⟩ := kt1.out.at hy
      obtain ⟨hky, -⟩ := List.getElem?_eq_some_iff.1 hy
      injection hta with hta; injection hta with hta hta2
      subst hta hta2
      rw [Nat.zero_add] at hd0
      have hq := less_mk hyp
      have kn := Lib.hid (show ∀ (i : Nat) (x : Bs × PN), i < k + 1 → l[i]? = some x → x.1 < p from fun i x hi hx => by
        by_cases e : i = k
        · subst e; rw [hy] at hx; injection hx with hx; subst hx; exact hyp
        · exact klo.out i x (by omega) hx)
      have z1 : (k : Int) < (l.length : Int) := by omega
      clear hy hyp
      go_wp2_with fail
      go_quiet (fail)
      go_wp2
      go_roundw
      case rel => exact ⟨k + 1, by omega, by go_num, kn.out, _, rfl⟩
      case measure => simp [intOf]; omega
    · have kn := Lib.hid (show ∀ x, l[k]? = some x → ¬ x.1 < p from fun x hx hlt => hgo ⟨x, hx, hlt⟩)
      clear hgo
      have hkt : (L.take k).length = k := by rw [List.length_take]; omega
      have hkd : (L.drop k).length = l.length - k := by rw [List.length_drop]; omega
      have z0 : (0 : Int) ≤ (k : Int) := by omega
      have z1 : (k : Int) ≤ (l.length : Int) := by omega
      have kcut := Lib.hid (cut_cells (k := k) kow.out)
      have k1t := Lib.hid (ownsRow_take (k := k) kow.out (by omega))
      have hcase : (∃ y, l[k]? = some y ∧ ¬ c = k) ∨ (¬ k < l.length ∧ c = k) ∨ (¬ k < l.length ∧ ¬ c = k) := by
        by_cases hkl : k < l.length
        · exact Or.inl ⟨_, List.getElem?_eq_getElem hkl, by omega⟩
        · by_cases hck : c = k
          · exact Or.inr (Or.inl ⟨hkl, hck⟩)
          · exact Or.inr (Or.inr ⟨hkl, hck⟩)
      have z3 : (k : Int) ≤ (c : Int) := by omega
      have hgf := (kh.out.own g rfl).2
      rcases hcase with ⟨y, hy, hck⟩ | ⟨hkl, hck⟩ | ⟨hkl, hck⟩
      · have hcutA : cutA g c k = ⟨g, k * 4, none⟩ := by unfold cutA; rw [if_neg hck]
        obtain ⟨hkl, -⟩ := List.getElem?_eq_some_iff.1 hy
        obtain ⟨bb, off, dv', hta, -, hbl, hd0, -, -, -, -⟩ := kt1.out.at hy
        injection hta with hta; injection hta with hta hta2
        subst hta hta2
        rw [Nat.zero_add] at hd0
        have hq := more_mk' (kn.out y hy)
        have z2 : (k : Int) < (l.length : Int) := by omega
        clear hy
        go_wp2_with fail
        go_quiet (fail)
        go_upto_region 5 with (at_builtin; refine wpList_append_nodes rfl _ _ rfl (.slice none 0 0) [] (L.drop k) rfl (World.ownsRow_nil _ _ _ _) (some (cutA g c k)) (l.length - k) (c - k) hkd (by rw [hcutA]; rfl) (fun ad e => by injection e with e; subst e; exact fun j u hu => (World.cell?_of_block (kb1.out.block _ (by rw [cutA_block]; exact hgl))).trans (kcut.out j u hu)) (fun e => by cases e) (fun x hx => kform.out x (List.mem_of_mem_drop hx)) (by rw [hkd, List.length_nil]; omega) ?_; intro v4 w4 h4 hg4 hat4; obtain ⟨a4, c4, hv4⟩ := row_form h4; rw [List.nil_append] at h4 hv4; rw [hkd] at hv4; subst hv4; have k4 := Lib.hid h4; have kg4 := Lib.hid (show w1.grownBy w4 none from ⟨hg4.os, hg4.tape, hg4.output, hg4.size, hg4.block⟩); have kv4 := Lib.hid (show ∀ q, (Value.slice a4 (l.length - k) c4).ownBlock = some q → w1.heap.size ≤ q from fun q hq => by rcases hat4 with e | e <;> rw [e] at hq; cases hq; injection hq with hq; exact Nat.le_of_eq hq); clear h4 hg4 hat4)
        have hw4 := kg4.out.size
        have kb4 := Lib.hid (kb1.out.trans (show Below w.heap.size w1 w4 from ⟨kg4.out.os, kg4.out.tape, kg4.out.output, hw4, fun j hj => kg4.out.block j (by omega) (fun e => by cases e)⟩))
        have kH4 := Lib.hid (show PHeld fb w.heap.size (.slice (some ⟨g, 0, none⟩) l.length c) p d t (.slice da dat.length dc) w4.drew from ⟨(cells3 ((kb4.out.block fb hfl).trans khk.out)).1, (kg4.out.block _ (by omega) (fun e => by cases e)).trans kc1.out⟩)
        refine lbegin 14 (PHeld fb w.heap.size (.slice (some ⟨g, 0, none⟩) l.length c) p d t (.slice da dat.length dc)) (by kernel_rfl) ?_
        refine ltake 14 0 (some 35) ?_ rfl kH4.out (by rfl) (fun w' hw => ?_) ?_
        rotate_left 1
        · obtain ⟨p0, pb⟩ := hw; obtain ⟨q0, q1, q2, q3, -⟩ := cells4 pb; go_simp; first | done | with_reducible rfl
        try simp only [pz0, pz1, pz2, pz3]
        refine ltake 14 1 (some 36) ?_ rfl kH4.out (by rfl) (fun w' hw => ?_) ?_
        rotate_left 1
        · obtain ⟨p0, pb⟩ := hw; obtain ⟨q0, q1, q2, q3, -⟩ := cells4 pb; go_simp; first | done | with_reducible rfl
        try simp only [pz0, pz1, pz2, pz3]
        refine ltake 14 2 (some 37) ?_ rfl kH4.out (by rfl) (fun w' hw => ?_) ?_
        rotate_left 1
        · obtain ⟨p0, pb⟩ := hw; obtain ⟨q0, q1, q2, q3, -⟩ := cells4 pb; go_simp; first | done | with_reducible rfl
        try simp only [pz0, pz1, pz2, pz3]
        refine ltake 14 3 (some 38) ?_ rfl kH4.out (by rfl) (fun w' hw => ?_) ?_
        rotate_left 1
        · obtain ⟨p0, pb⟩ := hw; obtain ⟨q0, q1, q2, q3, -⟩ := cells4 pb; go_simp; first | done | with_reducible rfl
        try simp only [pz0, pz1, pz2, pz3]
        refine ltake 14 4 (some 39) ?_ rfl kH4.out (by rfl) (fun w' hw => ?_) ?_
        rotate_left 1
        · obtain ⟨p0, pb⟩ := hw; obtain ⟨q0, q1, q2, q3, -⟩ := cells4 pb; go_simp; first | done | with_reducible rfl
        try simp only [pz0, pz1, pz2, pz3]
        refine ltake 14 5 (some 40) ?_ rfl kH4.out (by rfl) (fun w' hw => ?_) ?_
        rotate_left 1
        · obtain ⟨p0, pb⟩ := hw; obtain ⟨q0, q1, q2, q3, -⟩ := cells4 pb; go_simp; first | done | with_reducible rfl
        try simp only [pz0, pz1, pz2, pz3]
        refine ltake 14 6 (some 41) (.slice (some ⟨g, 0, none⟩) k c) rfl kH4.out (by rfl) (fun w' hw => ?_) ?_
        · obtain ⟨p0, pb⟩ := hw; obtain ⟨q0, q1, q2, q3, -⟩ := cells4 pb; go_simp; first | done | (simp [sliced, addr_lit]; done)
        try simp only [pz0, pz1, pz2, pz3]
        refine ltake 14 7 (some 42) (.agg #[.string (mk p), .bool d, .int .i64 t, .slice da dat.length dc]) rfl kH4.out (by rfl) (fun w' hw => ?_) ?_
        · obtain ⟨p0, pb⟩ := hw; obtain ⟨q0, q1, q2, q3, -⟩ := cells4 pb; go_simp; first | done | with_reducible rfl
        try simp only [pz0, pz1, pz2, pz3]
        refine ltake 14 10 (some 45) ?_ rfl kH4.out (by rfl) (fun w' hw => ?_) ?_
        rotate_left 1
        · obtain ⟨p0, pb⟩ := hw; obtain ⟨q0, q1, q2, q3, -⟩ := cells4 pb; go_simp; first | done | with_reducible rfl
        try simp only [pz0, pz1, pz2, pz3]
        have hz8 : ((w4.alloc (.cells #[.string (mk p), .bool d, .int .i64 t, .slice da dat.length dc] 54)).drew).heap.size = w4.heap.size + 1 := by simp
        refine lready (rs := [8]) (by kernel_rfl) (by simp) (lcons rfl (fun K hK => ?_) (lnil))
        rw [if_pos (by rfl)]
        go_simp
        have kb8 := Lib.hid (show Below w.heap.size w ((w4.alloc (.cells #[.string (mk p), .bool d, .int .i64 t, .slice da dat.length dc] 54)).drew) from (below_al kb4.out).trans ⟨rfl, rfl, rfl, Nat.le_refl _, fun _ _ => rfl⟩)
        have kc8 := Lib.hid (show ∀ (j : Nat) (u : Value), (NV.make p ⟨d, t, dat⟩ (.slice da dat.length dc)).cells[j]? = some u → ((w4.alloc (.cells #[.string (mk p), .bool d, .int .i64 t, .slice da dat.length dc] 54)).drew).cell? ((⟨w4.heap.size, 0, none⟩ : Addr).add j) = some u from cells_new w4 (NV.make p ⟨d, t, dat⟩ (.slice da dat.length dc)).cells 54)
        have ko8 := Lib.hid (show ∀ j, j < w4.heap.size → ((w4.alloc (.cells #[.string (mk p), .bool d, .int .i64 t, .slice da dat.length dc] 54)).drew).heap[j]? = w4.heap[j]? from fun j hj => heap_alloc_old w4 (.cells #[.string (mk p), .bool d, .int .i64 t, .slice da dat.length dc] 54) hj)
        have kH8 := Lib.hid (show PHeld fb w.heap.size (.slice (some ⟨g, 0, none⟩) l.length c) p d t (.slice da dat.length dc) ((w4.alloc (.cells #[.string (mk p), .bool d, .int .i64 t, .slice da dat.length dc] 54)).drew) from ⟨(cells3 ((kb8.out.block fb hfl).trans khk.out)).1, (ko8.out _ (by omega)).trans kH4.out.2⟩)
        have kr8 := Lib.hid (k1t.out.kept (w' := (w4.alloc (.cells #[.string (mk p), .bool d, .int .i64 t, .slice da dat.length dc] 54)).drew) (row := none) ⟨kb8.out.os, kb8.out.tape, kb8.out.output, kb8.out.size, fun j hj _ => kb8.out.block j hj⟩ (Or.inr (fun e => by cases e)))
        refine hK.out _ _ (fun _ => kH8.out) (fun _ => ?_)
        clear hK K
        try simp only [pz0, pz1, pz2, pz3]
        generalize (w4.alloc (.cells #[.string (mk p), .bool d, .int .i64 t, .slice da dat.length dc] 54)).drew = W8 at *
        refine lready (rs := [9]) (by kernel_rfl) (by simp) (lcons rfl (fun K hK => ?_) (lnil))
        refine step_append_nodes (by rfl) _ _ (by rfl) (.slice (some ⟨g, 0, none⟩) k c) (L.take k) [NV.make p ⟨d, t, dat⟩ (.slice da dat.length dc)] (by rfl) kr8.out (some ⟨w4.heap.size, 0, none⟩) 1 1 rfl (by rfl) (fun ad e => by injection e with e; subst e; exact fun j u hu => kc8.out j u (by simpa [nflat] using hu)) (fun e => by cases e) (fun x hx => by rw [List.mem_singleton] at hx; subst hx; exact ⟨_, _, _, rfl⟩) (by rw [hkt, List.length_singleton]; omega) ?_
        intro v9 w9 h9 hg9 hat9
        obtain ⟨a9, c9, hv9⟩ := row_form h9
        generalize hn9 : (L.take k ++ [NV.make p ⟨d, t, dat⟩ (.slice da dat.length dc)]).length = n9 at *
        subst hv9
        have k9 := Lib.hid h9
        have kg9 := Lib.hid hg9
        have kat9 := Lib.hid hat9
        have kn9 := Lib.hid hn9
        clear h9 hg9 hat9 hn9
        have hw9 := kg9.out.size
        have kH9 := Lib.hid (show PHeld fb w.heap.size (.slice (some ⟨g, 0, none⟩) l.length c) p d t (.slice da dat.length dc) w9 from ⟨(World.cell?_of_block (kg9.out.block fb (by omega) (fun e => by injection e with e; exact hgf e.symm))).trans kH8.out.1, (kg9.out.block _ (by omega) (fun e => by injection e with e; have e : _ = g := e; omega)).trans kH8.out.2⟩)
        refine hK.out _ _ (fun _ => kH9.out) (fun _ => ?_)
        clear hK K
        try simp only [pz0, pz1, pz2, pz3]
        have krest := Lib.hid (show ∀ ad, a4 = some ad → ∀ (j : Nat) (u : Value), (nflat (L.drop k))[j]? = some u → w9.cell? (ad.add j) = some u from fun ad e j u hu => by
          subst e
          have hq := kv4.out ad.block rfl
          have hb4 := (k4.out.lt ad.block rfl).2
          have hc4 := (row_cells k4.out) j u hu
          refine (World.cell?_of_block ?_).trans hc4
          rw [add_block]
          exact (kg9.out.block ad.block (by omega) (fun e => by injection e with e; have e : _ = g := e; omega)).trans (ko8.out _ hb4))
        have knone := Lib.hid (show a4 = none → L.drop k = [] from fun e => by subst e; exact row_none k4.out)
        refine lready (rs := [11]) (by kernel_rfl) (by simp) (lcons rfl (fun K hK => ?_) (lnil))
        refine step_append_nodes (by rfl) _ _ (by rfl) (.slice a9 n9 c9) (L.take k ++ [NV.make p ⟨d, t, dat⟩ (.slice da dat.length dc)]) (L.drop k) (by rfl) (by rw [kn9.out]; exact k9.out) a4 (l.length - k) c4 hkd (by rfl) krest.out knone.out (fun x hx => kform.out x (List.mem_of_mem_drop hx)) (by rw [List.length_append, hkt, hkd, List.length_singleton]; omega) ?_
        intro v11 w11 h11 hg11 hat11
        obtain ⟨a11, c11, hv11⟩ := row_form h11
        generalize hn11 : (L.take k ++ [NV.make p ⟨d, t, dat⟩ (.slice da dat.length dc)] ++ L.drop k).length = n11 at *
        subst hv11
        have k11 := Lib.hid h11
        have kg11 := Lib.hid hg11
        have kat11 := Lib.hid hat11
        have kn11 := Lib.hid hn11
        clear h11 hg11 hat11 hn11
        have hw11 := kg11.out.size
        have kown := Lib.hid (show ∀ q, q < w.heap.size → q ≠ g → (Value.slice a9 n9 c9).ownBlock ≠ some q from fun q hq hne e => by
          rcases kat9.out with e1 | e1
          · rw [e1] at e; injection e with e; exact hne e.symm
          · rw [e1] at e; injection e with e; omega)
        have kf11 := Lib.hid (show w11.heap[fb]? = some (.cells #[(.slice (some ⟨g, 0, none⟩) l.length c), .int .i64 clock, .int .i64 room] 62 (0, 0)) from (kg11.out.block fb (by omega) (fun e => kown.out fb hfl (fun e => hgf e.symm) e.symm)).trans ((kg9.out.block fb (by omega) (fun e => by injection e with e; exact hgf e.symm)).trans ((kb8.out.block fb hfl).trans khk.out)))
        obtain ⟨s0, s1, s2, sf⟩ := cells3 kf11.out
        have sf0 := sf 0
        have hl11 := heap_lt kf11.out
        have kH11 := Lib.hid (show PHeld fb w.heap.size (.slice (some ⟨g, 0, none⟩) l.length c) p d t (.slice da dat.length dc) w11 from ⟨s0, (kg11.out.block _ (by omega) (fun e => by
          rcases kat9.out with e1 | e1
          · rw [e1] at e; injection e with e; have e : _ = g := e; omega
          · rw [e1] at e; injection e with e; omega)).trans kH9.out.2⟩)
        clear s1 s2 sf
        refine hK.out _ _ (fun _ => kH11.out) (fun _ => ?_)
        clear hK K
        try simp only [pz0, pz1, pz2, pz3]
        refine lready (rs := [12]) (by kernel_rfl) (by simp) (lcons rfl (fun K hK => ?_) (lnil))
        rw [if_pos (by rfl)]
        go_simp
        refine hK.out _ _ (fun _ => kH11.out) (fun _ => ?_)
        clear hK K
        try simp only [pz0, pz1, pz2, pz3]
        refine lready (rs := [13]) (by kernel_rfl) (by simp) (lcons rfl (fun K hK => ?_) (lnil))
        rw [if_pos (by rfl)]
        go_simp
        refine hK.out _ _ (fun _ => kH11.out) (fun _ => ?_)
        clear hK K
        try simp only [pz0, pz1, pz2, pz3]
        refine lready (rs := [14]) (by kernel_rfl) (by simp) (lcons rfl (fun K hK => ?_) (lnil))
        rw [if_pos (by rfl)]
        go_simp
        refine hK.out _ _ (fun h => absurd rfl h) (fun _ => ?_)
        clear hK K
        refine ldone (by kernel_rfl) ?_ _
        go_wp2_with fail
        go_end0
        have hres := put_end (x := NV.make p ⟨d, t, dat⟩ (.slice da dat.length dc)) kh.out kb8.out kg9.out kat9.out kg11.out kat11.out (by rw [kn11.out]; exact k11.out) kd.out
        rw [kput.out k klo.out kn.out, show l.take k ++ (p, (⟨d, t, dat⟩ : PN)) :: l.drop k = l.take k ++ [(p, ⟨d, t, dat⟩)] ++ l.drop k by simp]
        exact ⟨rfl, _, _, hres⟩
      · have hcutA : cutA g c k = ⟨g, 0, none⟩ := by unfold cutA; rw [if_pos hck]
        have z2 : ¬ (k : Int) < (l.length : Int) := by omega
        rw [hcutA] at kcut
        have kcut0 := Lib.hid kcut.out
        have hkd : (L.drop k).length = 0 := by rw [hkd]; omega
        clear hcutA
        obtain rfl : k = c := hck.symm
        go_wp2_with fail
        go_quiet (fail)
        go_upto_region 5 with (at_builtin; refine wpList_append_nodes rfl _ _ rfl (.slice none 0 0) [] (L.drop k) rfl (World.ownsRow_nil _ _ _ _) (some ⟨g, 0, none⟩) 0 0 hkd rfl (fun ad e => by injection e with e; subst e; exact fun j u hu => (World.cell?_of_block (kb1.out.block _ (by rw [add_block]; exact hgl))).trans (kcut0.out j u hu)) (fun e => by cases e) (fun x hx => kform.out x (List.mem_of_mem_drop hx)) (by rw [hkd, List.length_nil]; omega) ?_; intro v4 w4 h4 hg4 hat4; obtain ⟨a4, c4, hv4⟩ := row_form h4; rw [List.nil_append] at h4 hv4; rw [hkd] at hv4; subst hv4; have k4 := Lib.hid h4; have kg4 := Lib.hid (show w1.grownBy w4 none from ⟨hg4.os, hg4.tape, hg4.output, hg4.size, hg4.block⟩); have kv4 := Lib.hid (show ∀ q, (Value.slice a4 0 c4).ownBlock = some q → w1.heap.size ≤ q from fun q hq => by rcases hat4 with e | e <;> rw [e] at hq; cases hq; injection hq with hq; exact Nat.le_of_eq hq); clear h4 hg4 hat4)
        have hw4 := kg4.out.size
        have kb4 := Lib.hid (kb1.out.trans (show Below w.heap.size w1 w4 from ⟨kg4.out.os, kg4.out.tape, kg4.out.output, hw4, fun j hj => kg4.out.block j (by omega) (fun e => by cases e)⟩))
        have kH4 := Lib.hid (show PHeld fb w.heap.size (.slice (some ⟨g, 0, none⟩) l.length k) p d t (.slice da dat.length dc) w4.drew from ⟨(cells3 ((kb4.out.block fb hfl).trans khk.out)).1, (kg4.out.block _ (by omega) (fun e => by cases e)).trans kc1.out⟩)
        refine lbegin 14 (PHeld fb w.heap.size (.slice (some ⟨g, 0, none⟩) l.length k) p d t (.slice da dat.length dc)) (by kernel_rfl) ?_
        refine ltake 14 0 (some 35) ?_ rfl kH4.out (by rfl) (fun w' hw => ?_) ?_
        rotate_left 1
        · obtain ⟨p0, pb⟩ := hw; obtain ⟨q0, q1, q2, q3, -⟩ := cells4 pb; go_simp; first | done | with_reducible rfl
        try simp only [pz0, pz1, pz2, pz3]
        refine ltake 14 1 (some 36) ?_ rfl kH4.out (by rfl) (fun w' hw => ?_) ?_
        rotate_left 1
        · obtain ⟨p0, pb⟩ := hw; obtain ⟨q0, q1, q2, q3, -⟩ := cells4 pb; go_simp; first | done | with_reducible rfl
        try simp only [pz0, pz1, pz2, pz3]
        refine ltake 14 2 (some 37) ?_ rfl kH4.out (by rfl) (fun w' hw => ?_) ?_
        rotate_left 1
        · obtain ⟨p0, pb⟩ := hw; obtain ⟨q0, q1, q2, q3, -⟩ := cells4 pb; go_simp; first | done | with_reducible rfl
        try simp only [pz0, pz1, pz2, pz3]
        refine ltake 14 3 (some 38) ?_ rfl kH4.out (by rfl) (fun w' hw => ?_) ?_
        rotate_left 1
        · obtain ⟨p0, pb⟩ := hw; obtain ⟨q0, q1, q2, q3, -⟩ := cells4 pb; go_simp; first | done | with_reducible rfl
        try simp only [pz0, pz1, pz2, pz3]
        refine ltake 14 4 (some 39) ?_ rfl kH4.out (by rfl) (fun w' hw => ?_) ?_
        rotate_left 1
        · obtain ⟨p0, pb⟩ := hw; obtain ⟨q0, q1, q2, q3, -⟩ := cells4 pb; go_simp; first | done | with_reducible rfl
        try simp only [pz0, pz1, pz2, pz3]
        refine ltake 14 5 (some 40) ?_ rfl kH4.out (by rfl) (fun w' hw => ?_) ?_
        rotate_left 1
        · obtain ⟨p0, pb⟩ := hw; obtain ⟨q0, q1, q2, q3, -⟩ := cells4 pb; go_simp; first | done | with_reducible rfl
        try simp only [pz0, pz1, pz2, pz3]
        refine ltake 14 6 (some 41) (.slice (some ⟨g, 0, none⟩) k k) rfl kH4.out (by rfl) (fun w' hw => ?_) ?_
        · obtain ⟨p0, pb⟩ := hw; obtain ⟨q0, q1, q2, q3, -⟩ := cells4 pb; go_simp; first | done | (simp [sliced, addr_lit]; done)
        try simp only [pz0, pz1, pz2, pz3]
        refine ltake 14 7 (some 42) (.agg #[.string (mk p), .bool d, .int .i64 t, .slice da dat.length dc]) rfl kH4.out (by rfl) (fun w' hw => ?_) ?_
        · obtain ⟨p0, pb⟩ := hw; obtain ⟨q0, q1, q2, q3, -⟩ := cells4 pb; go_simp; first | done | with_reducible rfl
        try simp only [pz0, pz1, pz2, pz3]
        refine ltake 14 10 (some 45) ?_ rfl kH4.out (by rfl) (fun w' hw => ?_) ?_
        rotate_left 1
        · obtain ⟨p0, pb⟩ := hw; obtain ⟨q0, q1, q2, q3, -⟩ := cells4 pb; go_simp; first | done | with_reducible rfl
        try simp only [pz0, pz1, pz2, pz3]
        have hz8 : ((w4.alloc (.cells #[.string (mk p), .bool d, .int .i64 t, .slice da dat.length dc] 54)).drew).heap.size = w4.heap.size + 1 := by simp
        refine lready (rs := [8]) (by kernel_rfl) (by simp) (lcons rfl (fun K hK => ?_) (lnil))
        rw [if_pos (by rfl)]
        go_simp
        have kb8 := Lib.hid (show Below w.heap.size w ((w4.alloc (.cells #[.string (mk p), .bool d, .int .i64 t, .slice da dat.length dc] 54)).drew) from (below_al kb4.out).trans ⟨rfl, rfl, rfl, Nat.le_refl _, fun _ _ => rfl⟩)
        have kc8 := Lib.hid (show ∀ (j : Nat) (u : Value), (NV.make p ⟨d, t, dat⟩ (.slice da dat.length dc)).cells[j]? = some u → ((w4.alloc (.cells #[.string (mk p), .bool d, .int .i64 t, .slice da dat.length dc] 54)).drew).cell? ((⟨w4.heap.size, 0, none⟩ : Addr).add j) = some u from cells_new w4 (NV.make p ⟨d, t, dat⟩ (.slice da dat.length dc)).cells 54)
        have ko8 := Lib.hid (show ∀ j, j < w4.heap.size → ((w4.alloc (.cells #[.string (mk p), .bool d, .int .i64 t, .slice da dat.length dc] 54)).drew).heap[j]? = w4.heap[j]? from fun j hj => heap_alloc_old w4 (.cells #[.string (mk p), .bool d, .int .i64 t, .slice da dat.length dc] 54) hj)
        have kH8 := Lib.hid (show PHeld fb w.heap.size (.slice (some ⟨g, 0, none⟩) l.length k) p d t (.slice da dat.length dc) ((w4.alloc (.cells #[.string (mk p), .bool d, .int .i64 t, .slice da dat.length dc] 54)).drew) from ⟨(cells3 ((kb8.out.block fb hfl).trans khk.out)).1, (ko8.out _ (by omega)).trans kH4.out.2⟩)
        have kr8 := Lib.hid (k1t.out.kept (w' := (w4.alloc (.cells #[.string (mk p), .bool d, .int .i64 t, .slice da dat.length dc] 54)).drew) (row := none) ⟨kb8.out.os, kb8.out.tape, kb8.out.output, kb8.out.size, fun j hj _ => kb8.out.block j hj⟩ (Or.inr (fun e => by cases e)))
        refine hK.out _ _ (fun _ => kH8.out) (fun _ => ?_)
        clear hK K
        try simp only [pz0, pz1, pz2, pz3]
        generalize (w4.alloc (.cells #[.string (mk p), .bool d, .int .i64 t, .slice da dat.length dc] 54)).drew = W8 at *
        refine lready (rs := [9]) (by kernel_rfl) (by simp) (lcons rfl (fun K hK => ?_) (lnil))
        refine step_append_nodes (by rfl) _ _ (by rfl) (.slice (some ⟨g, 0, none⟩) k k) (L.take k) [NV.make p ⟨d, t, dat⟩ (.slice da dat.length dc)] (by rfl) kr8.out (some ⟨w4.heap.size, 0, none⟩) 1 1 rfl (by rfl) (fun ad e => by injection e with e; subst e; exact fun j u hu => kc8.out j u (by simpa [nflat] using hu)) (fun e => by cases e) (fun x hx => by rw [List.mem_singleton] at hx; subst hx; exact ⟨_, _, _, rfl⟩) (by rw [hkt, List.length_singleton]; omega) ?_
        intro v9 w9 h9 hg9 hat9
        obtain ⟨a9, c9, hv9⟩ := row_form h9
        generalize hn9 : (L.take k ++ [NV.make p ⟨d, t, dat⟩ (.slice da dat.length dc)]).length = n9 at *
        subst hv9
        have k9 := Lib.hid h9
        have kg9 := Lib.hid hg9
        have kat9 := Lib.hid hat9
        have kn9 := Lib.hid hn9
        clear h9 hg9 hat9 hn9
        have hw9 := kg9.out.size
        have kH9 := Lib.hid (show PHeld fb w.heap.size (.slice (some ⟨g, 0, none⟩) l.length k) p d t (.slice da dat.length dc) w9 from ⟨(World.cell?_of_block (kg9.out.block fb (by omega) (fun e => by injection e with e; exact hgf e.symm))).trans kH8.out.1, (kg9.out.block _ (by omega) (fun e => by injection e with e; have e : _ = g := e; omega)).trans kH8.out.2⟩)
        refine hK.out _ _ (fun _ => kH9.out) (fun _ => ?_)
        clear hK K
        try simp only [pz0, pz1, pz2, pz3]
        have krest := Lib.hid (show ∀ ad, a4 = some ad → ∀ (j : Nat) (u : Value), (nflat (L.drop k))[j]? = some u → w9.cell? (ad.add j) = some u from fun ad e j u hu => by
          subst e
          have hq := kv4.out ad.block rfl
          have hb4 := (k4.out.lt ad.block rfl).2
          have hc4 := (row_cells k4.out) j u hu
          refine (World.cell?_of_block ?_).trans hc4
          rw [add_block]
          exact (kg9.out.block ad.block (by omega) (fun e => by injection e with e; have e : _ = g := e; omega)).trans (ko8.out _ hb4))
        have knone := Lib.hid (show a4 = none → L.drop k = [] from fun e => by subst e; exact row_none k4.out)
        refine lready (rs := [11]) (by kernel_rfl) (by simp) (lcons rfl (fun K hK => ?_) (lnil))
        refine step_append_nodes (by rfl) _ _ (by rfl) (.slice a9 n9 c9) (L.take k ++ [NV.make p ⟨d, t, dat⟩ (.slice da dat.length dc)]) (L.drop k) (by rfl) (by rw [kn9.out]; exact k9.out) a4 0 c4 hkd (by rfl) krest.out knone.out (fun x hx => kform.out x (List.mem_of_mem_drop hx)) (by rw [List.length_append, hkt, hkd, List.length_singleton]; omega) ?_
        intro v11 w11 h11 hg11 hat11
        obtain ⟨a11, c11, hv11⟩ := row_form h11
        generalize hn11 : (L.take k ++ [NV.make p ⟨d, t, dat⟩ (.slice da dat.length dc)] ++ L.drop k).length = n11 at *
        subst hv11
        have k11 := Lib.hid h11
        have kg11 := Lib.hid hg11
        have kat11 := Lib.hid hat11
        have kn11 := Lib.hid hn11
        clear h11 hg11 hat11 hn11
        have hw11 := kg11.out.size
        have kown := Lib.hid (show ∀ q, q < w.heap.size → q ≠ g → (Value.slice a9 n9 c9).ownBlock ≠ some q from fun q hq hne e => by
          rcases kat9.out with e1 | e1
          · rw [e1] at e; injection e with e; exact hne e.symm
          · rw [e1] at e; injection e with e; omega)
        have kf11 := Lib.hid (show w11.heap[fb]? = some (.cells #[(.slice (some ⟨g, 0, none⟩) l.length k), .int .i64 clock, .int .i64 room] 62 (0, 0)) from (kg11.out.block fb (by omega) (fun e => kown.out fb hfl (fun e => hgf e.symm) e.symm)).trans ((kg9.out.block fb (by omega) (fun e => by injection e with e; exact hgf e.symm)).trans ((kb8.out.block fb hfl).trans khk.out)))
        obtain ⟨s0, s1, s2, sf⟩ := cells3 kf11.out
        have sf0 := sf 0
        have hl11 := heap_lt kf11.out
        have kH11 := Lib.hid (show PHeld fb w.heap.size (.slice (some ⟨g, 0, none⟩) l.length k) p d t (.slice da dat.length dc) w11 from ⟨s0, (kg11.out.block _ (by omega) (fun e => by
          rcases kat9.out with e1 | e1
          · rw [e1] at e; injection e with e; have e : _ = g := e; omega
          · rw [e1] at e; injection e with e; omega)).trans kH9.out.2⟩)
        clear s1 s2 sf
        refine hK.out _ _ (fun _ => kH11.out) (fun _ => ?_)
        clear hK K
        try simp only [pz0, pz1, pz2, pz3]
        refine lready (rs := [12]) (by kernel_rfl) (by simp) (lcons rfl (fun K hK => ?_) (lnil))
        rw [if_pos (by rfl)]
        go_simp
        refine hK.out _ _ (fun _ => kH11.out) (fun _ => ?_)
        clear hK K
        try simp only [pz0, pz1, pz2, pz3]
        refine lready (rs := [13]) (by kernel_rfl) (by simp) (lcons rfl (fun K hK => ?_) (lnil))
        rw [if_pos (by rfl)]
        go_simp
        refine hK.out _ _ (fun _ => kH11.out) (fun _ => ?_)
        clear hK K
        try simp only [pz0, pz1, pz2, pz3]
        refine lready (rs := [14]) (by kernel_rfl) (by simp) (lcons rfl (fun K hK => ?_) (lnil))
        rw [if_pos (by rfl)]
        go_simp
        refine hK.out _ _ (fun h => absurd rfl h) (fun _ => ?_)
        clear hK K
        refine ldone (by kernel_rfl) ?_ _
        go_wp2_with fail
        go_end0
        have hres := put_end (x := NV.make p ⟨d, t, dat⟩ (.slice da dat.length dc)) kh.out kb8.out kg9.out kat9.out kg11.out kat11.out (by rw [kn11.out]; exact k11.out) kd.out
        rw [kput.out k klo.out kn.out, show l.take k ++ (p, (⟨d, t, dat⟩ : PN)) :: l.drop k = l.take k ++ [(p, ⟨d, t, dat⟩)] ++ l.drop k by simp]
        exact ⟨rfl, _, _, hres⟩
      · have hcutA : cutA g c k = ⟨g, k * 4, none⟩ := by unfold cutA; rw [if_neg hck]
        have z2 : ¬ (k : Int) < (l.length : Int) := by omega
        go_wp2_with fail
        go_quiet (fail)
        go_upto_region 5 with (at_builtin; refine wpList_append_nodes rfl _ _ rfl (.slice none 0 0) [] (L.drop k) rfl (World.ownsRow_nil _ _ _ _) (some (cutA g c k)) (l.length - k) (c - k) hkd (by rw [hcutA]; rfl) (fun ad e => by injection e with e; subst e; exact fun j u hu => (World.cell?_of_block (kb1.out.block _ (by rw [cutA_block]; exact hgl))).trans (kcut.out j u hu)) (fun e => by cases e) (fun x hx => kform.out x (List.mem_of_mem_drop hx)) (by rw [hkd, List.length_nil]; omega) ?_; intro v4 w4 h4 hg4 hat4; obtain ⟨a4, c4, hv4⟩ := row_form h4; rw [List.nil_append] at h4 hv4; rw [hkd] at hv4; subst hv4; have k4 := Lib.hid h4; have kg4 := Lib.hid (show w1.grownBy w4 none from ⟨hg4.os, hg4.tape, hg4.output, hg4.size, hg4.block⟩); have kv4 := Lib.hid (show ∀ q, (Value.slice a4 (l.length - k) c4).ownBlock = some q → w1.heap.size ≤ q from fun q hq => by rcases hat4 with e | e <;> rw [e] at hq; cases hq; injection hq with hq; exact Nat.le_of_eq hq); clear h4 hg4 hat4)
        have hw4 := kg4.out.size
        have kb4 := Lib.hid (kb1.out.trans (show Below w.heap.size w1 w4 from ⟨kg4.out.os, kg4.out.tape, kg4.out.output, hw4, fun j hj => kg4.out.block j (by omega) (fun e => by cases e)⟩))
        have kH4 := Lib.hid (show PHeld fb w.heap.size (.slice (some ⟨g, 0, none⟩) l.length c) p d t (.slice da dat.length dc) w4.drew from ⟨(cells3 ((kb4.out.block fb hfl).trans khk.out)).1, (kg4.out.block _ (by omega) (fun e => by cases e)).trans kc1.out⟩)
        refine lbegin 14 (PHeld fb w.heap.size (.slice (some ⟨g, 0, none⟩) l.length c) p d t (.slice da dat.length dc)) (by kernel_rfl) ?_
        refine ltake 14 0 (some 35) ?_ rfl kH4.out (by rfl) (fun w' hw => ?_) ?_
        rotate_left 1
        · obtain ⟨p0, pb⟩ := hw; obtain ⟨q0, q1, q2, q3, -⟩ := cells4 pb; go_simp; first | done | with_reducible rfl
        try simp only [pz0, pz1, pz2, pz3]
        refine ltake 14 1 (some 36) ?_ rfl kH4.out (by rfl) (fun w' hw => ?_) ?_
        rotate_left 1
        · obtain ⟨p0, pb⟩ := hw; obtain ⟨q0, q1, q2, q3, -⟩ := cells4 pb; go_simp; first | done | with_reducible rfl
        try simp only [pz0, pz1, pz2, pz3]
        refine ltake 14 2 (some 37) ?_ rfl kH4.out (by rfl) (fun w' hw => ?_) ?_
        rotate_left 1
        · obtain ⟨p0, pb⟩ := hw; obtain ⟨q0, q1, q2, q3, -⟩ := cells4 pb; go_simp; first | done | with_reducible rfl
        try simp only [pz0, pz1, pz2, pz3]
        refine ltake 14 3 (some 38) ?_ rfl kH4.out (by rfl) (fun w' hw => ?_) ?_
        rotate_left 1
        · obtain ⟨p0, pb⟩ := hw; obtain ⟨q0, q1, q2, q3, -⟩ := cells4 pb; go_simp; first | done | with_reducible rfl
        try simp only [pz0, pz1, pz2, pz3]
        refine ltake 14 4 (some 39) ?_ rfl kH4.out (by rfl) (fun w' hw => ?_) ?_
        rotate_left 1
        · obtain ⟨p0, pb⟩ := hw; obtain ⟨q0, q1, q2, q3, -⟩ := cells4 pb; go_simp; first | done | with_reducible rfl
        try simp only [pz0, pz1, pz2, pz3]
        refine ltake 14 5 (some 40) ?_ rfl kH4.out (by rfl) (fun w' hw => ?_) ?_
        rotate_left 1
        · obtain ⟨p0, pb⟩ := hw; obtain ⟨q0, q1, q2, q3, -⟩ := cells4 pb; go_simp; first | done | with_reducible rfl
        try simp only [pz0, pz1, pz2, pz3]
        refine ltake 14 6 (some 41) (.slice (some ⟨g, 0, none⟩) k c) rfl kH4.out (by rfl) (fun w' hw => ?_) ?_
        · obtain ⟨p0, pb⟩ := hw; obtain ⟨q0, q1, q2, q3, -⟩ := cells4 pb; go_simp; first | done | (simp [sliced, addr_lit]; done)
        try simp only [pz0, pz1, pz2, pz3]
        refine ltake 14 7 (some 42) (.agg #[.string (mk p), .bool d, .int .i64 t, .slice da dat.length dc]) rfl kH4.out (by rfl) (fun w' hw => ?_) ?_
        · obtain ⟨p0, pb⟩ := hw; obtain ⟨q0, q1, q2, q3, -⟩ := cells4 pb; go_simp; first | done | with_reducible rfl
        try simp only [pz0, pz1, pz2, pz3]
        refine ltake 14 10 (some 45) ?_ rfl kH4.out (by rfl) (fun w' hw => ?_) ?_
        rotate_left 1
        · obtain ⟨p0, pb⟩ := hw; obtain ⟨q0, q1, q2, q3, -⟩ := cells4 pb; go_simp; first | done | with_reducible rfl
        try simp only [pz0, pz1, pz2, pz3]
        have hz8 : ((w4.alloc (.cells #[.string (mk p), .bool d, .int .i64 t, .slice da dat.length dc] 54)).drew).heap.size = w4.heap.size + 1 := by simp
        refine lready (rs := [8]) (by kernel_rfl) (by simp) (lcons rfl (fun K hK => ?_) (lnil))
        rw [if_pos (by rfl)]
        go_simp
        have kb8 := Lib.hid (show Below w.heap.size w ((w4.alloc (.cells #[.string (mk p), .bool d, .int .i64 t, .slice da dat.length dc] 54)).drew) from (below_al kb4.out).trans ⟨rfl, rfl, rfl, Nat.le_refl _, fun _ _ => rfl⟩)
        have kc8 := Lib.hid (show ∀ (j : Nat) (u : Value), (NV.make p ⟨d, t, dat⟩ (.slice da dat.length dc)).cells[j]? = some u → ((w4.alloc (.cells #[.string (mk p), .bool d, .int .i64 t, .slice da dat.length dc] 54)).drew).cell? ((⟨w4.heap.size, 0, none⟩ : Addr).add j) = some u from cells_new w4 (NV.make p ⟨d, t, dat⟩ (.slice da dat.length dc)).cells 54)
        have ko8 := Lib.hid (show ∀ j, j < w4.heap.size → ((w4.alloc (.cells #[.string (mk p), .bool d, .int .i64 t, .slice da dat.length dc] 54)).drew).heap[j]? = w4.heap[j]? from fun j hj => heap_alloc_old w4 (.cells #[.string (mk p), .bool d, .int .i64 t, .slice da dat.length dc] 54) hj)
        have kH8 := Lib.hid (show PHeld fb w.heap.size (.slice (some ⟨g, 0, none⟩) l.length c) p d t (.slice da dat.length dc) ((w4.alloc (.cells #[.string (mk p), .bool d, .int .i64 t, .slice da dat.length dc] 54)).drew) from ⟨(cells3 ((kb8.out.block fb hfl).trans khk.out)).1, (ko8.out _ (by omega)).trans kH4.out.2⟩)
        have kr8 := Lib.hid (k1t.out.kept (w' := (w4.alloc (.cells #[.string (mk p), .bool d, .int .i64 t, .slice da dat.length dc] 54)).drew) (row := none) ⟨kb8.out.os, kb8.out.tape, kb8.out.output, kb8.out.size, fun j hj _ => kb8.out.block j hj⟩ (Or.inr (fun e => by cases e)))
        refine hK.out _ _ (fun _ => kH8.out) (fun _ => ?_)
        clear hK K
        try simp only [pz0, pz1, pz2, pz3]
        generalize (w4.alloc (.cells #[.string (mk p), .bool d, .int .i64 t, .slice da dat.length dc] 54)).drew = W8 at *
        refine lready (rs := [9]) (by kernel_rfl) (by simp) (lcons rfl (fun K hK => ?_) (lnil))
        refine step_append_nodes (by rfl) _ _ (by rfl) (.slice (some ⟨g, 0, none⟩) k c) (L.take k) [NV.make p ⟨d, t, dat⟩ (.slice da dat.length dc)] (by rfl) kr8.out (some ⟨w4.heap.size, 0, none⟩) 1 1 rfl (by rfl) (fun ad e => by injection e with e; subst e; exact fun j u hu => kc8.out j u (by simpa [nflat] using hu)) (fun e => by cases e) (fun x hx => by rw [List.mem_singleton] at hx; subst hx; exact ⟨_, _, _, rfl⟩) (by rw [hkt, List.length_singleton]; omega) ?_
        intro v9 w9 h9 hg9 hat9
        obtain ⟨a9, c9, hv9⟩ := row_form h9
        generalize hn9 : (L.take k ++ [NV.make p ⟨d, t, dat⟩ (.slice da dat.length dc)]).length = n9 at *
        subst hv9
        have k9 := Lib.hid h9
        have kg9 := Lib.hid hg9
        have kat9 := Lib.hid hat9
        have kn9 := Lib.hid hn9
        clear h9 hg9 hat9 hn9
        have hw9 := kg9.out.size
        have kH9 := Lib.hid (show PHeld fb w.heap.size (.slice (some ⟨g, 0, none⟩) l.length c) p d t (.slice da dat.length dc) w9 from ⟨(World.cell?_of_block (kg9.out.block fb (by omega) (fun e => by injection e with e; exact hgf e.symm))).trans kH8.out.1, (kg9.out.block _ (by omega) (fun e => by injection e with e; have e : _ = g := e; omega)).trans kH8.out.2⟩)
        refine hK.out _ _ (fun _ => kH9.out) (fun _ => ?_)
        clear hK K
        try simp only [pz0, pz1, pz2, pz3]
        have krest := Lib.hid (show ∀ ad, a4 = some ad → ∀ (j : Nat) (u : Value), (nflat (L.drop k))[j]? = some u → w9.cell? (ad.add j) = some u from fun ad e j u hu => by
          subst e
          have hq := kv4.out ad.block rfl
          have hb4 := (k4.out.lt ad.block rfl).2
          have hc4 := (row_cells k4.out) j u hu
          refine (World.cell?_of_block ?_).trans hc4
          rw [add_block]
          exact (kg9.out.block ad.block (by omega) (fun e => by injection e with e; have e : _ = g := e; omega)).trans (ko8.out _ hb4))
        have knone := Lib.hid (show a4 = none → L.drop k = [] from fun e => by subst e; exact row_none k4.out)
        refine lready (rs := [11]) (by kernel_rfl) (by simp) (lcons rfl (fun K hK => ?_) (lnil))
        refine step_append_nodes (by rfl) _ _ (by rfl) (.slice a9 n9 c9) (L.take k ++ [NV.make p ⟨d, t, dat⟩ (.slice da dat.length dc)]) (L.drop k) (by rfl) (by rw [kn9.out]; exact k9.out) a4 (l.length - k) c4 hkd (by rfl) krest.out knone.out (fun x hx => kform.out x (List.mem_of_mem_drop hx)) (by rw [List.length_append, hkt, hkd, List.length_singleton]; omega) ?_
        intro v11 w11 h11 hg11 hat11
        obtain ⟨a11, c11, hv11⟩ := row_form h11
        generalize hn11 : (L.take k ++ [NV.make p ⟨d, t, dat⟩ (.slice da dat.length dc)] ++ L.drop k).length = n11 at *
        subst hv11
        have k11 := Lib.hid h11
        have kg11 := Lib.hid hg11
        have kat11 := Lib.hid hat11
        have kn11 := Lib.hid hn11
        clear h11 hg11 hat11 hn11
        have hw11 := kg11.out.size
        have kown := Lib.hid (show ∀ q, q < w.heap.size → q ≠ g → (Value.slice a9 n9 c9).ownBlock ≠ some q from fun q hq hne e => by
          rcases kat9.out with e1 | e1
          · rw [e1] at e; injection e with e; exact hne e.symm
          · rw [e1] at e; injection e with e; omega)
        have kf11 := Lib.hid (show w11.heap[fb]? = some (.cells #[(.slice (some ⟨g, 0, none⟩) l.length c), .int .i64 clock, .int .i64 room] 62 (0, 0)) from (kg11.out.block fb (by omega) (fun e => kown.out fb hfl (fun e => hgf e.symm) e.symm)).trans ((kg9.out.block fb (by omega) (fun e => by injection e with e; exact hgf e.symm)).trans ((kb8.out.block fb hfl).trans khk.out)))
        obtain ⟨s0, s1, s2, sf⟩ := cells3 kf11.out
        have sf0 := sf 0
        have hl11 := heap_lt kf11.out
        have kH11 := Lib.hid (show PHeld fb w.heap.size (.slice (some ⟨g, 0, none⟩) l.length c) p d t (.slice da dat.length dc) w11 from ⟨s0, (kg11.out.block _ (by omega) (fun e => by
          rcases kat9.out with e1 | e1
          · rw [e1] at e; injection e with e; have e : _ = g := e; omega
          · rw [e1] at e; injection e with e; omega)).trans kH9.out.2⟩)
        clear s1 s2 sf
        refine hK.out _ _ (fun _ => kH11.out) (fun _ => ?_)
        clear hK K
        try simp only [pz0, pz1, pz2, pz3]
        refine lready (rs := [12]) (by kernel_rfl) (by simp) (lcons rfl (fun K hK => ?_) (lnil))
        rw [if_pos (by rfl)]
        go_simp
        refine hK.out _ _ (fun _ => kH11.out) (fun _ => ?_)
        clear hK K
        try simp only [pz0, pz1, pz2, pz3]
        refine lready (rs := [13]) (by kernel_rfl) (by simp) (lcons rfl (fun K hK => ?_) (lnil))
        rw [if_pos (by rfl)]
        go_simp
        refine hK.out _ _ (fun _ => kH11.out) (fun _ => ?_)
        clear hK K
        try simp only [pz0, pz1, pz2, pz3]
        refine lready (rs := [14]) (by kernel_rfl) (by simp) (lcons rfl (fun K hK => ?_) (lnil))
        rw [if_pos (by rfl)]
        go_simp
        refine hK.out _ _ (fun h => absurd rfl h) (fun _ => ?_)
        clear hK K
        refine ldone (by kernel_rfl) ?_ _
        go_wp2_with fail
        go_end0
        have hres := put_end (x := NV.make p ⟨d, t, dat⟩ (.slice da dat.length dc)) kh.out kb8.out kg9.out kat9.out kg11.out kat11.out (by rw [kn11.out]; exact k11.out) kd.out
        rw [kput.out k klo.out kn.out, show l.take k ++ (p, (⟨d, t, dat⟩ : PN)) :: l.drop k = l.take k ++ [(p, ⟨d, t, dat⟩)] ++ l.drop k by simp]
        exact ⟨rfl, _, _, hres⟩
end
end Go.Proofs.YtejofgdglpmlkaaGreatDoor
