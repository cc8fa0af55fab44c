/-
  Put. Conditions: at most 2^40 members, data of at most 2^40 bytes.
-/
import Derived.Test.YtnjagoglabllaaaGreatDoorArRows
namespace Go.Proofs.YtnjagoglabllaaaGreatDoor
open Go.RowKit

theorem one_mem {w : World} {b : Nat} {m : Mem} {dv : Value} {T : Nat → Prop} (h : w.heap[b]? = some (.cells #[.string (mk m.name), .int .i64 m.date, dv] 37 (0, 0))) (hd : BytesAt w dv m.data T) (hT : ∀ j, T j → j < w.heap.size) : MemsAt w (.slice (some ⟨b, 0, none⟩) 1 1) [m] (fun j => j < w.heap.size) := by
  obtain ⟨c0, c1, c2, -⟩ := cells3 h
  refine ⟨_, _, rfl, Nat.le_refl _, by unfold maxLen; omega, (fun e => by cases e), fun _ => ⟨b, 0, rfl, heap_lt h, heap_lt h, fun k x hk => ?_⟩⟩
  cases k with
  | zero => cases hk; exact ⟨_, c0, c1, c2, hd.mono hT⟩
  | succ k => cases hk
theorem own_one {w : World} {B : Nat} {a : Option Addr} {c : Nat} {L : List NV} {m : Mem} (h : MemsOwn w B (.slice a 1 c) L) (hL : L.map NV.m = [m]) : ∃ g dv, a = some ⟨g, 0, none⟩ ∧ L = [NV.make m dv] ∧ B ≤ g ∧ g < w.heap.size ∧ (∃ da dc, dv = .slice da m.data.length dc) ∧
    w.cell? ⟨g, 0, none⟩ = some (.string (mk m.name)) ∧ w.cell? ⟨g, 1, none⟩ = some (.int .i64 m.date) ∧ w.cell? ⟨g, 2, none⟩ = some dv ∧ BytesAt w dv m.data (fun j => B ≤ j ∧ j < w.heap.size) := by
  match L, hL with
  | [x], hL =>
    injection hL with e _
    subst e
    have hr := h.row
    rcases h.1.2 with ⟨e, hn⟩ | ⟨g, cap, cur, e, hb, hg, _⟩
    · simp at hn
    · injection e with e1 e2 e3
      subst e1
      obtain ⟨c0, c1, c2, -, hgl⟩ := hr.cells (i := 0) (y := x) rfl
      obtain ⟨da, dc, hf⟩ := (h.2 x (by simp)).1.form
      exact ⟨g, x.dv, rfl, rfl, hb, hgl, ⟨da, dc, hf⟩, c0, c1, c2, ((h.2 x (by simp)).1).mono (fun j hj => ⟨hj.1, hj.2.1⟩)⟩
theorem box_set {w4 : World} {f : Nat} {y0 y1 y2 z0 z1 z2 : Value} {t : TypeId} (h : w4.heap[f]? = some (.cells #[y0, y1, y2] t (0, 0))) :
    (((w4.setCell ⟨f, 0, none⟩ z0).setCell ⟨f, 1, none⟩ z1).setCell ⟨f, 2, none⟩ z2).heap[f]? = some (.cells #[z0, z1, z2] t (0, 0)) ∧
    (∀ j, j ≠ f → (((w4.setCell ⟨f, 0, none⟩ z0).setCell ⟨f, 1, none⟩ z1).setCell ⟨f, 2, none⟩ z2).heap[j]? = w4.heap[j]?) ∧
    (((w4.setCell ⟨f, 0, none⟩ z0).setCell ⟨f, 1, none⟩ z1).setCell ⟨f, 2, none⟩ z2).heap.size = w4.heap.size ∧
    ∀ {w : World} {B : Nat}, B ≤ f → Below B w w4 → Below B w (((w4.setCell ⟨f, 0, none⟩ z0).setCell ⟨f, 1, none⟩ z1).setCell ⟨f, 2, none⟩ z2) := by
  refine ⟨?_, fun j hj => ?_, by simp, fun hB hb => ((hb.setCell (p := ⟨f, 0, none⟩) hB z0).setCell (p := ⟨f, 1, none⟩) hB z1).setCell (p := ⟨f, 2, none⟩) hB z2⟩
  · have := set_heap (set_heap (set_heap h 0 z0) 1 z1) 2 z2
    simpa using this
  · rw [Below.heap_setCell _ _ _ _ hj, Below.heap_setCell _ _ _ _ hj, Below.heap_setCell _ _ _ _ hj]
theorem row_some {w : World} {B n c : Nat} {a : Option Addr} {L : List NV} {T : Nat → Prop} (h : MemsRow w B (.slice a n c) L T) (h0 : 0 < L.length) : ∃ g, a = some ⟨g, 0, none⟩ := by
  rcases h.1.2 with ⟨_, hn⟩ | ⟨g, cap, cur, e, _⟩
  · omega
  · injection e with e1 e2 e3; exact ⟨g, e1⟩
section
variable {l : List Mem} {nv mdv : Value} {T Tm : Nat → Prop} {w : World}
set_option maxRecDepth 100000 in
set_option maxHeartbeats 8000000 in
theorem arput_calls (ht : MemsAt w nv l T) (hT : ∀ k, T k → k < w.heap.size) (hd : ∀ x ∈ l, x.data.length ≤ 1099511627776) (hl : l.length ≤ 1099511627700) (m : Mem) (hm : BytesAt w mdv m.data Tm) (hTm : ∀ k, Tm k → k < w.heap.size) (hmd : m.data.length ≤ 1099511627776) :
    Calls Tryz.prog 20 #[nv, .agg #[.string (mk m.name), .int .i64 m.date, mdv]] w fun e w' => ∃ v, e = .returned v ∧ MemsAt w' v (putP l m) (fun j => j < w'.heap.size) ∧ Below w.heap.size w w' := by
  obtain ⟨ta, tc, hnv⟩ := ht.form
  obtain ⟨ma, mc, hmv⟩ := hm.form
  subst hnv hmv
  have kbx := Lib.hid (heap_alloc_new w (.cells #[.string (mk m.name), .int .i64 m.date, .slice ma m.data.length mc] 37))
  have kb1 := Lib.hid (below_al (o := .cells #[.string (mk m.name), .int .i64 m.date, .slice ma m.data.length mc] 37) (Below.refl w.heap.size w))
  have hsz1 : w.heap.size < (w.alloc (.cells #[.string (mk m.name), .int .i64 m.date, .slice ma m.data.length mc] 37)).heap.size := heap_lt kbx.out
  have kt := Lib.hid (fun (W : World) (h : Below w.heap.size w W) => ht.of_heap (w' := W) (T' := T) (fun j hj => h.block j (hT j hj)) (fun _ h => h))
  have kT := Lib.hid (fun (W : World) (h : Below w.heap.size w W) (j : Nat) (hj : T j) => Nat.lt_of_lt_of_le (hT j hj) h.size)
  have km := Lib.hid (fun (W : World) (h : Below w.heap.size w W) => hm.of_heap (w' := W) (S' := Tm) (fun j hj => h.block j (hTm j hj)) (fun _ h => h))
  have kTm := Lib.hid (fun (W : World) (h : Below w.heap.size w W) (j : Nat) (hj : Tm j) => Nat.lt_of_lt_of_le (hTm j hj) h.size)
  have kd := Lib.hid hd
  clear ht hT hm hTm hd
  go_enter Tryz.func20, Tryz.ntmps20
  have hO := Lib.hid (own_calls (kt.out _ kb1.out) (kT.out _ kb1.out) kd.out (by omega))
  go_upto_region 1 with (fail)
  generalize w.alloc (.cells #[.string (mk m.name), .int .i64 m.date, .slice ma m.data.length mc] 37) = w1 at *
  go_upto_region 2 with (go_at_call 37; refine hO.out.mono ?_; rintro e w2 ⟨a2, c2, L, rfl, hLm, hLo, hb⟩; have kLm := Lib.hid hLm; have kLo := Lib.hid hLo; have kb12 := Lib.hid hb; clear hLm hLo hb)
  have kb2 := Lib.hid (kb1.out.trans (kb12.out.mono kb1.out.size))
  have kbx2 := Lib.hid ((kb12.out.block _ hsz1).trans kbx.out)
  obtain ⟨b0, b1, b2, bf⟩ := cells3 kbx2.out
  have hbl := heap_lt kbx2.out
  have kN3 := Lib.hid (heap_alloc_new w2 (.cells #[.string (mk m.name), .int .i64 m.date, .slice ma m.data.length mc] 37))
  have kb23 := Lib.hid (below_al (o := .cells #[.string (mk m.name), .int .i64 m.date, .slice ma m.data.length mc] 37) (Below.refl w2.heap.size w2))
  have kb3 := Lib.hid (kb2.out.trans (kb23.out.mono kb2.out.size))
  have hO2 := Lib.hid (own_calls (one_mem kN3.out (km.out _ kb3.out) (kTm.out _ kb3.out)) (fun j hj => hj) (fun x hx => by rw [List.mem_singleton.1 hx]; exact hmd) (by simp))
  go_upto_region 3 with (go_at_call 37; generalize w2.alloc (.cells #[.string (mk m.name), .int .i64 m.date, .slice ma m.data.length mc] 37) = w3 at *; refine hO2.out.mono ?_; rintro e w4 ⟨a4, c4, L4, rfl, hLm, hLo, hb⟩; obtain ⟨g4, dv4, rfl, rfl, hg4B, hg4l, ⟨d4a, d4c, rfl⟩, q0, q1, q2, hq⟩ := own_one hLo hLm; have kq4 := Lib.hid hq; have kb34 := Lib.hid hb; have kbx4 := Lib.hid ((hb.block _ (Nat.lt_of_lt_of_le hbl kb23.out.size)).trans ((kb23.out.block _ hbl).trans kbx2.out)); obtain ⟨r0, r1, r2, rf⟩ := cells3 kbx4.out; have rl := heap_lt kbx4.out; have rf0 := rf 0; have rf1 := rf 1; have rf2 := rf 2; clear hLm hLo hb hq b0 b1 b2 bf rf)
  have kb4 := Lib.hid (kb3.out.trans (kb34.out.mono kb3.out.size))
  obtain ⟨t1, t2, t3, t4⟩ := box_set (z0 := .string (mk m.name)) (z1 := .int .i64 m.date) (z2 := .slice d4a m.data.length d4c) kbx4.out
  have kbx5 := Lib.hid t1
  have kb5 := Lib.hid (t4 (Nat.le_refl _) kb4.out)
  have he5 := Lib.hid t2
  have hs5 := Lib.hid t3
  clear t1 t2 t3 t4 r0 r1 r2 rl rf0 rf1 rf2 q0 q1 q2
  generalize ((w4.setCell ⟨w.heap.size, 0, none⟩ (.string (mk m.name))).setCell ⟨w.heap.size, 1, none⟩ (.int .i64 m.date)).setCell ⟨w.heap.size, 2, none⟩ (.slice d4a m.data.length d4c) = w5 at *
  have hLl : L.length = l.length := by have := congrArg List.length kLm.out; rwa [List.length_map] at this
  have hz12 := kb12.out.size
  have hz23 := kb23.out.size
  have hz34 := kb34.out.size
  have kR5 := Lib.hid (show MemsRow w5 w1.heap.size (.slice a2 l.length c2) L (fun j => (w1.heap.size ≤ j ∧ j < w2.heap.size ∧ (Value.slice a2 l.length c2).ownBlock ≠ some j) ∨ (w3.heap.size ≤ j ∧ j < w4.heap.size)) from by
    have h1 := kLo.out.row
    have hlow := fun g hg => h1.lt g hg
    have h2 : MemsRow w5 w1.heap.size (.slice a2 l.length c2) L _ := h1.keep (w' := w5) (fun j hj => by
      have hj' : w1.heap.size ≤ j ∧ j < w2.heap.size := hj.elim (fun h => ⟨h.1, h.2.1⟩) (fun h => hlow j h)
      rw [he5.out j (by omega), kb34.out.block j (by omega), kb23.out.block j hj'.2]) (by rw [hs5.out]; omega)
    refine h2.weak (fun j hj => Or.inl hj) (fun j hj => ?_)
    rcases hj with hj | hj
    · exact ⟨by rw [hs5.out]; omega, hj.2.2⟩
    · exact ⟨by rw [hs5.out]; omega, fun e => by have := (hlow j e).2; omega⟩)
  have kq5 := Lib.hid (show BytesAt w5 (.slice d4a m.data.length d4c) m.data (fun j => (w1.heap.size ≤ j ∧ j < w2.heap.size ∧ (Value.slice a2 l.length c2).ownBlock ≠ some j) ∨ (w3.heap.size ≤ j ∧ j < w4.heap.size)) from
    kq4.out.of_heap (w' := w5) (fun j hj => he5.out j (by omega)) (fun j hj => Or.inr hj))
  obtain ⟨b0, b1, b2, bf⟩ := cells3 kbx5.out
  have bl5 := heap_lt kbx5.out
  have hF := Lib.hid (find_calls (kt.out _ kb5.out) (kT.out _ kb5.out) (by omega) m.name)
  go_upto_region 4 with (go_at_call 19; refine hF.out.mono ?_; rintro e w6 ⟨rfl, hb⟩; have kb56 := Lib.hid hb; have kbx6 := Lib.hid ((hb.block _ bl5).trans kbx5.out); clear hb b0 b1 b2 bf bl5)
  obtain ⟨b0, b1, b2, bf⟩ := cells3 kbx6.out
  have bl6 := heap_lt kbx6.out
  have kb6 := Lib.hid (kb5.out.trans (kb56.out.mono kb5.out.size))
  have kR6 := Lib.hid (kR5.out.on kb56.out)
  have kq6 := Lib.hid (kq5.out.of_heap (w' := w6) (fun j hj => kb56.out.block j (kR5.out.2.2 j hj).1) (fun _ h => h))
  generalize hT' : (fun j => (w1.heap.size ≤ j ∧ j < w2.heap.size ∧ (Value.slice a2 l.length c2).ownBlock ≠ some j) ∨ (w3.heap.size ≤ j ∧ j < w4.heap.size)) = T' at *
  have kput := Lib.hid (show putP l m = if 0 ≤ placeB l m.name then l.set (placeB l m.name).toNat m else l ++ [m] from rfl)
  obtain ⟨at', -, ha2, -, ha4, ha5, ha6⟩ := put_place l m
  have hB1 := kb1.out.size
  by_cases hp : 0 ≤ placeB l m.name
  · rw [if_neg (by omega)] at ha2
    have ha7 := ha5 hp
    rw [← ha2] at hp kput ⊢
    obtain ⟨g, rfl⟩ := row_some kR6.out (by omega)
    obtain ⟨y, hy⟩ : ∃ y, L[at']? = some y := ⟨_, List.getElem?_eq_getElem (by omega)⟩
    obtain ⟨s0, s1, s2, sf, sl⟩ := kR6.out.cells hy
    have kS := Lib.hid (kR6.out.set (i := at') (by omega) (NV.make m (.slice d4a m.data.length d4c)) kq6.out)
    have kG := Lib.hid (putW_grown w6 g at' (NV.make m (.slice d4a m.data.length d4c)))
    have hgB := (kR6.out.lt g rfl).1
    have sf0 := sf (at' * 3)
    have sf1 := sf (at' * 3 + 1)
    have sf2 := sf (at' * 3 + 2)
    have y1 : (at' : Int) < (l.length : Int) := by omega
    have kcl := Lib.hid ha2
    clear ha2 ha4 ha5 ha6 hy sf
    go_wp2_with fail
    go_ret
    refine ⟨_, rfl, ?_, ?_⟩
    · have h := kS.out.mems
      have e : (L.set at' (NV.make m (.slice d4a m.data.length d4c))).map NV.m = putP l m := by
        rw [kput.out, if_pos hp, List.map_set, kLm.out, Int.toNat_natCast]
      rw [e] at h
      exact h
    · have h : Below w.heap.size w (putW w6 g at' (NV.make m (.slice d4a m.data.length d4c))) := kb6.out.trans ⟨kG.out.os, kG.out.tape, kG.out.output, kG.out.size, fun j hj => kG.out.block j (by have := kb6.out.size; omega) (fun e => by injection e with e; omega)⟩
      exact h
  · have hn : placeB l m.name < 0 := by omega
    have kN7 := Lib.hid (cells_new w6 (NV.make m (.slice d4a m.data.length d4c)).cells 37)
    have kb67 := Lib.hid (below_al (o := .cells (NV.make m (.slice d4a m.data.length d4c)).cells.toArray 37) (Below.refl w6.heap.size w6))
    have kR7 := Lib.hid (kR6.out.on kb67.out)
    have kq7 := Lib.hid (kq6.out.of_heap (w' := w6.alloc (.cells (NV.make m (.slice d4a m.data.length d4c)).cells.toArray 37)) (fun j hj => kb67.out.block j (kR6.out.2.2 j hj).1) (fun _ h => h))
    have kb7 := Lib.hid (kb6.out.trans (kb67.out.mono kb6.out.size))
    have hz7 : w1.heap.size ≤ (w6.alloc (.cells (NV.make m (.slice d4a m.data.length d4c)).cells.toArray 37)).heap.size := by
      have h1 := kb67.out.size
      have h2 := kb56.out.size
      have h3 := hs5.out
      omega
    have hLL : L.length ≤ 1099511627700 := by omega
    have kput2 := Lib.hid (show putP l m = l ++ [m] by rw [kput.out, if_neg hp])
    clear ha2 ha4 ha5 ha6 hp
    go_wp2_with (at_builtin; refine wpList_append_row _ rfl _ _ rfl w1.heap.size (.slice a2 l.length c2) L T' rfl kR7.out (NV.make m (.slice d4a m.data.length d4c)) ⟨w6.heap.size, 0, none⟩ 1 rfl kN7.out kq7.out (by omega) hz7 ?_; intro a9 c9 w9 h9 hg9; have k9 := Lib.hid h9; have kg9 := Lib.hid hg9; clear h9 hg9)
    go_ret
    refine ⟨_, rfl, ?_, ?_⟩
    · have h := k9.out.mems
      rw [List.map_append, kLm.out, hLl] at h
      rw [kput2.out]
      exact h
    · exact kb7.out.trans ⟨kg9.out.os, kg9.out.tape, kg9.out.output, kg9.out.size, fun j hj => kg9.out.block j (Nat.lt_of_lt_of_le hj kb7.out.size) (fun e => by have := (kR7.out.lt j e.symm).1; omega)⟩
end
end Go.Proofs.YtnjagoglabllaaaGreatDoor
