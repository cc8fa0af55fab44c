/-
  PutMember, the reference's. Conditions: at most 2^40 members, data of at most 2^40 bytes.
-/
import Derived.Test.YtnjagoglabllaaaGreatDoorArPutF
namespace Go.Proofs.YtnjagoglabllaaaGreatDoor
open Go.RowKit

theorem wpList_append_all {ops : Array Oper} {rest : List Oper} {o : Oper} {a : Act} {Q : Exit → Act → World → Prop} (w : World) (hgd : o.guard = none) (s x : Operand)
    (hop : o.op = Op.call { callee := Callee.builtin Builtin.append, args := #[s, x], argTypes := #[22, 22] }) (hs : a.eval s = .slice none 0 0) (ad : Option Addr) (c : Nat) (l : List Mem) (T : Nat → Prop) (hx : a.eval x = .slice ad l.length c) (h : MemsAt w (.slice ad l.length c) l T) (hT : ∀ j, T j → j < w.heap.size) (hl : l.length ≤ 1099511627775)
    (hK : ∀ a' c' w' L, L.map NV.m = l → MemsRow w' w.heap.size (.slice a' l.length c') L T → Below w.heap.size w w' → wpList Tryz.prog ops Q rest (a.put o.dst (.slice a' l.length c')) w') :
    wpList Tryz.prog ops Q (o :: rest) a w := by
  refine wpList_plain hgd fun K hK' => ?_
  obtain ⟨a', c', w', L, hrun, r1, r2, r3⟩ := run_append_all w ad c l T h hT o.type hl
  unfold Oper.wp
  simp [execOp, hop, resolve, invoke, builtin, hs, hx, hrun, Result.andThen]
  exact hK' _ _ (hK a' c' w' L r1 r2 r3)
section
variable {l : List Mem} {nv mdv : Value} {T Tm : Nat → Prop} {w : World}
set_option maxRecDepth 100000 in
set_option maxHeartbeats 8000000 in
theorem putMember_calls (ht : MemsAt w nv l T) (hT : ∀ k, T k → k < w.heap.size) (hl : l.length ≤ 1099511627700) (m : Mem) (hm : BytesAt w mdv m.data Tm) (hTm : ∀ k, Tm k → k < w.heap.size) (hmd : m.data.length ≤ 1099511627776) :
    Calls Tryz.prog 22 #[nv, .agg #[.string (mk m.name), .int .i64 m.date, mdv]] w fun e w' => ∃ v, e = .returned v ∧ MemsAt w' v (putP l m) (fun j => j < w'.heap.size) ∧ Below w.heap.size w w' := by
  obtain ⟨ta, tc, hnv⟩ := ht.form
  obtain ⟨ma, mc, hmv⟩ := hm.form
  subst hnv hmv
  have kbx := Lib.hid (heap_alloc_new w (.cells #[.string (mk m.name), .int .i64 m.date, .slice ma m.data.length mc] 37))
  have kb1 := Lib.hid (below_al (o := .cells #[.string (mk m.name), .int .i64 m.date, .slice ma m.data.length mc] 37) (Below.refl w.heap.size w))
  have hsz1 : w.heap.size < (w.alloc (.cells #[.string (mk m.name), .int .i64 m.date, .slice ma m.data.length mc] 37)).heap.size := heap_lt kbx.out
  have kt := Lib.hid (fun (W : World) (h : Below w.heap.size w W) => ht.of_heap (w' := W) (T' := T) (fun j hj => h.block j (hT j hj)) (fun _ h => h))
  have kT := Lib.hid (fun (W : World) (h : Below w.heap.size w W) (j : Nat) (hj : T j) => Nat.lt_of_lt_of_le (hT j hj) h.size)
  have km := Lib.hid (fun (W : World) (h : Below w.heap.size w W) => hm.of_heap (w' := W) (S' := Tm) (fun j hj => h.block j (hTm j hj)) (fun _ h => h))
  have kT0 := Lib.hid hT
  clear ht hT hm hTm
  go_enter Tryz.func22, Tryz.ntmps22
  go_upto_region 2 with (fail)
  generalize w.alloc (.cells #[.string (mk m.name), .int .i64 m.date, .slice ma m.data.length mc] 37) = w1 at *
  have kA := Lib.hid (kt.out _ kb1.out)
  have kTA := Lib.hid (kT.out _ kb1.out)
  go_upto_region 3 with (at_builtin; refine wpList_append_all _ rfl _ _ rfl rfl ta tc l T rfl kA.out kTA.out (by omega) ?_; intro a2 c2 w2 L hLm hR hb; have kLm := Lib.hid hLm; have kR2 := Lib.hid hR; have kb12 := Lib.hid hb; clear hLm hR hb)
  have kb2 := Lib.hid (kb1.out.trans (kb12.out.mono kb1.out.size))
  have kbx2 := Lib.hid ((kb12.out.block _ hsz1).trans kbx.out)
  obtain ⟨b0, b1, b2, bf⟩ := cells3 kbx2.out
  have bf2 := bf 2
  have hbl := heap_lt kbx2.out
  have kd := Lib.hid (km.out _ kb2.out)
  clear bf
  go_upto_region 4 with (at_builtin; refine wpList_append_byt _ rfl _ _ rfl w2.heap.size (.slice none 0 0) [] rfl (World.ownsRow_nil _ _ _ _) _ m.data Tm rfl kd.out (by simp; omega) (Nat.le_refl _) ?_; intro a4 n4 c4 w4 hn4 ho4 hg4 _; rw [List.nil_append] at hn4 ho4; have ko4 := Lib.hid ho4; have kb24 := Lib.hid (show Below w2.heap.size w2 w4 from ⟨hg4.os, hg4.tape, hg4.output, hg4.size, fun j hj => hg4.block j hj (by simp [Value.ownBlock])⟩); have kbx4 := Lib.hid ((kb24.out.block _ hbl).trans kbx2.out); obtain ⟨r0, r1, r2, rf⟩ := cells3 kbx4.out; have rl := heap_lt kbx4.out; have rf2 := rf 2; clear ho4 hg4 b0 b1 b2 rf)
  have en := hn4.out
  subst en
  have kb4 := Lib.hid (kb2.out.trans (kb24.out.mono kb2.out.size))
  have t1 := set_heap kbx4.out 2 (.slice a4 m.data.length c4)
  have kbx5 := Lib.hid (show (w4.setCell ⟨w.heap.size, 2, none⟩ (.slice a4 m.data.length c4)).heap[w.heap.size]? = some (.cells #[.string (mk m.name), .int .i64 m.date, .slice a4 m.data.length c4] 37 (0, 0)) by simpa using t1)
  have kb5 := Lib.hid (kb4.out.setCell (p := ⟨w.heap.size, 2, none⟩) (Nat.le_refl _) (.slice a4 m.data.length c4))
  have he5 := Lib.hid (fun (j : Nat) (hj : j ≠ w.heap.size) => Below.heap_setCell w4 ⟨w.heap.size, 2, none⟩ (.slice a4 m.data.length c4) j hj)
  have hs5 := Lib.hid (show (w4.setCell ⟨w.heap.size, 2, none⟩ (.slice a4 m.data.length c4)).heap.size = w4.heap.size by simp)
  clear t1 r0 r1 r2 rl rf2 bf2
  generalize w4.setCell ⟨w.heap.size, 2, none⟩ (.slice a4 m.data.length c4) = w5 at *
  have hLl : L.length = l.length := by have := congrArg List.length kLm.out; rwa [List.length_map] at this
  have hz12 := kb12.out.size
  have hz24 := kb24.out.size
  have kR5 := Lib.hid (show MemsRow w5 w1.heap.size (.slice a2 l.length c2) L (fun j => T j ∨ (w2.heap.size ≤ j ∧ j < w4.heap.size)) from by
    have h1 := kR2.out
    have hlow := fun g hg => h1.lt g hg
    have h2 : MemsRow w5 w1.heap.size (.slice a2 l.length c2) L T := h1.keep (w' := w5) (fun j hj => by
      have hj' : j ≠ w.heap.size ∧ j < w2.heap.size := hj.elim (fun h => by have := kT0.out j h; omega) (fun h => by have := hlow j h; omega)
      rw [he5.out j hj'.1, kb24.out.block j hj'.2]) (by rw [hs5.out]; omega)
    refine h2.weak (fun j hj => Or.inl hj) (fun j hj => ?_)
    rcases hj with hj | hj
    · exact h2.2.2 j hj
    · exact ⟨by rw [hs5.out]; omega, fun e => by have := (hlow j e).2; omega⟩)
  have kq5 := Lib.hid (show BytesAt w5 (.slice a4 m.data.length c4) m.data (fun j => T j ∨ (w2.heap.size ≤ j ∧ j < w4.heap.size)) from
    (bytes_own ko4.out).of_heap (w' := w5) (fun j hj => he5.out j (by omega)) (fun j hj => Or.inr hj))
  obtain ⟨b0, b1, b2, bf⟩ := cells3 kbx5.out
  have bl5 := heap_lt kbx5.out
  have hF := Lib.hid (member_calls (kt.out _ kb5.out) (by omega) m.name)
  go_upto_region 5 with (go_at_call 21; refine hF.out.mono ?_; rintro e w6 ⟨rfl, rfl⟩)
  generalize hT' : (fun j => T j ∨ (w2.heap.size ≤ j ∧ j < w4.heap.size)) = T' at *
  have kput := Lib.hid (show putP l m = if 0 ≤ placeB l m.name then l.set (placeB l m.name).toNat m else l ++ [m] from rfl)
  obtain ⟨at', -, ha2, -, ha4, ha5, ha6⟩ := put_place l m
  have hB1 := kb1.out.size
  by_cases hp : 0 ≤ placeB l m.name
  · rw [if_neg (by omega)] at ha2
    have ha7 := ha5 hp
    rw [← ha2] at hp kput ⊢
    obtain ⟨g, rfl⟩ := row_some kR5.out (by omega)
    obtain ⟨y, hy⟩ : ∃ y, L[at']? = some y := ⟨_, List.getElem?_eq_getElem (by omega)⟩
    obtain ⟨s0, s1, s2, sf, sl⟩ := kR5.out.cells hy
    have kS := Lib.hid (kR5.out.set (i := at') (by omega) (NV.make m (.slice a4 m.data.length c4)) kq5.out)
    have kG := Lib.hid (putW_grown w5 g at' (NV.make m (.slice a4 m.data.length c4)))
    have hgB := (kR5.out.lt g rfl).1
    have sf0 := sf (at' * 3)
    have sf1 := sf (at' * 3 + 1)
    have sf2 := sf (at' * 3 + 2)
    have y1 : (at' : Int) < (l.length : Int) := by omega
    have kcl := Lib.hid ha2
    clear ha2 ha4 ha5 ha6 hy sf
    go_wp2_with fail
    go_ret
    refine ⟨_, rfl, ?_, ?_⟩
    · have h := kS.out.mems
      have e : (L.set at' (NV.make m (.slice a4 m.data.length c4))).map NV.m = putP l m := by
        rw [kput.out, if_pos hp, List.map_set, kLm.out, Int.toNat_natCast]
      rw [e] at h
      exact h
    · have h : Below w.heap.size w (putW w5 g at' (NV.make m (.slice a4 m.data.length c4))) := kb5.out.trans ⟨kG.out.os, kG.out.tape, kG.out.output, kG.out.size, fun j hj => kG.out.block j (by have := kb5.out.size; omega) (fun e => by injection e with e; omega)⟩
      exact h
  · have hn : placeB l m.name < 0 := by omega
    have kN7 := Lib.hid (cells_new w5 (NV.make m (.slice a4 m.data.length c4)).cells 37)
    have kb57 := Lib.hid (below_al (o := .cells (NV.make m (.slice a4 m.data.length c4)).cells.toArray 37) (Below.refl w5.heap.size w5))
    have kR7 := Lib.hid (kR5.out.on kb57.out)
    have kq7 := Lib.hid (kq5.out.of_heap (w' := w5.alloc (.cells (NV.make m (.slice a4 m.data.length c4)).cells.toArray 37)) (fun j hj => kb57.out.block j (kR5.out.2.2 j hj).1) (fun _ h => h))
    have kb7 := Lib.hid (kb5.out.trans (kb57.out.mono kb5.out.size))
    have hz7 : w1.heap.size ≤ (w5.alloc (.cells (NV.make m (.slice a4 m.data.length c4)).cells.toArray 37)).heap.size := by
      have h1 := kb57.out.size
      have h3 := hs5.out
      omega
    have hLL : L.length ≤ 1099511627700 := by omega
    have kput2 := Lib.hid (show putP l m = l ++ [m] by rw [kput.out, if_neg hp])
    clear ha2 ha4 ha5 ha6 hp
    go_wp2_with (at_builtin; refine wpList_append_row _ rfl _ _ rfl w1.heap.size (.slice a2 l.length c2) L T' rfl kR7.out (NV.make m (.slice a4 m.data.length c4)) ⟨w5.heap.size, 0, none⟩ 1 rfl kN7.out kq7.out (by omega) hz7 ?_; intro a9 c9 w9 h9 hg9; have k9 := Lib.hid h9; have kg9 := Lib.hid hg9; clear h9 hg9)
    go_ret
    refine ⟨_, rfl, ?_, ?_⟩
    · have h := k9.out.mems
      rw [List.map_append, kLm.out, hLl] at h
      rw [kput2.out]
      exact h
    · exact kb7.out.trans ⟨kg9.out.os, kg9.out.tape, kg9.out.output, kg9.out.size, fun j hj => kg9.out.block j (Nat.lt_of_lt_of_le hj kb7.out.size) (fun e => by have := (kR7.out.lt j e.symm).1; omega)⟩
end
end Go.Proofs.YtnjagoglabllaaaGreatDoor
