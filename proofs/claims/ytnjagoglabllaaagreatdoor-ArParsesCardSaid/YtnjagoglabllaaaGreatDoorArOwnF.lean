/-
  own: members in memory of their own. Conditions: at most 2^40 members, data of at most 2^40 bytes.
-/
import Derived.Test.YtnjagoglabllaaaGreatDoorArLent
import Derived.Test.YtnjagoglabllaaaGreatDoorArItoa
namespace Go.Proofs.YtnjagoglabllaaaGreatDoor
open Go.RowKit

/-- What own's loop keeps. -/
structure OwnInv (w : World) (l : List Mem) (i : Nat) (lv : Value) (wr : World) : Prop where make ::
  below : Below w.heap.size w wr
  list : ∃ L, L.map NV.m = l.take i ∧ MemsOwn wr w.heap.size lv L
theorem OwnInv.start (w : World) (l : List Mem) : OwnInv w l 0 (.slice none 0 0) w := ⟨Below.refl _ _, [], rfl, MemsOwn.nil _ _⟩
theorem mems_grown {w w' : World} {B : Nat} {v : Value} {L : List NV} (h : MemsOwn w B v L) (hg : w.grownBy w' v.ownBlock) (hB : B ≤ w.heap.size) : Below B w w' :=
  ⟨hg.os, hg.tape, hg.output, hg.size, fun j hj => hg.block j (by omega) (fun e => by have := (h.lt j e.symm).1; omega)⟩
theorem own_pack {w wr W1 w4 : World} {xb : Nat} {x : Mem} {lv dv dv' : Value} {L : List NV} (hx : wr.heap.size = xb) (hW : Below xb wr W1) (hX : W1.heap[xb]? = some (.cells #[.string (mk x.name), .int .i64 x.date, dv] 37 (0, 0))) (h4 : Below W1.heap.size W1 w4)
    (hU : w4.ownsRow W1.heap.size 5 1 dv' x.data.length (ucells x.data)) (hN : MemsOwn wr w.heap.size lv L) (hw2 : w.heap.size ≤ wr.heap.size) :
    MemsOwn ((w4.setCell ⟨xb, 2, none⟩ dv').alloc (.cells #[.string (mk x.name), .int .i64 x.date, dv'] 37)) w.heap.size lv L ∧
    (∀ j u, (NV.make x dv').cells[j]? = some u → ((w4.setCell ⟨xb, 2, none⟩ dv').alloc (.cells #[.string (mk x.name), .int .i64 x.date, dv'] 37)).cell? ((⟨w4.heap.size, 0, none⟩ : Addr).add j) = some u) ∧
    UBytes ((w4.setCell ⟨xb, 2, none⟩ dv').alloc (.cells #[.string (mk x.name), .int .i64 x.date, dv'] 37)) dv' x.data (fun j => w.heap.size ≤ j ∧ j < ((w4.setCell ⟨xb, 2, none⟩ dv').alloc (.cells #[.string (mk x.name), .int .i64 x.date, dv'] 37)).heap.size ∧ lv.ownBlock ≠ some j) ∧
    Below wr.heap.size wr ((w4.setCell ⟨xb, 2, none⟩ dv').alloc (.cells #[.string (mk x.name), .int .i64 x.date, dv'] 37)) := by
  have hxl := heap_lt hX
  have h8 := lent_below (v := dv') (o := .cells #[.string (mk x.name), .int .i64 x.date, dv'] 37) hx hW h4
  have hW1 := hW.size
  refine ⟨hN.keepb h8.block h8.size, ?_, (ubytes_own hU).of_heap (fun j hj => ?_) (fun j hj => ⟨by omega, by simp; omega, fun e => by have := (hN.lt _ e).2; omega⟩), h8⟩
  · intro j u hu
    have := cells_new (w4.setCell ⟨xb, 2, none⟩ dv') (NV.make x dv').cells 37 j u hu
    have e : (w4.setCell ⟨xb, 2, none⟩ dv').heap.size = w4.heap.size := by simp
    rw [e] at this
    exact this
  · exact (heap_alloc_old _ _ (by simp; omega)).trans ((set_grown w4 xb 2 _).block j hj.2 (fun e => by injection e with e; omega))
section
variable {l : List Mem} {nv : Value} {T : Nat → Prop} {w : World}
set_option maxRecDepth 100000 in
set_option maxHeartbeats 8000000 in
theorem own_calls (ht : MemsAt w nv l T) (hT : ∀ k, T k → k < w.heap.size) (hd : ∀ x ∈ l, x.data.length ≤ 1099511627776) (hl : l.length ≤ 1099511627770) :
    Calls Tryz.prog 37 #[nv] w fun e w' => ∃ a c L, e = .returned (.slice a l.length c) ∧ L.map NV.m = l ∧ MemsOwn w' w.heap.size (.slice a l.length c) L ∧ Below w.heap.size w w' := by
  obtain ⟨ta, tc, hnv⟩ := ht.form
  subst hnv
  have kt := Lib.hid ht
  have kT := Lib.hid hT
  have kd := Lib.hid hd
  clear ht hT hd
  go_enter Tryz.func37, Tryz.ntmps37
  go_wp2
  have k0 := Lib.hid (OwnInv.start w l)
  go_loopw [3, 5, 8] (fun lv _ iv wr => ∃ i : Nat, i ≤ l.length ∧ iv = .int .i64 i ∧ OwnInv w l i lv wr) (fun _ _ iv _ => l.length - (intOf iv).toNat)
  case atStart => exact ⟨0, Nat.zero_le _, rfl, k0.out⟩
  case round =>
    obtain ⟨i, hi, rfl, hI⟩ := hrel
    have kI := Lib.hid hI
    clear hI
    by_cases hlt : i < l.length
    · obtain ⟨x, hx⟩ : ∃ x, l[i]? = some x := ⟨_, List.getElem?_eq_getElem hlt⟩
      have kx := Lib.hid hx
      obtain ⟨b, off, dv, hta, hTb, hbl2, hc0, hc1, hc2, hdv⟩ := (kt.out.of_heap (w' := wr) (T' := T) (fun j hj => kI.out.below.block j (kT.out j hj)) (fun _ h => h)).at hx
      obtain ⟨da, dc, hdf⟩ := hdv.form
      subst hta hdf
      have hdl := kd.out x (List.mem_of_getElem? kx.out)
      have y0 : (i : Int) < (l.length : Int) := by omega
      clear hTb hx
      go_upto_region 5 with (fail)
      obtain ⟨L, hLm, hLN⟩ := kI.out.list
      have kLl := Lib.hid (show L.length ≤ i by have := congrArg List.length hLm; simp at this; omega)
      have kLm := Lib.hid hLm
      have kN := Lib.hid hLN
      clear hLm hLN
      have kXh := Lib.hid (heap_alloc_new wr (.cells #[.string (mk x.name), .int .i64 x.date, .slice da x.data.length dc] 37 (0, 0)))
      have kd1 := Lib.hid (hdv.of_heap (w' := wr.alloc (.cells #[.string (mk x.name), .int .i64 x.date, .slice da x.data.length dc] 37 (0, 0))) (fun j hj => heap_alloc_old _ _ (Nat.lt_of_lt_of_le (kT.out j hj) kI.out.below.size)) (fun _ h => h))
      have kW := Lib.hid (below_al (o := .cells #[.string (mk x.name), .int .i64 x.date, .slice da x.data.length dc] 37 (0, 0)) (Below.refl wr.heap.size wr))
      generalize wr.alloc (.cells #[.string (mk x.name), .int .i64 x.date, .slice da x.data.length dc] 37 (0, 0)) = W1 at *
      generalize hxb : wr.heap.size = xb at *
      obtain ⟨x0, x1, hx3, hxf⟩ := cells3 kXh.out
      have hxl := heap_lt kXh.out
      clear hc0 hc1 hc2 hdv hbl2
      generalize Value.slice da x.data.length dc = dvv at *
      have kxb := Lib.hid hxb
      clear hxb
      go_upto_region 6 with (at_builtin; refine wpList_append_byt _ rfl _ _ rfl W1.heap.size (.slice none 0 0) [] rfl (World.ownsRow_nil _ _ _ _) _ x.data T rfl kd1.out (by simp; omega) (Nat.le_refl _) ?_; intro a4 n4 c4 w4 hn4 ho4 hg4 _; rw [List.nil_append] at hn4 ho4; have ko4 := Lib.hid ho4; have kb4 := Lib.hid (show Below W1.heap.size W1 w4 from ⟨hg4.os, hg4.tape, hg4.output, hg4.size, fun j hj => hg4.block j hj (by simp [Value.ownBlock])⟩); have kx4 := Lib.hid ((kb4.out.block xb (heap_lt kXh.out)).trans kXh.out); obtain ⟨y0', y1', y2', yf⟩ := cells3 kx4.out; have yl := heap_lt kx4.out; have yf2 := yf 2; clear ho4 hg4 x0 x1 hx3 hxf hxl yf)
      have kZ := Lib.hid (own_pack (dv' := .slice a4 n4 c4) kxb.out kW.out kXh.out kb4.out ko4.out kN.out kI.out.below.size)
      go_wp2_with (at_builtin; refine wpList_append_mem _ rfl _ _ rfl w.heap.size u3 L rfl kZ.out.1 (NV.make x (.slice a4 n4 c4)) ⟨w4.heap.size, 0, none⟩ 1 rfl kZ.out.2.1 kZ.out.2.2.1 (by have := kLl.out; omega) (by have h1 := kI.out.below.size; have h2 := kZ.out.2.2.2.size; omega) ?_; intro a9 c9 w9 h9 hg9 hat9; have k9 := Lib.hid h9; have kg9 := Lib.hid hg9; clear h9 hg9 hat9)
      refine ⟨⟨i + 1, by omega, by go_num, ⟨?_, _, ?_, k9.out⟩⟩, by simp [intOf]; omega⟩
      · have h8 := kI.out.below.trans (kZ.out.2.2.2.mono kI.out.below.size)
        exact h8.trans (mems_grown kZ.out.1 kg9.out h8.size)
      · rw [List.map_append, kLm.out, take_more kx.out]; rfl
    · have hil : i = l.length := by omega
      subst hil
      have y0 : ¬ (l.length : Int) < (l.length : Int) := by omega
      obtain ⟨L, hLm, hLN⟩ := kI.out.list
      rw [List.take_length] at hLm
      have hLl : L.length = l.length := by have := congrArg List.length hLm; simpa using this
      have kb := Lib.hid kI.out.below
      obtain ⟨ua, uc, huf⟩ := hLN.form
      rw [hLl] at huf
      subst huf
      have kLm := Lib.hid hLm
      have kN := Lib.hid hLN
      clear hLm hLN hLl
      go_wp2_with fail
      go_ret
      exact ⟨ua, uc, rfl, L, kLm.out, kN.out, kb.out⟩
end
end Go.Proofs.YtnjagoglabllaaaGreatDoor
