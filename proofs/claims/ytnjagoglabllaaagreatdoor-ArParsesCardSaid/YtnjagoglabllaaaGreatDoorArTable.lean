/-
  table: the names of more than fifteen bytes. Conditions: at most 65536 bytes of them.
-/
import Derived.Test.YtnjagoglabllaaaGreatDoorArPut
namespace Go.Proofs.YtnjagoglabllaaaGreatDoor
open Go.RowKit

theorem bw_calls (B b : Nat) (bs : List Value) (s : ByteArray) (w : World) (h : Go.Lib.IsBuilder 65 5 B b bs w) (hlen : bs.length + s.size ≤ 140737488355328) (hBw : B ≤ w.heap.size) :
    Calls Tryz.prog 40 #[.pointer (some ⟨b, 0, none⟩), .string s] w fun e w' => e = .returned (.tuple #[.int .i64 s.size, .nilIface]) ∧ (Lib.BuilderAt 65 5 B b (.pointer (some ⟨b, 0, none⟩)) (bs ++ Lib.strCells s) w' ∧ Below B w w') :=
  Any.Builder_WriteString { Tryz.lays105 with } Tryz.Builder_Extra_105 B b bs s w h hlen hBw
/-- A builder that holds bytes. -/
def Bld (w : World) (B b : Nat) (l : Bs) : Prop := Go.Lib.IsBuilder 65 5 B b (ucells l) w
theorem builderAt_below {w w' : World} {B b : Nat} {p : Value} {bs : List Value} (h : Go.Lib.BuilderAt 65 5 B b p bs w) (hb : Below w.heap.size w w') : Go.Lib.BuilderAt 65 5 B b p bs w' := by
  obtain ⟨h1, v, h2, h3, h4⟩ := h
  exact ⟨h1, v, (hb.block _ (heap_lt h2)).trans h2, own_below h3 hb, h4⟩
theorem Bld.below {w w' : World} {B b : Nat} {l : Bs} (h : Bld w B b l) (hb : Below w.heap.size w w') : Bld w' B b l := by
  rcases h with h | h
  · exact Or.inl (builderAt_below h hb)
  · exact Or.inr (builderAt_below h hb)
theorem Bld.write {w : World} {B b : Nat} {l : Bs} (h : Bld w B b l) (ys : Bs) (hlen : l.length + ys.length ≤ 70368744177664) (hB : B ≤ w.heap.size) :
    Calls Tryz.prog 40 #[.pointer (some ⟨b, 0, none⟩), .string (mk ys)] w fun e w' => ∃ n : Int, e = .returned (.tuple #[.int .i64 n, .nilIface]) ∧ Bld w' B b (l ++ ys) ∧ Below B w w' := by
  refine (bw_calls B b (ucells l) (mk ys) w h (by rw [ucells_len, mk_size]; omega) hB).mono ?_
  rintro e w' ⟨rfl, h1, h2⟩
  refine ⟨_, rfl, Or.inr ?_, h2⟩
  rw [ucells_append, ← str_cells ys]
  exact h1
theorem table_more {l : List Mem} {k : Nat} {x : Mem} (h : l[k]? = some x) : tableB (l.take (k + 1)) = if 15 < x.name.length then tableB (l.take k) ++ x.name ++ [47, 10] else tableB (l.take k) := by
  rw [take_more h, table_app, tableB, tableB]
  unfold longM
  by_cases h1 : 15 < x.name.length
  · rw [if_pos h1]; simp [h1]
  · rw [if_neg h1]; simp [h1]
theorem table_pre (l : List Mem) (k : Nat) : (tableB (l.take k)).length ≤ (tableB l).length := by
  have e : l = l.take k ++ l.drop k := (List.take_append_drop k l).symm
  have h2 : (tableB l).length = (tableB (l.take k)).length + (tableB (l.drop k)).length := by rw [← List.length_append, ← table_app, ← e]
  omega
section
variable {l : List Mem} {nv : Value} {T : Nat → Prop} {w : World}
set_option maxRecDepth 100000 in
set_option maxHeartbeats 4000000 in
theorem table_calls (ht : MemsAt w nv l T) (hT : ∀ k, T k → k < w.heap.size) (hp : (tableB l).length ≤ 1048576) (hl : l.length ≤ 100000) (hn : ∀ x ∈ l, x.name.length ≤ 140737488355328) :
    Calls Tryz.prog 25 #[nv] w fun e w' => e = .returned (.string (mk (tableB l))) ∧ Below w.heap.size w w' := by
  obtain ⟨ta, tc, hnv⟩ := ht.form
  subst hnv
  have kt := Lib.hid ht
  have kT := Lib.hid hT
  have kp := Lib.hid hp
  have kn := Lib.hid hn
  have kb0 := Lib.hid (show Bld (w.alloc (.cells #[.pointer none, .slice none 0 0] 65)) w.heap.size w.heap.size [] from Go.Lib.fresh_isBuilder 65 5 w)
  have kB0 := Lib.hid (below_al (o := .cells #[.pointer none, .slice none 0 0] 65) (Below.refl w.heap.size w))
  clear ht hT hp hn
  go_enter Tryz.func25, Tryz.ntmps25
  go_upto_region 3 with (fail)
  generalize (w.alloc (.cells #[.pointer none, .slice none 0 0] 65)) = w0 at *
  go_loopw [5, 8] (fun _ iv wr => ∃ k : Nat, k ≤ l.length ∧ iv = .int .i64 k ∧ Bld wr w.heap.size w.heap.size (tableB (l.take k)) ∧ Below w.heap.size w wr) (fun _ iv _ => l.length - (intOf iv).toNat)
  case atStart => exact ⟨0, Nat.zero_le _, rfl, kb0.out, kB0.out⟩
  case round =>
    obtain ⟨k, hk, rfl, hb, hB⟩ := hrel
    have kb := Lib.hid hb
    have kB := Lib.hid hB
    clear hb hB
    by_cases hlt : k < l.length
    · obtain ⟨x, hx⟩ : ∃ x, l[k]? = some x := ⟨_, List.getElem?_eq_getElem hlt⟩
      have kx := Lib.hid hx
      obtain ⟨b, off, dv, hta, hTb, hbl, hc0, hc1, hc2, hdv⟩ := (kt.out.of_heap (w' := wr) (T' := T) (fun j hj => kB.out.block j (kT.out j hj)) (fun _ h => h)).at hx
      obtain ⟨da, dc, hdf⟩ := hdv.form
      subst hta hdf
      have hpx := kn.out x (List.mem_of_getElem? hx)
      have hms : (mk x.name).size = x.name.length := mk_size x.name
      have h1 := table_more hx
      have kX := Lib.hid (heap_alloc_new wr (.cells #[.string (mk x.name), .int .i64 x.date, .slice da x.data.length dc] 37))
      have kA := Lib.hid (below_al (o := .cells #[.string (mk x.name), .int .i64 x.date, .slice da x.data.length dc] 37) (Below.refl wr.heap.size wr))
      clear hTb hdv hx
      go_upto_region 5 with (fail)
      generalize wr.alloc (.cells #[.string (mk x.name), .int .i64 x.date, .slice da x.data.length dc] 37) = w1 at *
      obtain ⟨m0, m1, m2, -⟩ := cells3 kX.out
      have hml := heap_lt kX.out
      clear hc0 hc1 hc2 hbl
      have kb1 := Lib.hid (kb.out.below kA.out)
      have kB1 := Lib.hid (kB.out.trans (kA.out.mono kB.out.size))
      by_cases hnm : 15 < x.name.length
      · have y2 : (15 : Int) < (x.name.length : Int) := by omega
        rw [if_pos hnm] at h1
        have hlen := Nat.le_trans (table_pre l (k + 1)) kp.out
        have hlen2 := Nat.le_trans (table_pre l k) kp.out
        have h2 := congrArg List.length h1
        simp only [List.length_append, List.length_cons, List.length_nil] at h2
        have kW := Lib.hid (kb1.out.write x.name (by omega) kB1.out.size)
        have kh1 := Lib.hid (And.intro h1 (And.intro h2 (And.intro hlen hlen2)))
        clear h1 h2 hlen hlen2
        go_upto_region 7 with (go_at_call 40; refine kW.out.mono ?_; rintro e w2 ⟨n2, rfl, hb2, hB2⟩; have kb2 := Lib.hid hb2; have kB2 := Lib.hid (kB1.out.trans hB2); clear hb2 hB2)
        have kW2 := Lib.hid (kb2.out.write [47, 10] (by obtain ⟨-, h2, h3, h4⟩ := kh1.out; rw [List.length_append]; show _ + 2 ≤ _; omega) kB2.out.size)
        go_wp2_with (go_at_call 40; refine kW2.out.mono ?_; rintro e w3 ⟨n3, rfl, hb3, hB3⟩; have kb3 := Lib.hid hb3; have kB3 := Lib.hid (kB2.out.trans hB3); clear hb3 hB3)
        have kh := kh1.out.1
        exact ⟨⟨k + 1, by omega, by go_num, by rw [kh]; exact kb3.out, kB3.out⟩, by simp [intOf]; omega⟩
      · have y2 : ¬ (15 : Int) < (x.name.length : Int) := by omega
        rw [if_neg hnm] at h1
        have kh1 := Lib.hid h1
        clear h1
        go_wp2_with fail
        have kh := kh1.out
        exact ⟨⟨k + 1, by omega, by go_num, by rw [kh]; exact kb1.out, kB1.out⟩, by simp [intOf]; omega⟩
    · have hkl : k = l.length := by omega
      have y1 : ¬ (k : Int) < (l.length : Int) := by omega
      have kb9 := Lib.hid kb.out
      have kS := Lib.hid (Tryz.Builder_String_any w.heap.size w.heap.size (tableB (l.take k)) wr kb.out kB.out.size)
      have kkl := Lib.hid hkl
      clear hkl
      go_wp2_with (go_at_call 41; refine kS.out.mono ?_; rintro e w2 ⟨rfl, hB2⟩; have kB2 := Lib.hid (kB.out.trans hB2); clear hB2)
      go_ret
      exact ⟨by rw [kkl.out, List.take_length]; rfl, kB2.out⟩
end
end Go.Proofs.YtnjagoglabllaaaGreatDoor
