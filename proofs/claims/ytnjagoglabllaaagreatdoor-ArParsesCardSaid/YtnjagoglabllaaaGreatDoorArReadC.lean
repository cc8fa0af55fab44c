/-
  What read calls, in lists of bytes. Conditions: texts of at most 2^30 bytes; strconv.ErrSyntax holds an error.
-/
import Derived.Test.YtnjagoglabllaaaGreatDoorShelfB
import Derived.Test.YtnjagoglabllaaaGreatDoorArReadP
import Derived.Test.YtnjagoglabllaaaGreatDoorArAlive
import Derived.Lib.IndexBytes
import Derived.Lib.AtoiErrMem
import Derived.Lib.AtoiBound
namespace Go.Proofs.YtnjagoglabllaaaGreatDoor
open Go.RowKit

theorem trim_calls (s : Bs) (w : World) (h : s.length ≤ 1073741824) : Calls Tryz.prog 46 #[.string (mk s), .string ⟨#[32]⟩] w fun e w' => e = .returned (.string (mk (Lib.trimRightB s 32))) ∧ w = w' := by
  have := Tryz.strings_TrimRight_one (mk s) 32 (by decide) w (by rw [mk_size]; omega)
  refine this.mono ?_
  rintro e w' ⟨rfl, rfl⟩
  refine ⟨?_, rfl⟩
  rw [mk_list]; rfl
theorem prefix_calls (s : Bs) (w : World) : Calls Tryz.prog 47 #[.string (mk s), .string ⟨#[47]⟩] w fun e w' => e = .returned (.bool (Lib.hasPrefix s [47])) ∧ w = w' := by
  refine (Tryz.strings_HasPrefix (mk s) ⟨#[47]⟩ w).mono ?_
  rintro e w' ⟨rfl, rfl⟩
  refine ⟨?_, rfl⟩
  rw [mk_list]
theorem suffix_calls (s : Bs) (w : World) (h : s.length ≤ 1073741824) : Calls Tryz.prog 49 #[.string (mk s), .string ⟨#[47]⟩] w fun e w' => e = .returned (.string (mk (Lib.trimSuffix s [47]))) ∧ w = w' := by
  refine (Tryz.strings_TrimSuffix (mk s) ⟨#[47]⟩ w (by rw [mk_size]; omega)).mono ?_
  rintro e w' ⟨rfl, rfl⟩
  refine ⟨?_, rfl⟩
  rw [mk_list]; rfl
theorem atoi_ok (s : Bs) (n : Int) (w : World) (hl : s.length ≤ 18) (h : Lib.atoi s = some n) : Calls Tryz.prog 45 #[.string (mk s)] w fun e w' => e = .returned (.tuple #[.int .i64 n, .nilIface]) ∧ Below w.heap.size w w' := by
  refine (Tryz.strconv_Atoi (mk s) n (by rw [mk_size]; exact hl) (by rw [mk_list]; exact h) w).mono ?_
  rintro e w' ⟨rfl, t, rfl⟩
  exact ⟨rfl, Lib.bytesWorld_below _ _ _⟩
/-- strconv.ErrSyntax holds an error. -/
def ErrV (w : World) : Prop := (∃ tp p, w.cell? ⟨1, 0, none⟩ = some (.iface tp p)) ∧ 1 < w.heap.size
theorem ErrV.on {w w' : World} {B : Nat} (h : ErrV w) (hb : Below B w w') (hB : 1 < B) : ErrV w' := by
  obtain ⟨⟨tp, p, h1⟩, h2⟩ := h
  exact ⟨⟨tp, p, (World.cell?_of_block (a := ⟨1, 0, none⟩) (hb.block 1 hB)).trans h1⟩, Nat.lt_of_lt_of_le h2 hb.size⟩
theorem atoi_bad (s : Bs) (w : World) (hl : s.length ≤ 18) (h : Lib.atoi s = none) (he : ErrV w) : Calls Tryz.prog 45 #[.string (mk s)] w fun e w' => ∃ N, e = .returned (.tuple #[.int .i64 0, .iface 120 (.pointer (some ⟨N, 0, none⟩))]) ∧ Below w.heap.size w w' := by
  obtain ⟨⟨tp, p, h1⟩, -⟩ := he
  refine (Tryz.strconv_Atoi_err (mk s) (by rw [mk_size]; exact hl) (by rw [mk_list]; exact h) (.iface tp p) w h1 (Or.inr ⟨tp, p, rfl⟩)).mono ?_
  rintro e w' ⟨N, rfl, -, -, hb⟩
  exact ⟨N, rfl, hb⟩
theorem slIndex_calls (s : Bs) (w : World) : Calls Tryz.prog 83 #[.string (mk s), .string ⟨#[10]⟩] w fun e w' => e = .returned (.int .i64 (Lib.index s [10])) ∧ w = w' := by
  refine (Tryz.stringslite_Index_one (mk s) 10 w).mono ?_
  rintro e w' ⟨rfl, rfl⟩
  refine ⟨?_, rfl⟩
  rw [mk_list, Lib.index_one]
theorem ext_mk (l : Bs) (i j : Nat) : (mk l).extract i j = mk ((l.drop i).take (j - i)) := by
  apply ba_ext
  simp [mk, ByteArray.data_extract, List.take_drop]
theorem index_lt (s : Bs) (h : 0 ≤ Lib.index s [10]) : (Lib.index s [10]).toNat < s.length := by
  rw [Lib.index_one] at *
  obtain ⟨o, ho⟩ : ∃ o : Nat, Lib.indexByte s 10 = o := ⟨(Lib.indexByte s 10).toNat, by omega⟩
  have := (Lib.indexByte_some ho).1
  rw [ho, Int.toNat_natCast]
  exact (List.getElem?_eq_some_iff.1 this).1
set_option maxRecDepth 100000 in
set_option maxHeartbeats 2000000 in
theorem slCut_calls (s : Bs) (w : World) (hs : s.length ≤ 1073741824) : Calls Tryz.prog 63 #[.string (mk s), .string ⟨#[10]⟩] w fun e w' => ∃ x y, e = .returned (.tuple #[.string (mk (Lib.cut s [10]).1), x, y]) ∧ Below w.heap.size w w' := by
  have hI := Lib.hid (slIndex_calls s w)
  have hms := mk_size s
  by_cases h : 0 ≤ Lib.index s [10]
  · have hlt := index_lt s h
    obtain ⟨o, ho⟩ : ∃ o : Nat, Lib.index s [10] = o := ⟨(Lib.index s [10]).toNat, by omega⟩
    rw [ho, Int.toNat_natCast] at hlt
    have kc := Lib.hid (show (mk s).extract 0 o = mk (Lib.cut s [10]).1 by
      unfold Lib.cut
      rw [if_pos h, ho, ext_mk]; simp)
    rw [ho] at hI h
    clear ho
    have e1 : IntKind.i64.wrap ((o : Int) + 1) = ((o + 1 : Nat) : Int) := by rw [IntWalk.i64_in _ (by omega)]; omega
    generalize hS : mk s = S at *
    have kx := kc.out
    go_enter Tryz.func63, Tryz.ntmps63
    go_wp2_with (go_at_call 83; refine hI.out.mono ?_; rintro e w1 ⟨rfl, rfl⟩)
    go_quiet (fail)
    go_wp2_with fail
    go_ret3
    exact ⟨_, _, rfl, below_drewN' (Below.refl _ _) nq⟩
  · have kc := Lib.hid (show (Lib.cut s [10]).1 = s by
      unfold Lib.cut
      rw [if_neg h])
    go_enter Tryz.func63, Tryz.ntmps63
    go_wp2_with (go_at_call 83; refine hI.out.mono ?_; rintro e w1 ⟨rfl, rfl⟩)
    go_ret3
    exact ⟨_, _, by rw [kc.out]; rfl, Below.refl _ _⟩
theorem cut_calls (s : Bs) (w : World) (hs : s.length ≤ 1073741824) : Calls Tryz.prog 48 #[.string (mk s), .string ⟨#[10]⟩] w fun e w' => ∃ x y, e = .returned (.tuple #[.string (mk (Lib.cut s [10]).1), x, y]) ∧ Below w.heap.size w w' := by
  have hI := Lib.hid (slCut_calls s w hs)
  go_enter Tryz.func48, Tryz.ntmps48
  go_wp2_with (go_at_call 63; refine hI.out.mono ?_; rintro e w1 ⟨x, y, rfl, hb⟩; have kb := Lib.hid hb; clear hb)
  go_ret3
  exact ⟨_, _, rfl, kb.out⟩
end Go.Proofs.YtnjagoglabllaaaGreatDoor
