/-
  VfsMany. Conditions: none.
-/
import Derived.Test.YtejofgdglpmlkaaDoorVDec
namespace Go.Proofs.YtejofgdglpmlkaaDoor
open Go.RowKit

section
variable {f mb : Nat} {N : Bs → Nat} {S : Nat → Prop} {st st' : St} {clock clock' room c : Int}
def mkdirP (st : St) (clock room : Int) (q : Bs) : Int × St × Int := if fitsB st room 1 0 = false then (15, st, clock) else (0, putSt st q ⟨true, clock + 1, []⟩, clock + 1)
set_option maxRecDepth 100000 in
set_option maxHeartbeats 4000000 in
theorem mkdir_full {p : ByteArray} {q : Bs} (w : World) (h : FsIn w f mb N S st clock room) (hp : p.size ≤ 2147483647) (hq : clean p.data.toList = q) (hr : lookQ st q = .none) (hl : wt st ≤ 1099511627776) (hfit : fitsB st room 1 0 = false) :
    Calls Tryd.prog 7 #[.pointer (some ⟨f, 0, none⟩), .string p] w fun e w' => e = .returned (.int .i64 15) ∧ Below w.heap.size w w' := by
  have hL := Lib.hid (look_none w h hp hq hr)
  obtain ⟨hv, hq0, -⟩ := lookQ_valid (Or.inl hr)
  have hqe := mk_isEmpty hq0
  have kh := Lib.hid h
  generalize mk q = Q at *
  clear h hq hr hv hq0
  go_enter Tryd.func7, Tryd.ntmps7
  go_wp2_with (go_at_call 16; refine hL.out.mono ?_; rintro e w1 ⟨rfl, hb⟩; have kb := Lib.hid hb; clear hb)
  have hF := Lib.hid (fits_no 1 0 w1 (kh.out.below kb.out) (by omega) (by omega) hl hfit)
  clear hfit
  go_wp2_with (go_at_call 18; refine hF.out.mono ?_; rintro e w2 ⟨rfl, n2, rfl⟩)
  go_ret
  exact ⟨rfl, below_drewN' kb.out n2⟩
theorem mkdir_none {p : ByteArray} {q : Bs} (w : World) (h : FsIn w f mb N S st clock room) (hp : p.size ≤ 2147483647) (hq : clean p.data.toList = q) (hr : lookQ st q = .none) (hl : wt st ≤ 1099511627776) (h0 : 0 ≤ clock) (h1 : clock ≤ 4611686018427387904) :
    Calls Tryd.prog 7 #[.pointer (some ⟨f, 0, none⟩), .string p] w fun e w' => OpPost w f S room (mkdirP st clock room q) e w' := by
  cases hfit : fitsB st room 1 0 with
  | true =>
    refine (mkdir_new w h hp hq hr hl h0 h1 hfit).mono ?_
    rintro e w' ⟨rfl, N', S', g1, g2, g3⟩
    exact OpPost.done (by unfold mkdirP; rw [if_neg (by simp [hfit])]) (Below.refl _ _) g1 g2 g3
  | false =>
    refine (mkdir_full w h hp hq hr hl hfit).mono ?_
    rintro e w' ⟨rfl, hb⟩
    exact OpPost.same h (by unfold mkdirP; rw [if_pos hfit]) rfl hb
theorem own_mkdir {w w1 : World} {p : ByteArray} {q : Bs} (hO : OwnFs w f st clock room w1) (hp : p.size ≤ 2147483647) (hq : clean p.data.toList = q) (hr : lookQ st q = .none) (hl : wt st ≤ 1099511627776) (h0 : 0 ≤ clock) (h1 : clock ≤ 4611686018427387904)
    (hres : mkdirP st clock room q = (c, st', clock')) :
    Calls Tryd.prog 7 #[.pointer (some ⟨f, 0, none⟩), .string p] w1 fun e w' => e = .returned (.int .i64 c) ∧ OwnFs w f st' clock' room w' := by
  obtain ⟨hB, mb, N, S, hF, hS⟩ := hO
  exact (mkdir_none w1 hF hp hq hr hl h0 h1).mono fun _ _ h => OwnFs.post hres hB hS h
end
/-- The tree behind k makings. -/
def manySt (d : Bool) (c : UInt8) : Nat → St
  | 0 => []
  | k + 1 => putSt (manySt d c k) (nameB c k) ⟨d, (k : Int) + 1, []⟩
theorem many_rising (d : Bool) (c : UInt8) : ∀ k, Rising (manySt d c k)
  | 0 => List.Pairwise.nil
  | k + 1 => rising_put _ _ (many_rising d c k)
theorem many_none (d : Bool) (c : UInt8) : ∀ (k j : Nat), k ≤ j → find (manySt d c k) (nameB c j) = none
  | 0, _, _ => rfl
  | k + 1, j, h => by
    rw [manySt, find_put, if_neg (fun e => by have := nameB_inj e; omega), many_none d c k j (by omega)]
theorem many_len (d : Bool) (c : UInt8) : ∀ k, (manySt d c k).length = k ∧ wt (manySt d c k) = k
  | 0 => ⟨rfl, rfl⟩
  | k + 1 => by
    obtain ⟨h1, h2⟩ := many_len d c k
    have h3 := len_put (nameB c k) ⟨d, (k : Int) + 1, []⟩ (many_rising d c k)
    have h4 := wt_put (nameB c k) ⟨d, (k : Int) + 1, []⟩ (many_rising d c k)
    rw [many_none d c k k (Nat.le_refl _)] at h3 h4
    simp only [own1, List.length_nil] at h4
    simp at h3
    rw [manySt]
    omega
theorem many_fits (d : Bool) (c : UInt8) (k : Nat) : fitsB (manySt d c k) 100000 1 0 = decide (k < 1000) := by
  obtain ⟨h1, h2⟩ := many_len d c k
  unfold fitsB
  rw [h1, h2, Bool.eq_iff_iff]
  simp; omega
theorem many_dirs (c : UInt8) (k : Nat) : mkdirP (manySt true c k) k 100000 (nameB c k) = if k < 1000 then (0, manySt true c (k + 1), (k : Int) + 1) else (15, manySt true c k, (k : Int)) := by
  unfold mkdirP
  rw [many_fits]
  by_cases h : k < 1000
  · simp [h, manySt]
  · simp [h]
theorem many_full (c : UInt8) (j : Nat) : mkdirP (manySt true c 1000) 1000 100000 (nameB c j) = (15, manySt true c 1000, 1000) := by
  unfold mkdirP
  rw [many_fits]; simp
theorem many_files (c : UInt8) (k : Nat) (h : k < 1000) : writeTail (manySt false c k) k 100000 (nameB c k) [] [] 1 (([] : Bs).length : Int) = (0, manySt false c (k + 1), (k : Int) + 1) := by
  unfold writeTail
  rw [if_neg (by simp), show ((([] : Bs).length : Nat) : Int) = 0 from rfl, many_fits]; simp [h, manySt]
theorem many_filled (c : UInt8) (j : Nat) : writeTail (manySt false c 1000) 1000 100000 (nameB c j) [] [] 1 (([] : Bs).length : Int) = (15, manySt false c 1000, 1000) := by
  unfold writeTail
  rw [if_neg (by simp), show ((([] : Bs).length : Nat) : Int) = 0 from rfl, many_fits]; simp
theorem many_name (c : UInt8) (i : Nat) (hc : 58 ≤ c.toNat) (hi : i < 10000) : (⟨#[c]⟩ ++ mk (decB i) : ByteArray).size ≤ 2147483647 ∧ clean (⟨#[c]⟩ ++ mk (decB i) : ByteArray).data.toList = nameB c i := by
  have hl := decB_len i hi
  have e : (⟨#[c]⟩ ++ mk (decB i) : ByteArray).data.toList = nameB c i := by rw [ba_append, mk_list]; rfl
  refine ⟨?_, by rw [e]; exact clean_name (name_good hc)⟩
  rw [Go.Lib.size_eq, e]; unfold nameB; simp only [List.length_cons]; omega
theorem many_dir1 {w w1 : World} {f i : Nat} (hO : OwnFs w f (manySt true 100 i) i 100000 w1) (hi : i < 1000) :
    Calls Tryd.prog 7 #[.pointer (some ⟨f, 0, none⟩), .string (⟨#[100]⟩ ++ mk (decB i))] w1 fun e w' => e = .returned (.int .i64 0) ∧ OwnFs w f (manySt true 100 (i + 1)) ((i : Int) + 1) 100000 w' := by
  obtain ⟨h1, h2⟩ := many_name 100 i (by decide) (by omega)
  obtain ⟨h3, h4⟩ := many_len true 100 i
  exact own_mkdir hO h1 h2 (look_name (by decide) (by omega) (many_none _ _ _ _ (Nat.le_refl _))) (by omega) (by omega) (by omega) (by rw [many_dirs, if_pos hi])
theorem many_dir2 {w w1 : World} {f i : Nat} (hO : OwnFs w f (manySt true 100 1000) 1000 100000 w1) (hi : 1000 ≤ i) (hi' : i < 10000) :
    Calls Tryd.prog 7 #[.pointer (some ⟨f, 0, none⟩), .string (⟨#[100]⟩ ++ mk (decB i))] w1 fun e w' => e = .returned (.int .i64 15) ∧ OwnFs w f (manySt true 100 1000) 1000 100000 w' := by
  obtain ⟨h1, h2⟩ := many_name 100 i (by decide) hi'
  obtain ⟨h3, h4⟩ := many_len true 100 1000
  exact own_mkdir hO h1 h2 (look_name (by decide) hi' (many_none _ _ _ _ hi)) (by omega) (by omega) (by omega) (many_full 100 i)
theorem many_file1 {w w1 : World} {f i : Nat} (hO : OwnFs w f (manySt false 102 i) i 100000 w1) (hi : i < 1000) :
    Calls Tryd.prog 9 #[.pointer (some ⟨f, 0, none⟩), .string (⟨#[102]⟩ ++ mk (decB i)), .slice none 0 0, .bool false] w1 fun e w' => e = .returned (.int .i64 0) ∧ OwnFs w f (manySt false 102 (i + 1)) ((i : Int) + 1) 100000 w' := by
  obtain ⟨h1, h2⟩ := many_name 102 i (by decide) (by omega)
  obtain ⟨h3, h4⟩ := many_len false 102 i
  exact own_write (bb := []) (Tb := fun _ => False) hO (Below.refl _ _) h1 h2 (look_name (by decide) (by omega) (many_none _ _ _ _ (Nat.le_refl _))) (by omega) (by omega) (by omega) (BytesAt.nil _ _) (fun _ hk => hk.elim) (by decide) (many_files 102 i hi)
theorem many_file2 {w w1 : World} {f i : Nat} (hO : OwnFs w f (manySt false 102 1000) 1000 100000 w1) (hi : 1000 ≤ i) (hi' : i < 10000) :
    Calls Tryd.prog 9 #[.pointer (some ⟨f, 0, none⟩), .string (⟨#[102]⟩ ++ mk (decB i)), .slice none 0 0, .bool false] w1 fun e w' => e = .returned (.int .i64 15) ∧ OwnFs w f (manySt false 102 1000) 1000 100000 w' := by
  obtain ⟨h1, h2⟩ := many_name 102 i (by decide) hi'
  obtain ⟨h3, h4⟩ := many_len false 102 1000
  exact own_write (bb := []) (Tb := fun _ => False) hO (Below.refl _ _) h1 h2 (look_name (by decide) hi' (many_none _ _ _ _ hi)) (by omega) (by omega) (by omega) (BytesAt.nil _ _) (fun _ hk => hk.elim) (by decide) (many_filled 102 i)
/-- How far the tree has come behind i rounds. -/
def manyLet (d : Bool) : UInt8 := if d then 100 else 102
def ManyInv (w : World) (f : Nat) (d : Bool) (i : Nat) (wr : World) : Prop := OwnFs w f (manySt d (manyLet d) (min i 1000)) ((min i 1000 : Nat) : Int) 100000 wr
set_option maxRecDepth 100000 in
set_option maxHeartbeats 8000000 in
theorem many_calls (n : Int) (d : Bool) (w : World) : Calls Tryd.prog 3 #[.int .i64 n, .bool d] w fun e w' => e = .returned (.bool true) ∧ Below w.heap.size w w' := by
  have hA := Lib.hid (alive_calls w)
  by_cases h1 : n < 990
  · go_enter Tryd.func3, Tryd.ntmps3
    go_wp2_with (go_at_call 5; refine hA.out.mono ?_; rintro e w1 ⟨rfl, hb⟩; have kb := Lib.hid hb; clear hb)
    go_ret
    exact ⟨rfl, kb.out⟩
  by_cases h2 : 1010 < n
  · go_enter Tryd.func3, Tryd.ntmps3
    go_wp2_with (go_at_call 5; refine hA.out.mono ?_; rintro e w1 ⟨rfl, hb⟩; have kb := Lib.hid hb; clear hb)
    go_ret
    exact ⟨rfl, kb.out⟩
  obtain ⟨n, rfl⟩ : ∃ m : Nat, n = m := ⟨n.toNat, by omega⟩
  go_enter Tryd.func3, Tryd.ntmps3
  go_wp2_with (first
    | (go_at_call 5; refine hA.out.mono ?_; rintro e w1 ⟨rfl, hb⟩; have kb := Lib.hid hb; clear hb)
    | (go_at_call 6; refine (own_new (w := w) (T := fun _ => False) kb.out (TreeAt.nil _ _) (fun _ hk => hk.elim) (fun _ hx => by cases hx) (fun _ hx => by cases hx) (by decide : rightP [] 0 100000 = 0)).mono ?_; rintro e w2 ⟨f, rfl, hO⟩; have kO := Lib.hid hO; clear hO))
  go_loopw [8, 9] (fun iv _ wr => ∃ i : Nat, i ≤ n ∧ iv = .int .i64 i ∧ ManyInv w f d i wr) (fun iv _ _ => n - (intOf iv).toNat)
  case atStart => exact ⟨0, Nat.zero_le _, rfl, kO.out⟩
  case round =>
    obtain ⟨i, hi, rfl, hInv⟩ := hrel
    have kI := Lib.hid hInv
    clear hInv
    by_cases hlt : i < n
    · have hD := Lib.hid (fun w => dec_calls i w (by omega))
      have hDs : (mk (decB i)).size ≤ 1048577 := by rw [mk_size]; have := decB_le i; omega
      cases d with
      | true =>
        by_cases hi0 : i < 1000
        · have hC := Lib.hid (fun w1 (h : OwnFs w f (manySt true 100 i) i 100000 w1) => many_dir1 h hi0)
          generalize mk (decB i) = D at *
          go_wp2_with (first
            | (go_at_call 8; refine (hD.out _).mono ?_; rintro e w3 ⟨rfl, rfl⟩)
            | (go_at_call 7; refine (hC.out _ (by have := kI.out; unfold ManyInv at this; rwa [Nat.min_eq_left (by omega)] at this)).mono ?_; rintro e w4 ⟨rfl, hO⟩; have kO := Lib.hid hO; clear hO)
            | (go_at_call 10; refine (num_calls _ _).mono ?_; rintro e wn ⟨rfl, rfl⟩))
          exact ⟨⟨i + 1, by omega, by go_num, by unfold ManyInv; rw [Nat.min_eq_left (by omega)]; exact kO.out⟩, by simp [intOf]; omega⟩
        · have hC := Lib.hid (fun w1 (h : OwnFs w f (manySt true 100 1000) 1000 100000 w1) => many_dir2 (i := i) h (by omega) (by omega))
          generalize mk (decB i) = D at *
          go_wp2_with (first
            | (go_at_call 8; refine (hD.out _).mono ?_; rintro e w3 ⟨rfl, rfl⟩)
            | (go_at_call 7; refine (hC.out _ (by have := kI.out; unfold ManyInv at this; rwa [Nat.min_eq_right (by omega)] at this)).mono ?_; rintro e w4 ⟨rfl, hO⟩; have kO := Lib.hid hO; clear hO)
            | (go_at_call 10; refine (num_calls _ _).mono ?_; rintro e wn ⟨rfl, rfl⟩))
          exact ⟨⟨i + 1, by omega, by go_num, by unfold ManyInv; rw [Nat.min_eq_right (by omega)]; exact kO.out⟩, by simp [intOf]; omega⟩
      | false =>
        by_cases hi0 : i < 1000
        · have hC := Lib.hid (fun w1 (h : OwnFs w f (manySt false 102 i) i 100000 w1) => many_file1 h hi0)
          generalize mk (decB i) = D at *
          go_wp2_with (first
            | (go_at_call 8; refine (hD.out _).mono ?_; rintro e w3 ⟨rfl, rfl⟩)
            | (go_at_call 9; refine (hC.out _ (by have := kI.out; unfold ManyInv at this; rwa [Nat.min_eq_left (by omega)] at this)).mono ?_; rintro e w4 ⟨rfl, hO⟩; have kO := Lib.hid hO; clear hO)
            | (go_at_call 10; refine (num_calls _ _).mono ?_; rintro e wn ⟨rfl, rfl⟩))
          exact ⟨⟨i + 1, by omega, by go_num, by unfold ManyInv; rw [Nat.min_eq_left (by omega)]; exact kO.out⟩, by simp [intOf]; omega⟩
        · have hC := Lib.hid (fun w1 (h : OwnFs w f (manySt false 102 1000) 1000 100000 w1) => many_file2 (i := i) h (by omega) (by omega))
          generalize mk (decB i) = D at *
          go_wp2_with (first
            | (go_at_call 8; refine (hD.out _).mono ?_; rintro e w3 ⟨rfl, rfl⟩)
            | (go_at_call 9; refine (hC.out _ (by have := kI.out; unfold ManyInv at this; rwa [Nat.min_eq_right (by omega)] at this)).mono ?_; rintro e w4 ⟨rfl, hO⟩; have kO := Lib.hid hO; clear hO)
            | (go_at_call 10; refine (num_calls _ _).mono ?_; rintro e wn ⟨rfl, rfl⟩))
          exact ⟨⟨i + 1, by omega, by go_num, by unfold ManyInv; rw [Nat.min_eq_right (by omega)]; exact kO.out⟩, by simp [intOf]; omega⟩
    · go_wp2
      go_ret
      exact ⟨rfl, kI.out.1⟩
end Go.Proofs.YtejofgdglpmlkaaDoor
