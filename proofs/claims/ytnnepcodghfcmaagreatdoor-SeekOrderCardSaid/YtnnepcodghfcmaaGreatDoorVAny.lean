/-
  strings.ContainsAny at the two bytes 0 and 10, for every text. Conditions: texts shorter than 4294967281 bytes.
-/
import Derived.Test.YtnnepcodghfcmaaGreatDoorVClean
import Derived.Laws.Runes
namespace Go.Proofs.YtnnepcodghfcmaaGreatDoor
open Go.RowKit

theorem two_bytes {S : ByteArray} (hn : S.size = 2) (h : ∀ h : S.size - 1 < S.size, 128 ≤ (S[S.size - 1]'h).toNat) : ∃ x y : UInt8, S = ⟨#[x, y]⟩ ∧ 128 ≤ y.toNat := by
  obtain ⟨⟨l⟩⟩ := S
  match l, hn, h with
  | [x, y], _, h => exact ⟨x, y, rfl, h (by show 1 < 2; omega)⟩

theorem indexByte_none (c : UInt8) : Lib.indexByte [] c = -1 := by simp [Lib.indexByte]
set_option maxRecDepth 100000 in
set_option maxHeartbeats 1000000 in
theorem indexRune_far (c0 : ByteArray) (hc0 : c0 = ⟨#[0, 10]⟩) (r : Int) (w : World) (h1 : 128 ≤ r) (h2 : r ≤ 2147483647) :
    Calls Tryz.prog 70 #[.string c0, .int .i32 r] w fun e w' => e = .returned (.int .i64 (-1)) ∧ Below w.heap.size w w' := by
  have hs : c0.size = 2 := by rw [hc0]; rfl
  have z1 : 2 ≤ c0.size := by omega
  have z2 : c0.size ≤ 2 := by omega
  by_cases hr : r = 65533
  · subst hr
    subst hc0
    clear z1 z2 hs h1 h2
    go_enter Tryz.func70, Tryz.ntmps70
    go_wp2
    go_loopw [5, 6] (fun _ _ wr => ∃ pos : Nat, pos ≤ 2 ∧ wr.heap[w.heap.size]? = some (.stringIter ⟨#[0, 10]⟩ pos) ∧ Below w.heap.size w wr) (fun _ _ wr => 2 - wr.iterPos w.heap.size)
    case atStart => exact ⟨0, by omega, World.iter_heap w _ _, below_al (Below.refl _ _)⟩
    case round =>
      obtain ⟨pos, h1, h2, h3⟩ := hrel
      have k2 := Lib.hid h2
      have k3 := Lib.hid h3
      rcases (show pos = 0 ∨ pos = 1 ∨ pos = 2 by omega) with rfl | rfl | rfl
      · have hnx := fun ty => Lib.run_next_ascii_at (P := Tryz.prog) wr w.heap.size ⟨#[0, 10]⟩ 0 ty h2 (by decide) (by decide)
        clear h2 h3
        go_wp2
        go_roundw
        case rel => exact ⟨1, by omega, Lib.iterAt_heap _ _ _ _ _ k2.out, Lib.below_iterAt k3.out (Nat.le_refl _) _ _⟩
        case measure => rw [iterPos_of k2.out, iterPos_of (Lib.iterAt_heap _ _ _ _ _ k2.out)]; omega
      · have hnx := fun ty => Lib.run_next_ascii_at (P := Tryz.prog) wr w.heap.size ⟨#[0, 10]⟩ 1 ty h2 (by decide) (by decide)
        clear h2 h3
        go_wp2
        go_roundw
        case rel => exact ⟨2, by omega, Lib.iterAt_heap _ _ _ _ _ k2.out, Lib.below_iterAt k3.out (Nat.le_refl _) _ _⟩
        case measure => rw [iterPos_of k2.out, iterPos_of (Lib.iterAt_heap _ _ _ _ _ k2.out)]; omega
      · have hnx := fun ty => Lib.run_next_end_at (P := Tryz.prog) wr w.heap.size ⟨#[0, 10]⟩ 2 ty h2 (by decide)
        clear h2 h3
        go_wp2
        go_ret
        exact ⟨rfl, k3.out⟩
  · have hr' : (r == 65533) = false := by simpa using hr
    by_cases hv : Lib.validRune r = true
    · have hV : ∀ w, Calls Tryz.prog 93 #[.int .i32 r] w fun e w' => e = .returned (.bool true) ∧ w = w' := fun w => (Tryz.utf8_ValidRune r w).mono fun e w' ⟨he, hw⟩ => ⟨by rw [he, hv], hw.symm⟩
      have hu : Utf8.valid r = true := by
        simp [Lib.validRune, Utf8.valid] at hv ⊢; omega
      obtain ⟨f1, f2, f3⟩ := encode_facts r hu h1
      have hV' := Lib.hid hV
      have f3' := Lib.hid f3
      clear hv hu hV f3
      by_cases hn : (Utf8.encode r).size = 2
      · obtain ⟨x, y, hS, hy⟩ := two_bytes hn f3'.out
        have hy' : (((((c0)[1]'(Nat.lt_of_lt_of_le (by decide) z1)).toNat : Nat) : Int) != ((((⟨#[x, y]⟩ : ByteArray)[1]'(by show 1 < 2; omega)).toNat : Nat) : Int)) = true := by
          subst hc0
          show ((10 : Int) != ((y.toNat : Nat) : Int)) = true
          simp; omega
        have hcv : ∀ w : World, (convert 21 9 (.int .i32 r)).run Tryz.prog w = .ok (.string ⟨#[x, y]⟩) w := fun w => by rw [run_convert_int_string w 21 9 .i32 r (by rw [Tryz.underlying21]; rfl) Tryz.underlying9, hS]
        have hIB : ∀ (c : Int) w, Calls Tryz.prog 59 #[.string (c0.extract 2 c0.size), .int .u8 c] w fun e w' => e = .returned (.int .i64 (-1)) ∧ w' = w := fun c w => (Tryz.strings_IndexByte _ c w).mono fun e w' ⟨he, hw⟩ => ⟨by rw [he, Go.Lib.extract_data, hs, Nat.sub_self, List.take_zero, indexByte_none], hw⟩
        have hw2 : IntKind.i64.wrap 2 = 2 := by decide
        have hz3 : (2 : Int) ≤ (c0.size : Int) := by omega
        have hIB' := Lib.hid hIB
        clear f1 f2 f3' hn hS hs hc0 hIB
        go_enter Tryz.func70, Tryz.ntmps70
        go_wp2_with (go_at_call 93; refine (hV'.out _).mono ?_; rintro e w' ⟨rfl, rfl⟩)
        go_step3
        go_wp2
        go_loop [4, 9, 10] (fun u i f => u = .int .i64 0 ∧ i = .int .i64 1 ∧ f = .int .i64 0) (fun _ _ _ => 0)
        case atStart => exact ⟨rfl, rfl, rfl⟩
        case round =>
          obtain ⟨rfl, rfl, rfl⟩ := hrel
          go_wp2_with fail
          go_step3
          go_wp2_with fail
          go_quiet (fail)
          have hb1 : Below w.heap.size w (w.drewN nq) := below_drewN' (Below.refl _ _) nq
          have kb1 := Lib.hid hb1
          clear hb1
          generalize w.drewN nq = w1 at *
          go_wp2_with fail
          go_quiet ((go_at_call 59; exact Calls.quiet_of_same (hIB'.out _ _)))
          go_wp2_with fail
          simp +zetaDelta only [Exit.noGoto_ret, Exit.inBlock, Exit.then]
          go_ret
          exact ⟨rfl, below_drewN' kb1.out _⟩
      · have h3 : 3 ≤ (Utf8.encode r).size := by omega
        have hx : decide ((((Utf8.encode r).size : Nat) : Int) - 1 < (c0.size : Int)) = false := by simp; omega
        clear hn hs hc0
        go_enter Tryz.func70, Tryz.ntmps70
        go_wp2_with (go_at_call 93; refine (hV'.out _).mono ?_; rintro e w' ⟨rfl, rfl⟩)
        go_step3
        go_wp2
        go_loop [4, 9, 10] (fun u i f => u = .int .i64 0 ∧ i = .int .i64 ((Utf8.encode r).size - 1) ∧ f = .int .i64 0) (fun _ _ _ => 0)
        case atStart => exact ⟨rfl, rfl, rfl⟩
        case round =>
          obtain ⟨rfl, rfl, rfl⟩ := hrel
          go_wp2
          go_ret
          exact ⟨rfl, Below.refl _ _⟩
    · have hv' : Lib.validRune r = false := by simpa using hv
      have hV : ∀ w, Calls Tryz.prog 93 #[.int .i32 r] w fun e w' => e = .returned (.bool false) ∧ w = w' := fun w => (Tryz.utf8_ValidRune r w).mono fun e w' ⟨he, hw⟩ => ⟨by rw [he, hv'], hw.symm⟩
      have hV' := Lib.hid hV
      clear hV hv'
      go_enter Tryz.func70, Tryz.ntmps70
      go_wp2_with (go_at_call 93; refine (hV'.out _).mono ?_; rintro e w' ⟨rfl, rfl⟩)
      go_ret
      exact ⟨rfl, Below.refl _ _⟩

/-- Has a text one of the two bytes? -/
def hasZ (s : Bs) : Bool := decide ((0 : UInt8) ∈ s) || decide ((10 : UInt8) ∈ s)
theorem indexAny_has : ∀ s : Bs, decide (0 ≤ Lib.indexAny s [0, 10]) = hasZ s
  | [] => by decide
  | b :: l => by
    have ih := indexAny_has l
    have hg := Lib.indexAny_ge [0, 10] l
    rw [Lib.indexAny]
    by_cases hb : b = 0 ∨ b = 10
    · have : hasZ (b :: l) = true := by unfold hasZ; rcases hb with rfl | rfl <;> simp
      rw [this]
      rcases hb with rfl | rfl <;> simp
    · have h0 : b ≠ 0 := fun e => hb (Or.inl e)
      have h10 : b ≠ 10 := fun e => hb (Or.inr e)
      have hc : hasZ (b :: l) = hasZ l := by unfold hasZ; simp [Ne.symm h0, Ne.symm h10]
      have hn : ([0, 10] : Bs).contains b = false := by simp [h0, h10]
      rw [hc, hn, ← ih]
      simp only [Bool.false_eq_true, if_false]
      by_cases hm : Lib.indexAny l [0, 10] = -1
      · rw [hm]; rfl
      · have : (Lib.indexAny l [0, 10] == -1) = false := by simpa using hm
        rw [this]
        simp only [Bool.false_eq_true, if_false, decide_eq_decide]
        omega
theorem hasZ_append (a b : Bs) : hasZ (a ++ b) = (hasZ a || hasZ b) := by
  unfold hasZ
  rw [Bool.eq_iff_iff]
  simp only [Bool.or_eq_true, decide_eq_true_eq, List.mem_append]
  constructor
  · rintro ((h | h) | (h | h)) <;> simp [h]
  · rintro ((h | h) | (h | h)) <;> simp [h]
theorem hasZ_far {a : Bs} (h : ∀ c ∈ a, 128 ≤ c.toNat) : hasZ a = false := by
  unfold hasZ
  simp only [Bool.or_eq_false_iff, decide_eq_false_iff_not]
  exact ⟨fun h0 => by have := h _ h0; simp at this, fun h0 => by have := h _ h0; simp at this⟩
theorem indexRune_near (c0 : ByteArray) (hc0 : c0 = ⟨#[0, 10]⟩) (b : UInt8) (w : World) (h1 : b.toNat < 128) :
    Calls Tryz.prog 70 #[.string c0, .int .i32 b.toNat] w fun e w' => ∃ n : Int, e = .returned (.int .i64 n) ∧ decide (0 ≤ n) = hasZ [b] ∧ w = w' := by
  refine (Tryz.strings_IndexRune_ascii c0 b.toNat w (by omega) (by omega)).mono ?_
  rintro e w' ⟨rfl, rfl⟩
  refine ⟨_, rfl, ?_, rfl⟩
  have e1 : ((b.toNat : Nat) : Int).toNat.toUInt8 = b := by simp
  rw [e1, hc0]
  show decide (0 ≤ Lib.indexByte [0, 10] b) = hasZ [b]
  by_cases h0 : b = 0
  · subst h0; decide
  · by_cases h10 : b = 10
    · subst h10; decide
    · have : hasZ [b] = false := by unfold hasZ; simp [Ne.symm h0, Ne.symm h10]
      rw [this, ← Lib.indexAny_one]
      rw [show Lib.indexAny [0, 10] [b] = -1 by simp [Lib.indexAny, Ne.symm h0, Ne.symm h10]]
      rfl
theorem below_self (B : Nat) (w : World) : Below B w w := ⟨rfl, rfl, rfl, Nat.le_refl _, fun _ _ => rfl⟩
/-- What the loop of IndexAny keeps. -/
def ShortInv (s : ByteArray) (w wr : World) (pos : Nat) : Prop := wr.heap[w.heap.size]? = some (.stringIter s pos) ∧ Below w.heap.size w wr ∧ pos ≤ s.size ∧ hasZ (s.data.toList.take pos) = false
theorem ShortInv.more {s : ByteArray} {w wr w1 : World} {pos d : Nat} (h : ShortInv s w wr pos) (hb : Below (w.heap.size + 1) (wr.iterAt w.heap.size s (pos + d)) w1) (hd : pos + d ≤ s.size) (hz : hasZ ((s.data.toList.drop pos).take d) = false) : ShortInv s w w1 (pos + d) := by
  obtain ⟨h1, h2, h3, h4⟩ := h
  have hi := Lib.iterAt_heap wr w.heap.size s pos (pos + d) h1
  have hb2 := Lib.below_iterAt h2 (Nat.le_refl _) s (pos + d)
  refine ⟨(hb.block _ (by omega)).trans hi, hb2.trans (hb.mono (by omega)), hd, ?_⟩
  rw [List.take_add, hasZ_append, h4, hz]; rfl

set_option maxHeartbeats 1000000 in
theorem indexAny_short (s c0 : ByteArray) (hc0 : c0 = ⟨#[0, 10]⟩) (w : World) (h8 : s.size ≤ 8) :
    Calls Tryz.prog 52 #[.string s, .string c0] w fun e w' => ∃ n : Int, e = .returned (.int .i64 n) ∧ decide (0 ≤ n) = hasZ s.data.toList ∧ Below w.heap.size w w' := by
  have hs : c0.size = 2 := by rw [hc0]; rfl
  have z1 : 2 ≤ c0.size := by omega
  have z2 : c0.size ≤ 2 := by omega
  have hS : ∀ w, Calls Tryz.prog 71 #[.int .i64 s.size] w fun e w' => e = .returned (.bool false) ∧ w = w' := fun w => (Tryz.strings_shouldUseASCIISet s.size w).mono fun e w' ⟨he, hw⟩ => ⟨by rw [he]; simp; omega, hw.symm⟩
  have hS' := Lib.hid hS
  have kc := Lib.hid hc0
  have e1 : c0.toList.isEmpty = false := by rw [hc0, Go.Lib.toList_data]; rfl
  clear hS hc0 hs
  go_enter Tryz.func52, Tryz.ntmps52
  go_wp2_with (go_at_call 71; refine (hS'.out _).mono ?_; rintro e w' ⟨rfl, rfl⟩)
  go_loopw [9, 10] (fun _ _ wr => ∃ pos : Nat, ShortInv s w wr pos) (fun _ _ wr => s.size - wr.iterPos w.heap.size)
  case atStart => exact ⟨0, World.iter_heap w _ _, below_al (Below.refl _ _), Nat.zero_le _, by rw [List.take_zero]; rfl⟩
  case round =>
    obtain ⟨pos, hI⟩ := hrel
    have kI := Lib.hid hI
    obtain ⟨h1, h2, h3, h4⟩ := hI
    have k1 := Lib.hid h1
    have hp8 : pos ≤ 8 := by omega
    have hsz : w.heap.size + 1 ≤ wr.heap.size := by have := heap_lt h1; omega
    by_cases hlt : pos < s.size
    · have hnx := fun ty => Lib.run_next_any_at (P := Tryz.prog) wr w.heap.size s pos ty h1 hlt
      have hd1 : s.data.toList.drop pos = s[pos]'hlt :: s.data.toList.drop (pos + 1) := drop_cons hlt
      by_cases ha : (s[pos]'hlt).toNat < 128
      · rw [decode_ascii s pos hlt ha] at hnx
        have hR := indexRune_near c0 kc.out (s[pos]'hlt) (wr.iterAt w.heap.size s (pos + 1)) ha
        have kd := Lib.hid hd1
        have kR := Lib.hid hR
        clear h1 h2 h4 hd1 hR
        go_wp2_with (refine kR.out.mono ?_; rintro e w1 ⟨n, rfl, hn, rfl⟩; have kn := Lib.hid hn; clear hn)
        · have hn0 : 0 ≤ n := by assumption
          go_ret
          refine ⟨pos, rfl, ?_, Lib.below_iterAt kI.out.2.1 (Nat.le_refl _) _ _⟩
          have h6 : hasZ [s[pos]'hlt] = true := by rw [← kn.out]; simpa using hn0
          have h7 : s.data.toList = s.data.toList.take pos ++ ([s[pos]'hlt] ++ s.data.toList.drop (pos + 1)) := by
            rw [List.singleton_append, ← kd.out, List.take_append_drop]
          rw [h7, hasZ_append, hasZ_append, h6]; simp
        · have hn0 : n < 0 := by assumption
          have h6 : hasZ [s[pos]'hlt] = false := by rw [← kn.out]; simpa using hn0
          have kI2 := Lib.hid (kI.out.more (d := 1) (w1 := wr.iterAt w.heap.size s (pos + 1)) (below_self _ _) (by omega) (by rw [kd.out]; simpa using h6))
          go_roundw
          case rel => exact ⟨pos + 1, kI2.out⟩
          case measure => rw [iterPos_of k1.out, iterPos_of kI2.out.1]; omega
      · obtain ⟨f1, f2, f3, f4⟩ := decode_far s pos hlt (by omega)
        have f5 := decode_le s pos
        have hR := indexRune_far c0 kc.out ((Utf8.decode s pos).1 : Nat) (wr.iterAt w.heap.size s (pos + (Utf8.decode s pos).2)) (by omega) (by omega)
        have kz := Lib.hid (hasZ_far f3)
        generalize (Utf8.decode s pos).1 = c at *
        generalize (Utf8.decode s pos).2 = d at *
        have kR := Lib.hid hR
        clear h1 h2 h4 hd1 hR f3
        go_wp2_with (refine kR.out.mono ?_; rintro e w1 ⟨rfl, hb⟩; have kb := Lib.hid hb; clear hb)
        have kI2 := Lib.hid (kI.out.more (kb.out.mono (by rw [Lib.iterAt_size]; omega)) f2 kz.out)
        go_roundw
        case rel => exact ⟨pos + d, kI2.out⟩
        case measure => rw [iterPos_of k1.out, iterPos_of kI2.out.1]; omega
    · have hnx := fun ty => Lib.run_next_end_at (P := Tryz.prog) wr w.heap.size s pos ty h1 hlt
      clear h1 h2
      go_wp2
      go_ret
      refine ⟨-1, rfl, ?_, kI.out.2.1⟩
      have h5 := kI.out.2.2.2
      rw [List.take_of_length_le (by rw [← Go.Lib.size_eq]; omega)] at h5
      rw [h5]; rfl

theorem containsAny_calls (s c0 : ByteArray) (hc0 : c0 = ⟨#[0, 10]⟩) (w : World) (hs : s.size < 4294967281) :
    Calls Tryz.prog 34 #[.string s, .string c0] w fun e w' => e = .returned (.bool (hasZ s.data.toList)) ∧ Below w.heap.size w w' := by
  have hI : ∀ w, Calls Tryz.prog 52 #[.string s, .string c0] w fun e w' => ∃ n : Int, e = .returned (.int .i64 n) ∧ decide (0 ≤ n) = hasZ s.data.toList ∧ Below w.heap.size w w' := by
    intro w
    by_cases h8 : s.size ≤ 8
    · exact indexAny_short s c0 hc0 w h8
    · subst hc0
      refine (Tryz.strings_IndexAny_long (fun w => by kernel_rfl) s ⟨#[0, 10]⟩ w (by decide) (by omega) hs (by decide) ?_).mono ?_
      · intro j b hb
        match j, hb with
        | 0, hb => simp at hb; subst hb; decide
        | 1, hb => simp at hb; subst hb; decide
        | j + 2, hb => simp at hb
      · rintro e w' ⟨rfl, rfl⟩
        exact ⟨_, rfl, indexAny_has _, below_al (below_al (Below.refl _ _))⟩
  have kI := Lib.hid hI
  clear hI hc0
  go_enter Tryz.func34, Tryz.ntmps34
  go_wp2_with (go_at_call 52; refine (kI.out _).mono ?_; rintro e w1 ⟨n, rfl, hn, hb⟩; have kn := Lib.hid hn; have kb := Lib.hid hb; clear hn hb)
  go_ret
  exact ⟨by rw [← kn.out]; rfl, kb.out⟩
end Go.Proofs.YtnnepcodghfcmaaGreatDoor
