/-
  The reference's glob: member, one, pieces (functions 44, 35, 34) answer what the plain side says. Condition: patterns have at most 1,000,000 bytes.
-/
import Derived.Test.YtfnmncghgmnaaaaGlob7
import Derived.Test.YtfnmncghgmnaaaaGlobPlainWalk
namespace Go.Proofs.Ytfnmncghgmnaaaa
open Go.RowKit

set_option maxHeartbeats 1000000 in
theorem rmember_calls (c : UInt8) (w : World) (s : ByteArray) (hl : s.size ≤ 1000000) :
    Calls Try.prog 44 #[.string s, .int .u8 c.toNat] w fun e w' => e = .returned (.bool (Gl.mem c s.data.toList)) ∧ w = w' := by
  go_enter Try.func44, Try.ntmps44
  go_wp2_with fail
  go_loop [5] (fun i => ∃ k : Nat, k ≤ s.size ∧ i = .int .i64 k ∧ Hid (Gl.mem c s.data.toList = Gl.mem c (s.data.toList.drop k))) (fun i => s.size - (intOf i).toNat)
  case atStart => exact ⟨0, Nat.zero_le _, rfl, rfl⟩
  case round =>
    obtain ⟨k, hk, rfl, hrel⟩ := hrel
    by_cases hlt : k < s.size
    · by_cases h3 : k + 2 < s.size
      · by_cases hm : (s[k + 1].toNat : Int) = 45
        · have hM := Lib.hid (mem_range c h3 hm)
          by_cases g1 : s[k].toNat ≤ c.toNat
          · by_cases g2 : c.toNat ≤ s[k + 2].toNat
            · have hh := Lib.hid (show Gl.mem c s.data.toList = true by rw [hrel.out, hM.out, decide_eq_true g1, decide_eq_true g2]; rfl)
              go_wp2
              go_ret
              exact ⟨by rw [hh.out]; rfl, rfl⟩
            · have hh := Lib.hid (show Gl.mem c s.data.toList = Gl.mem c (s.data.toList.drop (k + 3)) by rw [hrel.out, hM.out, decide_eq_false g2, Bool.and_false, Bool.false_or])
              have d2 : decide (c.toNat ≤ s[k + 2].toNat) = false := decide_eq_false g2
              go_wp2
              exact ⟨⟨k + 3, by omega, by go_num, hh⟩, by simp [intOf]; omega⟩
          · have hh := Lib.hid (show Gl.mem c s.data.toList = Gl.mem c (s.data.toList.drop (k + 3)) by rw [hrel.out, hM.out, decide_eq_false g1, Bool.false_and, Bool.false_or])
            have d1 : decide (s[k].toNat ≤ c.toNat) = false := decide_eq_false g1
            go_wp2
            exact ⟨⟨k + 3, by omega, by go_num, hh⟩, by simp [intOf]; omega⟩
        · have d1 := beq_eq_false_iff_ne.2 hm
          clear hm
          have hM := Lib.hid (mem_step c hlt (fun _ => d1))
          by_cases hc : (c.toNat : Int) = (s[k].toNat : Int)
          · have hh := Lib.hid (show Gl.mem c s.data.toList = true by rw [hrel.out, hM.out, beq_iff_eq.2 hc]; rfl)
            have hb : ((s[k].toNat : Int) == (c.toNat : Int)) = true := beq_iff_eq.2 hc.symm
            clear hc
            go_wp2
            go_ret
            exact ⟨by rw [hh.out]; rfl, rfl⟩
          · have hh := Lib.hid (show Gl.mem c s.data.toList = Gl.mem c (s.data.toList.drop (k + 1)) by rw [hrel.out, hM.out, beq_eq_false_iff_ne.2 hc]; rfl)
            have hb : ((s[k].toNat : Int) == (c.toNat : Int)) = false := beq_eq_false_iff_ne.2 (fun h => hc h.symm)
            clear hc
            go_wp2
            exact ⟨⟨k + 1, by omega, by go_num, hh⟩, by simp [intOf]; omega⟩
      · have hM := Lib.hid (mem_step c hlt (fun h => absurd h h3))
        by_cases hc : (c.toNat : Int) = (s[k].toNat : Int)
        · have hh := Lib.hid (show Gl.mem c s.data.toList = true by rw [hrel.out, hM.out, beq_iff_eq.2 hc]; rfl)
          have hb : ((s[k].toNat : Int) == (c.toNat : Int)) = true := beq_iff_eq.2 hc.symm
          clear hc
          go_wp2
          go_ret
          exact ⟨by rw [hh.out]; rfl, rfl⟩
        · have hh := Lib.hid (show Gl.mem c s.data.toList = Gl.mem c (s.data.toList.drop (k + 1)) by rw [hrel.out, hM.out, beq_eq_false_iff_ne.2 hc]; rfl)
          have hb : ((s[k].toNat : Int) == (c.toNat : Int)) = false := beq_eq_false_iff_ne.2 (fun h => hc h.symm)
          clear hc
          go_wp2
          exact ⟨⟨k + 1, by omega, by go_num, hh⟩, by simp [intOf]; omega⟩
    · have hM := Lib.hid (show Gl.mem c s.data.toList = false by rw [hrel.out, List.drop_of_length_le (by rw [← Go.Lib.size_eq]; omega)]; rfl)
      go_wp2
      go_ret
      exact ⟨by rw [hM.out]; rfl, rfl⟩

/-- A part's four cells in the reference. -/
def pcells : Gl.Part → List Value
  | .byte c => [.int .i64 0, .int .u8 c.toNat, .bool false, .string ⟨#[]⟩]
  | .star => [.int .i64 1, .int .u8 0, .bool false, .string ⟨#[]⟩]
  | .any => [.int .i64 2, .int .u8 0, .bool false, .string ⟨#[]⟩]
  | .set n ms => [.int .i64 3, .int .u8 0, .bool n, .string ⟨ms.toArray⟩]
def fits : Gl.Part → Prop
  | .set _ ms => ms.length ≤ 1000000
  | _ => True

set_option maxHeartbeats 400000 in
theorem rone_calls (q : Gl.Part) (c : UInt8) (w : World) (hf : fits q) (hs : q ≠ .star) :
    Calls Try.prog 35 #[.agg (pcells q).toArray, .int .u8 c.toNat] w fun e w' => e = .returned (.bool (Gl.one q c)) ∧ Below w.heap.size w w' := by
  cases q with
  | byte b =>
    have e : Gl.one (.byte b) c = ((b.toNat : Int) == (c.toNat : Int)) := by
      unfold Gl.one
      rw [Bool.eq_iff_iff, beq_iff_eq, beq_iff_eq]
      exact ⟨fun h => by rw [h], fun h => UInt8.toNat_inj.1 (by omega)⟩
    rw [e]; clear e
    unfold pcells
    go_enter Try.func35, Try.ntmps35
    go_wp2
    go_ret
    exact ⟨rfl, (Below.refl _ _).alloc (Nat.le_refl _) _⟩
  | star => exact absurd rfl hs
  | any =>
    unfold pcells
    go_enter Try.func35, Try.ntmps35
    go_wp2
    go_ret
    exact ⟨rfl, (Below.refl _ _).alloc (Nat.le_refl _) _⟩
  | set n ms =>
    have hf' : ms.length ≤ 1000000 := hf
    have hsz : (⟨ms.toArray⟩ : ByteArray).size ≤ 1000000 := by simpa [ByteArray.size] using hf'
    rw [show pcells (.set n ms) = [.int .i64 3, .int .u8 0, .bool n, .string ⟨ms.toArray⟩] from rfl]
    have hl := Lib.hid (show (⟨ms.toArray⟩ : ByteArray).data.toList = ms by simp)
    obtain ⟨S, hS⟩ : ∃ S : ByteArray, S = ⟨ms.toArray⟩ := ⟨_, rfl⟩
    rw [← hS] at hl hsz ⊢
    clear hf hf' hs hS
    go_enter Try.func35, Try.ntmps35
    go_wp2_with fail
    refine (rmember_calls c _ S hsz).mono ?_
    rintro e w' ⟨rfl, rfl⟩
    rw [hl.out]
    cases hm : Gl.mem c ms <;> cases n <;> (go_wp2; go_ret; exact ⟨by show Ending.returned _ = Ending.returned (.bool (Gl.mem c ms != _)); rw [hm]; rfl, (Below.refl _ _).alloc (Nat.le_refl _) _⟩)

theorem info52 : (Try.prog.info? 52).map (fun i => (i.zero, i.size, i.bytes)) = some (some (.agg #[.int .i64 0, .int .u8 0, .bool false, .string ⟨#[]⟩]), 4, 32) := by kernel_rfl

theorem pcells_len (q : Gl.Part) : (pcells q).length = 4 := by cases q <;> rfl

theorem pieces_turn {p : ByteArray} {w wr w1 w2 : World} {k k' : Nat} {qs : List Gl.Part} {vs : List Value} {q : Gl.Part} {v v' : Value} (hlt : k < k') (hk2 : k' ≤ p.size) (hql : qs.length ≤ k)
    (hB : Below w.heap.size w wr) (hb : Below wr.heap.size wr w1) (hown : wr.ownsRow w.heap.size 52 4 v qs.length (qs.flatMap pcells)) (hq : vs = pcells q) (hf : fits q) (hfs : ∀ q ∈ qs, fits q)
    (hown' : w2.ownsRow w.heap.size 52 4 v' (qs.length + 1) (qs.flatMap pcells ++ vs)) (hg : w1.grownBy w2 v.ownBlock)
    (hrel : Hid (Gl.parts p.data.toList = qs ++ Gl.parts (p.data.toList.drop k))) (hstep : Hid (Gl.parts (p.data.toList.drop k) = q :: Gl.parts (p.data.toList.drop k'))) :
    (∃ (k_1 : Nat) (qs : List Gl.Part), k_1 ≤ p.size ∧ Value.int IntKind.i64 (k' : Int) = Value.int IntKind.i64 (k_1 : Int) ∧ w2.ownsRow w.heap.size 52 4 v' qs.length (qs.flatMap pcells) ∧ qs.length ≤ k_1 ∧
      Below w.heap.size w w2 ∧ Hid (∀ q ∈ qs, fits q) ∧ Hid (Gl.parts p.data.toList = qs ++ Gl.parts (p.data.toList.drop k_1))) ∧
    p.size - (intOf (Value.int IntKind.i64 (k' : Int))).toNat < p.size - (intOf (Value.int IntKind.i64 (k : Int))).toNat := by
  have hs := hB.size
  have hB1 : Below w.heap.size w w1 := hB.trans (hb.mono hs)
  subst hq
  refine ⟨⟨k', qs ++ [q], hk2, rfl, ?_, by simp; omega, hB1.grown hg hB1.size (fun k e => (hown.lt k e).1), ?_, ?_⟩, by simp [intOf]; omega⟩
  · rw [List.flatMap_append, List.length_append]; simpa using hown'
  · intro q' h
    rcases List.mem_append.1 h with h | h
    · exact hfs q' h
    · simp at h; subst h; exact hf
  · show _ = _
    rw [hrel.out, hstep.out]; simp

/-- What 'closing' tells where there is a set. -/
theorem closing_some {p : ByteArray} {at_ j e : Nat} (hr : Gl.body (p.data.toList.drop (at_ + 1)) = p.data.toList.drop j) (hj : j < p.size) (hi : Gl.idx 93 (p.data.toList.drop (j + 1)) = some e) :
    closingOf p at_ = ((j + 1 + e : Nat) : Int) ∧ j + 1 + e < p.size := by
  rw [closing_end hr, if_pos hj]
  unfold fromIdx
  rw [hi]
  have hl := Gl.idx_lt hi
  rw [List.length_drop, ← Go.Lib.size_eq] at hl
  exact ⟨rfl, by omega⟩

set_option maxRecDepth 100000 in
set_option maxHeartbeats 2000000 in
theorem pieces_calls (p : ByteArray) (w : World) (hp : p.size ≤ 1000000) :
    Calls Try.prog 34 #[.string p] w fun e w' => ∃ v, e = .returned v ∧ w'.ownsRow w.heap.size 52 4 v (Gl.parts p.data.toList).length ((Gl.parts p.data.toList).flatMap pcells) ∧ (∀ q ∈ Gl.parts p.data.toList, fits q) ∧ Below w.heap.size w w' := by
  obtain ⟨i0, hi, hz0, hz1, hz2⟩ := info_parts info52
  go_enter Try.func34, Try.ntmps34
  go_wp2_with fail
  go_loopw [3, 4] (fun v i wr => ∃ (k : Nat) (qs : List Gl.Part), k ≤ p.size ∧ i = .int .i64 k ∧ wr.ownsRow w.heap.size 52 4 v qs.length (qs.flatMap pcells) ∧ qs.length ≤ k ∧ Below w.heap.size w wr ∧ Hid (∀ q ∈ qs, fits q) ∧ Hid (Gl.parts p.data.toList = qs ++ Gl.parts (p.data.toList.drop k))) (fun _ i _ => p.size - (intOf i).toNat)
  case atStart => exact ⟨0, [], Nat.zero_le _, rfl, World.ownsRow_nil _ _ _ _, Nat.le_refl _, Below.refl _ _, (fun q h => absurd h (List.not_mem_nil)), rfl⟩
  case round =>
    obtain ⟨k, qs, hk, rfl, hown, hql, hB, hfs, hrel⟩ := hrel
    by_cases hlt : k < p.size
    · have hfit : (qs.length + 1) * 32 ≤ 140737488355328 ∧ qs.length + 1 ≤ maxLen := by unfold maxLen; omega
      have hdc := Lib.hid (drop_cons hlt)
      by_cases c1 : (p[k].toNat : Int) = 42
      · have hstep := Lib.hid (show Gl.parts (p.data.toList.drop k) = .star :: Gl.parts (p.data.toList.drop (k + 1)) by rw [hdc.out, byte_eq c1 (by decide)]; exact Gl.parts_star _)
        go_wp2_with (at_builtin; refine wpList_append_own _ rfl _ _ 49 rfl w.heap.size 52 i0 _ 4 32 Try.underlying49 hi hz0 hz1 hz2 rfl (by decide) _ _ _ rfl (hown.alloc _) ⟨wr.heap.size, 0, none⟩ 1 1 [.int .i64 1, .int .u8 0, .bool false, .string ⟨#[]⟩] rfl rfl (cells_new wr _ 52) (by intro u hu; simp at hu; rcases hu with rfl | rfl | rfl | rfl <;> rfl) hfit.2 hfit.1 (by have := hB.size; simp; omega) ?_; intro v' w2 hown' hgrow _)
        exact pieces_turn (k' := k + 1) (by omega) (by omega) hql hB ((Below.refl _ _).alloc (Nat.le_refl _) _) hown (q := .star) rfl trivial hfs.out hown' hgrow hrel hstep
      · by_cases c2 : (p[k].toNat : Int) = 63
        · have hstep := Lib.hid (show Gl.parts (p.data.toList.drop k) = .any :: Gl.parts (p.data.toList.drop (k + 1)) by rw [hdc.out, byte_eq c2 (by decide)]; exact Gl.parts_any _)
          clear c1
          go_wp2_with (at_builtin; refine wpList_append_own _ rfl _ _ 49 rfl w.heap.size 52 i0 _ 4 32 Try.underlying49 hi hz0 hz1 hz2 rfl (by decide) _ _ _ rfl (hown.alloc _) ⟨wr.heap.size, 0, none⟩ 1 1 [.int .i64 2, .int .u8 0, .bool false, .string ⟨#[]⟩] rfl rfl (cells_new wr _ 52) (by intro u hu; simp at hu; rcases hu with rfl | rfl | rfl | rfl <;> rfl) hfit.2 hfit.1 (by have := hB.size; simp; omega) ?_; intro v' w2 hown' hgrow _)
          exact pieces_turn (k' := k + 1) (by omega) (by omega) hql hB ((Below.refl _ _).alloc (Nat.le_refl _) _) hown (q := .any) rfl trivial hfs.out hown' hgrow hrel hstep
        · by_cases c3 : (p[k].toNat : Int) = 92
          · clear c1 c2
            by_cases h2 : k + 1 < p.size
            · have hstep := Lib.hid (show Gl.parts (p.data.toList.drop k) = .byte p[k + 1] :: Gl.parts (p.data.toList.drop (k + 2)) by rw [hdc.out, byte_eq c3 (by decide), drop_cons h2]; exact Gl.parts_esc _ _)
              go_wp2_with (at_builtin; refine wpList_append_own _ rfl _ _ 49 rfl w.heap.size 52 i0 _ 4 32 Try.underlying49 hi hz0 hz1 hz2 rfl (by decide) _ _ _ rfl (hown.alloc _) ⟨wr.heap.size, 0, none⟩ 1 1 [.int .i64 0, .int .u8 p[k + 1].toNat, .bool false, .string ⟨#[]⟩] rfl rfl (cells_new wr _ 52) (by intro u hu; simp at hu; rcases hu with rfl | rfl | rfl | rfl <;> rfl) hfit.2 hfit.1 (by have := hB.size; simp; omega) ?_; intro v' w2 hown' hgrow _)
              exact pieces_turn (k' := k + 2) (by omega) (by omega) hql hB ((Below.refl _ _).alloc (Nat.le_refl _) _) hown (q := .byte p[k + 1]) rfl trivial hfs.out hown' hgrow hrel hstep
            · have hstep := Lib.hid (show Gl.parts (p.data.toList.drop k) = .byte 92 :: Gl.parts (p.data.toList.drop (k + 1)) by rw [hdc.out, byte_eq c3 (by decide), List.drop_of_length_le (by rw [← Go.Lib.size_eq]; omega)]; rw [Gl.parts_nil]; exact Gl.parts_esc1)
              go_wp2_with (at_builtin; refine wpList_append_own _ rfl _ _ 49 rfl w.heap.size 52 i0 _ 4 32 Try.underlying49 hi hz0 hz1 hz2 rfl (by decide) _ _ _ rfl (hown.alloc _) ⟨wr.heap.size, 0, none⟩ 1 1 [.int .i64 0, .int .u8 92, .bool false, .string ⟨#[]⟩] rfl rfl (cells_new wr _ 52) (by intro u hu; simp at hu; rcases hu with rfl | rfl | rfl | rfl <;> rfl) hfit.2 hfit.1 (by have := hB.size; simp; omega) ?_; intro v' w2 hown' hgrow _)
              exact pieces_turn (k' := k + 1) (by omega) (by omega) hql hB ((Below.refl _ _).alloc (Nat.le_refl _) _) hown (q := .byte 92) rfl trivial hfs.out hown' hgrow hrel hstep
          · by_cases c4 : (p[k].toNat : Int) = 91
            · clear c1 c2 c3
              cases hs0 : Gl.setOf (p.data.toList.drop (k + 1)) with
              | none =>
                have hstep := Lib.hid (show Gl.parts (p.data.toList.drop k) = .byte 91 :: Gl.parts (p.data.toList.drop (k + 1)) by rw [hdc.out, byte_eq c4 (by decide)]; exact Gl.parts_open hs0)
                have hcl := Lib.hid (show closingOf p k = -1 by unfold closingOf; rw [hs0])
                clear hs0
                go_wp2_with fail
                refine (closing_calls p k _ hp hlt).mono ?_
                rintro e w1 ⟨rfl, rfl⟩
                rw [hcl.out]
                go_wp2_with (at_builtin; refine wpList_append_own _ rfl _ _ 49 rfl w.heap.size 52 i0 _ 4 32 Try.underlying49 hi hz0 hz1 hz2 rfl (by decide) _ _ _ rfl (hown.alloc _) ⟨wr.heap.size, 0, none⟩ 1 1 [.int .i64 0, .int .u8 91, .bool false, .string ⟨#[]⟩] rfl rfl (cells_new wr _ 52) (by intro u hu; simp at hu; rcases hu with rfl | rfl | rfl | rfl <;> rfl) hfit.2 hfit.1 (by have := hB.size; simp; omega) ?_; intro v' w2 hown' hgrow _)
                exact pieces_turn (k' := k + 1) (by omega) (by omega) hql hB ((Below.refl _ _).alloc (Nat.le_refl _) _) hown (q := .byte 91) rfl trivial hfs.out hown' hgrow hrel hstep
              | some x =>
                obtain ⟨n, ms, rest⟩ := x
                have hstep0 := Lib.hid (show Gl.parts (p.data.toList.drop k) = .set n ms :: Gl.parts rest by rw [hdc.out, byte_eq c4 (by decide)]; exact Gl.parts_set hs0)
                have hml := setOf_ms hs0
                rw [List.length_drop, ← Go.Lib.size_eq] at hml
                have h1 : k + 1 < p.size := by
                  rcases Nat.lt_or_ge (k + 1) p.size with h | h
                  · exact h
                  · rw [List.drop_of_length_le (by rw [← Go.Lib.size_eq]; omega)] at hs0; cases hs0
                have hs := Lib.hid hs0
                clear hs0
                by_cases d1 : (p[k + 1].toNat : Int) = 33
                · obtain ⟨gn0, gb0⟩ := neg_yes h1 (Or.inl d1)
                  have hj : k + 1 + 1 < p.size := by
                    rcases Nat.lt_or_ge (k + 1 + 1) p.size with h | h
                    · exact h
                    · have h2 := hs.out; rw [set_at_none gb0 (by rw [← Go.Lib.size_eq]; exact h)] at h2; cases h2
                  obtain ⟨x, hx⟩ : ∃ x, Gl.idx 93 (p.data.toList.drop (k + 1 + 1 + 1)) = some x := by
                    cases h : Gl.idx 93 (p.data.toList.drop (k + 1 + 1 + 1)) with
                    | some x => exact ⟨x, rfl⟩
                    | none => have h2 := hs.out; rw [set_at gb0 (by rw [← Go.Lib.size_eq]; exact hj), h] at h2; cases h2
                  obtain ⟨hc0, hcl⟩ := closing_some gb0 hj hx
                  have hc := Lib.hid hc0
                  have hset : (Gl.neg (p.data.toList.drop (k + 1)), (p.data.toList.drop (k + 1 + 1)).take (x + 1), p.data.toList.drop (k + 1 + 1 + 1 + (x + 1))) = (n, ms, rest) := by
                    have h2 := hs.out; rw [set_at gb0 (by rw [← Go.Lib.size_eq]; exact hj), hx] at h2; injection h2
                  rw [gn0] at hset
                  injection hset with hn hset
                  injection hset with hms hrest
                  have hstep := Lib.hid (show Gl.parts (p.data.toList.drop k) = .set n ms :: Gl.parts (p.data.toList.drop (k + 1 + 1 + 1 + x + 1)) by rw [hstep0.out, ← hrest]; rfl)
                  have hex := Lib.hid (show [Value.int .i64 3, .int .u8 0, .bool true, .string (p.extract (k + 1 + 1) (k + 1 + 1 + 1 + x))] = pcells (.set n ms) by
                    rw [← hn, ← hms]
                    have : p.extract (k + 1 + 1) (k + 1 + 1 + 1 + x) = ⟨((p.data.toList.drop (k + 1 + 1)).take (x + 1)).toArray⟩ := ba_ext (by
                      rw [Go.Lib.extract_data]; simp only []; congr 1; omega)
                    rw [this]; rfl)
                  have hff : fits (.set n ms) := by show ms.length ≤ 1000000; omega
                  have hff' := Lib.hid hff
                  clear gn0 gb0 hc0 hx hn hms hrest hff
                  skip
                  go_wp2_with fail
                  refine (closing_calls p k _ hp hlt).mono ?_
                  rintro e w1 ⟨rfl, rfl⟩
                  rw [hc.out]
                  go_wp2_with (at_builtin; refine wpList_append_own _ rfl _ _ 49 rfl w.heap.size 52 i0 _ 4 32 Try.underlying49 hi hz0 hz1 hz2 rfl (by decide) _ _ _ rfl (hown.alloc _) ⟨wr.heap.size, 0, none⟩ 1 1 [.int .i64 3, .int .u8 0, .bool true, .string (p.extract (k + 1 + 1) (k + 1 + 1 + 1 + x))] rfl rfl (cells_new wr _ 52) (by intro u hu; simp at hu; rcases hu with rfl | rfl | rfl | rfl <;> rfl) hfit.2 hfit.1 (by have := hB.size; simp; omega) ?_; intro v' w2 hown' hgrow _)
                  exact pieces_turn (k' := k + 1 + 1 + 1 + x + 1) (by omega) (by omega) hql hB ((Below.refl _ _).alloc (Nat.le_refl _) _) hown (q := .set n ms) hex.out hff'.out hfs.out hown' hgrow hrel hstep
                · by_cases d2 : (p[k + 1].toNat : Int) = 94
                  · obtain ⟨gn0, gb0⟩ := neg_yes h1 (Or.inr d2)
                    have hj : k + 1 + 1 < p.size := by
                      rcases Nat.lt_or_ge (k + 1 + 1) p.size with h | h
                      · exact h
                      · have h2 := hs.out; rw [set_at_none gb0 (by rw [← Go.Lib.size_eq]; exact h)] at h2; cases h2
                    obtain ⟨x, hx⟩ : ∃ x, Gl.idx 93 (p.data.toList.drop (k + 1 + 1 + 1)) = some x := by
                      cases h : Gl.idx 93 (p.data.toList.drop (k + 1 + 1 + 1)) with
                      | some x => exact ⟨x, rfl⟩
                      | none => have h2 := hs.out; rw [set_at gb0 (by rw [← Go.Lib.size_eq]; exact hj), h] at h2; cases h2
                    obtain ⟨hc0, hcl⟩ := closing_some gb0 hj hx
                    have hc := Lib.hid hc0
                    have hset : (Gl.neg (p.data.toList.drop (k + 1)), (p.data.toList.drop (k + 1 + 1)).take (x + 1), p.data.toList.drop (k + 1 + 1 + 1 + (x + 1))) = (n, ms, rest) := by
                      have h2 := hs.out; rw [set_at gb0 (by rw [← Go.Lib.size_eq]; exact hj), hx] at h2; injection h2
                    rw [gn0] at hset
                    injection hset with hn hset
                    injection hset with hms hrest
                    have hstep := Lib.hid (show Gl.parts (p.data.toList.drop k) = .set n ms :: Gl.parts (p.data.toList.drop (k + 1 + 1 + 1 + x + 1)) by rw [hstep0.out, ← hrest]; rfl)
                    have hex := Lib.hid (show [Value.int .i64 3, .int .u8 0, .bool true, .string (p.extract (k + 1 + 1) (k + 1 + 1 + 1 + x))] = pcells (.set n ms) by
                      rw [← hn, ← hms]
                      have : p.extract (k + 1 + 1) (k + 1 + 1 + 1 + x) = ⟨((p.data.toList.drop (k + 1 + 1)).take (x + 1)).toArray⟩ := ba_ext (by
                        rw [Go.Lib.extract_data]; simp only []; congr 1; omega)
                      rw [this]; rfl)
                    have hff : fits (.set n ms) := by show ms.length ≤ 1000000; omega
                    have hff' := Lib.hid hff
                    clear gn0 gb0 hc0 hx hn hms hrest hff
                    skip
                    go_wp2_with fail
                    refine (closing_calls p k _ hp hlt).mono ?_
                    rintro e w1 ⟨rfl, rfl⟩
                    rw [hc.out]
                    go_wp2_with (at_builtin; refine wpList_append_own _ rfl _ _ 49 rfl w.heap.size 52 i0 _ 4 32 Try.underlying49 hi hz0 hz1 hz2 rfl (by decide) _ _ _ rfl (hown.alloc _) ⟨wr.heap.size, 0, none⟩ 1 1 [.int .i64 3, .int .u8 0, .bool true, .string (p.extract (k + 1 + 1) (k + 1 + 1 + 1 + x))] rfl rfl (cells_new wr _ 52) (by intro u hu; simp at hu; rcases hu with rfl | rfl | rfl | rfl <;> rfl) hfit.2 hfit.1 (by have := hB.size; simp; omega) ?_; intro v' w2 hown' hgrow _)
                    exact pieces_turn (k' := k + 1 + 1 + 1 + x + 1) (by omega) (by omega) hql hB ((Below.refl _ _).alloc (Nat.le_refl _) _) hown (q := .set n ms) hex.out hff'.out hfs.out hown' hgrow hrel hstep
                  · obtain ⟨gn0, gb0⟩ := neg_no h1 d1 d2
                    have hj : k + 1 < p.size := by
                      rcases Nat.lt_or_ge (k + 1) p.size with h | h
                      · exact h
                      · have h2 := hs.out; rw [set_at_none gb0 (by rw [← Go.Lib.size_eq]; exact h)] at h2; cases h2
                    obtain ⟨x, hx⟩ : ∃ x, Gl.idx 93 (p.data.toList.drop (k + 1 + 1)) = some x := by
                      cases h : Gl.idx 93 (p.data.toList.drop (k + 1 + 1)) with
                      | some x => exact ⟨x, rfl⟩
                      | none => have h2 := hs.out; rw [set_at gb0 (by rw [← Go.Lib.size_eq]; exact hj), h] at h2; cases h2
                    obtain ⟨hc0, hcl⟩ := closing_some gb0 hj hx
                    have hc := Lib.hid hc0
                    have hset : (Gl.neg (p.data.toList.drop (k + 1)), (p.data.toList.drop (k + 1)).take (x + 1), p.data.toList.drop (k + 1 + 1 + (x + 1))) = (n, ms, rest) := by
                      have h2 := hs.out; rw [set_at gb0 (by rw [← Go.Lib.size_eq]; exact hj), hx] at h2; injection h2
                    rw [gn0] at hset
                    injection hset with hn hset
                    injection hset with hms hrest
                    have hstep := Lib.hid (show Gl.parts (p.data.toList.drop k) = .set n ms :: Gl.parts (p.data.toList.drop (k + 1 + 1 + x + 1)) by rw [hstep0.out, ← hrest]; rfl)
                    have hex := Lib.hid (show [Value.int .i64 3, .int .u8 0, .bool false, .string (p.extract (k + 1) (k + 1 + 1 + x))] = pcells (.set n ms) by
                      rw [← hn, ← hms]
                      have : p.extract (k + 1) (k + 1 + 1 + x) = ⟨((p.data.toList.drop (k + 1)).take (x + 1)).toArray⟩ := ba_ext (by
                        rw [Go.Lib.extract_data]; simp only []; congr 1; omega)
                      rw [this]; rfl)
                    have hff : fits (.set n ms) := by show ms.length ≤ 1000000; omega
                    have hff' := Lib.hid hff
                    clear gn0 gb0 hc0 hx hn hms hrest hff
                    have e1 := beq_eq_false_iff_ne.2 d1; have e2 := beq_eq_false_iff_ne.2 d2; clear d1 d2
                    go_wp2_with fail
                    refine (closing_calls p k _ hp hlt).mono ?_
                    rintro e w1 ⟨rfl, rfl⟩
                    rw [hc.out]
                    go_wp2_with (at_builtin; refine wpList_append_own _ rfl _ _ 49 rfl w.heap.size 52 i0 _ 4 32 Try.underlying49 hi hz0 hz1 hz2 rfl (by decide) _ _ _ rfl (hown.alloc _) ⟨wr.heap.size, 0, none⟩ 1 1 [.int .i64 3, .int .u8 0, .bool false, .string (p.extract (k + 1) (k + 1 + 1 + x))] rfl rfl (cells_new wr _ 52) (by intro u hu; simp at hu; rcases hu with rfl | rfl | rfl | rfl <;> rfl) hfit.2 hfit.1 (by have := hB.size; simp; omega) ?_; intro v' w2 hown' hgrow _)
                    exact pieces_turn (k' := k + 1 + 1 + x + 1) (by omega) (by omega) hql hB ((Below.refl _ _).alloc (Nat.le_refl _) _) hown (q := .set n ms) hex.out hff'.out hfs.out hown' hgrow hrel hstep
            · have hstep := Lib.hid (show Gl.parts (p.data.toList.drop k) = .byte p[k] :: Gl.parts (p.data.toList.drop (k + 1)) by
                rw [hdc.out]
                exact Gl.parts_byte _ (fun e => c3 (by rw [e]; rfl)) (fun e => c4 (by rw [e]; rfl)) (fun e => c1 (by rw [e]; rfl)) (fun e => c2 (by rw [e]; rfl)))
              have d1 := beq_eq_false_iff_ne.2 c1; have d2 := beq_eq_false_iff_ne.2 c2; have d3 := beq_eq_false_iff_ne.2 c3; have d4 := beq_eq_false_iff_ne.2 c4
              clear c1 c2 c3 c4
              go_wp2_with (at_builtin; refine wpList_append_own _ rfl _ _ 49 rfl w.heap.size 52 i0 _ 4 32 Try.underlying49 hi hz0 hz1 hz2 rfl (by decide) _ _ _ rfl (hown.alloc _) ⟨wr.heap.size, 0, none⟩ 1 1 [.int .i64 0, .int .u8 p[k].toNat, .bool false, .string ⟨#[]⟩] rfl rfl (cells_new wr _ 52) (by intro u hu; simp at hu; rcases hu with rfl | rfl | rfl | rfl <;> rfl) hfit.2 hfit.1 (by have := hB.size; simp; omega) ?_; intro v' w2 hown' hgrow _)
              exact pieces_turn (k' := k + 1) (by omega) (by omega) hql hB ((Below.refl _ _).alloc (Nat.le_refl _) _) hown (q := .byte p[k]) rfl trivial hfs.out hown' hgrow hrel hstep
    · go_wp2
      go_ret
      have e : Gl.parts p.data.toList = qs := by
        rw [hrel.out, List.drop_of_length_le (by rw [← Go.Lib.size_eq]; omega), Gl.parts_nil, List.append_nil]
      rw [e]
      exact ⟨_, rfl, hown, hfs.out, hB⟩
end Go.Proofs.Ytfnmncghgmnaaaa
