/-
  glob.parts (function 36) makes a slice that reads as the list of parts of the plain side. Condition: the pattern has at most 1,000,000 bytes.
-/
import Derived.Test.YtfnmncghgmnaaaaGlob2
import Derived.Laws.OwnMore
namespace Go.Proofs.Ytfnmncghgmnaaaa
open Go.RowKit

theorem info58 : (Try.prog.info? 58).map (fun i => (i.zero, i.size, i.bytes)) = some (some (.agg #[.int .u8 0, .int .u8 0, .nilFunc]), 3, 16) := by kernel_rfl

/-- A list of parts, as its cells lie one behind the other. -/
inductive Reps (w : World) : List Gl.Part → List Value → Prop
  | nil : Reps w [] []
  | cons {q : Gl.Part} {vs : List Value} {qs : List Gl.Part} {cs : List Value} : PartRep w q vs → Reps w qs cs → Reps w (q :: qs) (vs ++ cs)

theorem PartRep.kept {w w' : World} {q : Gl.Part} {vs : List Value} (h : PartRep w q vs) (hk : ∀ (b : Nat) (v : Value) (t : TypeId), t ≠ 58 → w.heap[b]? = some (Obj.cells #[v] t (0, 0)) → w'.heap[b]? = w.heap[b]?) : PartRep w' q vs := by
  cases h with
  | byte c => exact .byte c
  | star => exact .star
  | any => exact .any
  | set n ms b1 b2 hl h1 h2 => exact .set n ms b1 b2 hl ((hk _ _ _ (by decide) h1).trans h1) ((hk _ _ _ (by decide) h2).trans h2)
theorem Reps.kept {w w' : World} {qs : List Gl.Part} {cs : List Value} (h : Reps w qs cs) (hk : ∀ (b : Nat) (v : Value) (t : TypeId), t ≠ 58 → w.heap[b]? = some (Obj.cells #[v] t (0, 0)) → w'.heap[b]? = w.heap[b]?) : Reps w' qs cs := by
  induction h with
  | nil => exact .nil
  | cons hq _ ih => exact .cons (hq.kept hk) ih
theorem Reps.snoc {w : World} {qs : List Gl.Part} {cs : List Value} {q : Gl.Part} {vs : List Value} (h : Reps w qs cs) (hq : PartRep w q vs) : Reps w (qs ++ [q]) (cs ++ vs) := by
  induction h with
  | nil => simpa using Reps.cons hq .nil
  | cons hp _ ih => rw [List.cons_append, List.append_assoc]; exact .cons hp ih

/-- A slice of parts that the call owns. -/
def PartsAt (w : World) (base : Nat) (v : Value) (qs : List Gl.Part) : Prop := ∃ cs, w.ownsRow base 58 3 v qs.length cs ∧ Reps w qs cs

theorem PartsAt.below {w w' : World} {base : Nat} {v : Value} {qs : List Gl.Part} (h : PartsAt w base v qs) (hb : Below w.heap.size w w') : PartsAt w' base v qs := by
  obtain ⟨cs, h1, h2⟩ := h
  exact ⟨cs, h1.kept (row := none) ⟨hb.os, hb.tape, hb.output, hb.size, fun k hk _ => hb.block k hk⟩ (by cases v.ownBlock <;> simp), h2.kept fun b v t _ h => hb.block b (heap_lt h)⟩

theorem PartsAt.snoc {w w1 w2 : World} {base : Nat} {v v' : Value} {qs : List Gl.Part} {cs : List Value} {q : Gl.Part} {vs : List Value}
    (hown : w.ownsRow base 58 3 v qs.length cs) (hr : Reps w qs cs) (hq : PartRep w q vs) (hb : Below w.heap.size w w1)
    (hown' : w2.ownsRow base 58 3 v' (qs.length + 1) (cs ++ vs)) (hg : w1.grownBy w2 v.ownBlock) : PartsAt w2 base v' (qs ++ [q]) := by
  have hk : ∀ (b : Nat) (u : Value) (t : TypeId), t ≠ 58 → w.heap[b]? = some (Obj.cells #[u] t (0, 0)) → w2.heap[b]? = w.heap[b]? := by
    intro b u t ht h
    have hl := heap_lt h
    rw [hg.block b (Nat.lt_of_lt_of_le hl hb.size) ?_, hb.block b hl]
    intro e
    rcases hown.2 with ⟨rfl, _⟩ | ⟨g, cap, cur, rfl, _, hgg, _⟩
    · cases e
    · injection e with e; subst e
      rw [h] at hgg
      injection hgg with hgg; injection hgg with _ e; exact ht e
  exact ⟨_, by simpa using hown', (hr.kept hk).snoc (hq.kept hk)⟩

theorem cells_new (w : World) (vs : List Value) (t : TypeId) : ∀ (j : Nat) (u : Value), vs[j]? = some u → (w.alloc (Obj.cells vs.toArray t)).cell? ((⟨w.heap.size, 0, none⟩ : Addr).add j) = some u := by
  intro j u h
  have e : (⟨w.heap.size, 0, none⟩ : Addr).add j = ⟨w.heap.size, j, none⟩ := by unfold Addr.add; split <;> simp_all
  rw [e]
  unfold World.cell?
  rw [heap_alloc_new]
  simpa using h

theorem byte_eq {c : UInt8} {n : Nat} (h : (c.toNat : Int) = n) (hn : n < 256) : c = n.toUInt8 :=
  UInt8.toNat_inj.1 (by have : c.toNat = n := by omega
                        rw [this]; simp; omega)

/-- What one turn leaves. -/
theorem parts_turn {p : ByteArray} {w wr w1 w2 : World} {k k' : Nat} {qs : List Gl.Part} {cs vs : List Value} {q : Gl.Part} {v v' : Value} (hlt : k < p.size) (hk1 : k < k') (hk2 : k' ≤ p.size) (hql : qs.length ≤ k)
    (hB : Below w.heap.size w wr) (hb : Below wr.heap.size wr w1) (hown : wr.ownsRow w.heap.size 58 3 v qs.length cs) (hr : Reps wr qs cs) (hq : PartRep w1 q vs)
    (hown' : w2.ownsRow w.heap.size 58 3 v' (qs.length + 1) (cs ++ vs)) (hg : (w1.alloc (Obj.cells vs.toArray 58)).grownBy w2 v.ownBlock)
    (hrel : Hid (Gl.parts p.data.toList = qs ++ Gl.parts (p.data.toList.drop k))) (hstep : Hid (Gl.parts (p.data.toList.drop k) = q :: Gl.parts (p.data.toList.drop k'))) :
    (∃ (k_1 : Nat) (qs : List Gl.Part), k_1 ≤ p.size ∧ Value.int IntKind.i64 (k' : Int) = Value.int IntKind.i64 (k_1 : Int) ∧ PartsAt w2 w.heap.size v' qs ∧ qs.length ≤ k_1 ∧
      Below w.heap.size w w2 ∧ Hid (Gl.parts p.data.toList = qs ++ Gl.parts (p.data.toList.drop k_1))) ∧
    p.size - (intOf (Value.int IntKind.i64 (k' : Int))).toNat < p.size - (intOf (Value.int IntKind.i64 (k : Int))).toNat := by
  have hs := hB.size
  have hs1 := hb.size
  have hB1 : Below w.heap.size w w1 := hB.trans (hb.mono hs)
  have hown1 : w1.ownsRow w.heap.size 58 3 v qs.length cs := hown.kept (row := none) ⟨hb.os, hb.tape, hb.output, hb.size, fun k hk _ => hb.block k hk⟩ (by cases v.ownBlock <;> simp)
  have hr1 : Reps w1 qs cs := hr.kept fun b v t _ h => hb.block b (heap_lt h)
  refine ⟨⟨k', qs ++ [q], hk2, rfl, PartsAt.snoc hown1 hr1 hq ((Below.refl _ _).alloc (Nat.le_refl _) _) hown' hg, by simp; omega, ?_, ?_⟩, by simp [intOf]; omega⟩
  · exact (hB1.alloc hB1.size _).grown hg (by simp; omega) (fun k e => (hown.lt k e).1)
  · show _ = _
    rw [hrel.out, hstep.out]; simp

theorem setOf_ms {r : List UInt8} {n : Bool} {ms rest : List UInt8} (h : Gl.setOf r = some (n, ms, rest)) : ms.length ≤ r.length := by
  unfold Gl.setOf at h
  have hb := Gl.body_le r
  split at h
  · cases h
  · rename_i c t he
    rw [he] at hb
    split at h
    · rename_i e hi
      have := Gl.idx_lt hi
      injection h with h; injection h with _ h; injection h with h _
      subst h
      simp at hb ⊢; omega
    · cases h

set_option maxHeartbeats 1000000 in
theorem parts_calls (p : ByteArray) (w : World) (hp : p.size ≤ 1000000) :
    Calls Try.prog 36 #[.string p] w fun e w' => ∃ v, e = .returned v ∧ PartsAt w' w.heap.size v (Gl.parts p.data.toList) ∧ Below w.heap.size w w' := by
  obtain ⟨i0, hi, hz0, hz1, hz2⟩ := info_parts info58
  go_enter Try.func36, Try.ntmps36
  go_wp2_with fail
  go_loopw [3, 4] (fun v i wr => ∃ (k : Nat) (qs : List Gl.Part), k ≤ p.size ∧ i = .int .i64 k ∧ PartsAt wr w.heap.size v qs ∧ qs.length ≤ k ∧ Below w.heap.size w wr ∧ Hid (Gl.parts p.data.toList = qs ++ Gl.parts (p.data.toList.drop k))) (fun _ i _ => p.size - (intOf i).toNat)
  case atStart => exact ⟨0, [], Nat.zero_le _, rfl, ⟨[], World.ownsRow_nil _ _ _ _, .nil⟩, Nat.le_refl _, Below.refl _ _, rfl⟩
  case round =>
    obtain ⟨k, qs, hk, rfl, hat, hql, hB, hrel⟩ := hrel
    by_cases hlt : k < p.size
    · obtain ⟨cs, hown, hreps⟩ := hat
      have hfit : (qs.length + 1) * 16 ≤ 140737488355328 ∧ qs.length + 1 ≤ maxLen := by unfold maxLen; omega
      have hdc := Lib.hid (drop_cons hlt)
      by_cases c1 : (p[k].toNat : Int) = 42
      · have hstep := Lib.hid (show Gl.parts (p.data.toList.drop k) = .star :: Gl.parts (p.data.toList.drop (k + 1)) by rw [hdc.out, byte_eq c1 (by decide)]; exact Gl.parts_star _)
        go_wp2_with (at_builtin; refine wpList_append_own _ rfl _ _ 55 rfl w.heap.size 58 i0 _ 3 16 Try.underlying55 hi hz0 hz1 hz2 rfl (by decide) _ _ _ rfl (hown.alloc _) ⟨wr.heap.size, 0, none⟩ 1 1 [.int .u8 42, .int .u8 0, .nilFunc] rfl rfl (cells_new wr _ 58) (by intro u hu; simp at hu; rcases hu with rfl | rfl | rfl <;> rfl) hfit.2 hfit.1 (by have := hB.size; have := hB.size; simp; omega) ?_; intro v' w2 hown' hgrow _)
        exact parts_turn (k' := k + 1) hlt (by omega) (by omega) hql hB (Below.refl _ _) hown hreps (q := .star) .star hown' hgrow hrel hstep
      · by_cases c2 : (p[k].toNat : Int) = 63
        · have hstep := Lib.hid (show Gl.parts (p.data.toList.drop k) = .any :: Gl.parts (p.data.toList.drop (k + 1)) by rw [hdc.out, byte_eq c2 (by decide)]; exact Gl.parts_any _)
          clear c1
          go_wp2_with (at_builtin; refine wpList_append_own _ rfl _ _ 55 rfl w.heap.size 58 i0 _ 3 16 Try.underlying55 hi hz0 hz1 hz2 rfl (by decide) _ _ _ rfl (hown.alloc _) ⟨wr.heap.size, 0, none⟩ 1 1 [.int .u8 63, .int .u8 0, .nilFunc] rfl rfl (cells_new wr _ 58) (by intro u hu; simp at hu; rcases hu with rfl | rfl | rfl <;> rfl) hfit.2 hfit.1 (by have := hB.size; have := hB.size; simp; omega) ?_; intro v' w2 hown' hgrow _)
          exact parts_turn (k' := k + 1) hlt (by omega) (by omega) hql hB (Below.refl _ _) hown hreps (q := .any) .any hown' hgrow hrel hstep
        · by_cases c3 : (p[k].toNat : Int) = 92
          · clear c1 c2
            by_cases h2 : k + 1 < p.size
            · have hstep := Lib.hid (show Gl.parts (p.data.toList.drop k) = .byte p[k + 1] :: Gl.parts (p.data.toList.drop (k + 2)) by rw [hdc.out, byte_eq c3 (by decide), drop_cons h2]; exact Gl.parts_esc _ _)
              go_wp2_with (at_builtin; refine wpList_append_own _ rfl _ _ 55 rfl w.heap.size 58 i0 _ 3 16 Try.underlying55 hi hz0 hz1 hz2 rfl (by decide) _ _ _ rfl (hown.alloc _) ⟨wr.heap.size, 0, none⟩ 1 1 [.int .u8 0, .int .u8 p[k + 1].toNat, .nilFunc] rfl rfl (cells_new wr _ 58) (by intro u hu; simp at hu; rcases hu with rfl | rfl | rfl <;> rfl) hfit.2 hfit.1 (by have := hB.size; have := hB.size; simp; omega) ?_; intro v' w2 hown' hgrow _)
              exact parts_turn (k' := k + 2) hlt (by omega) (by omega) hql hB (Below.refl _ _) hown hreps (q := .byte p[k + 1]) (.byte _) hown' hgrow hrel hstep
            · have hstep := Lib.hid (show Gl.parts (p.data.toList.drop k) = .byte 92 :: Gl.parts (p.data.toList.drop (k + 1)) by rw [hdc.out, byte_eq c3 (by decide), List.drop_of_length_le (by rw [← Go.Lib.size_eq]; omega)]; rw [Gl.parts_nil]; exact Gl.parts_esc1)
              go_wp2_with (at_builtin; refine wpList_append_own _ rfl _ _ 55 rfl w.heap.size 58 i0 _ 3 16 Try.underlying55 hi hz0 hz1 hz2 rfl (by decide) _ _ _ rfl (hown.alloc _) ⟨wr.heap.size, 0, none⟩ 1 1 [.int .u8 0, .int .u8 92, .nilFunc] rfl rfl (cells_new wr _ 58) (by intro u hu; simp at hu; rcases hu with rfl | rfl | rfl <;> rfl) hfit.2 hfit.1 (by have := hB.size; have := hB.size; simp; omega) ?_; intro v' w2 hown' hgrow _)
              exact parts_turn (k' := k + 1) hlt (by omega) (by omega) hql hB (Below.refl _ _) hown hreps (q := .byte 92) (.byte 92) hown' hgrow hrel hstep
          · by_cases c4 : (p[k].toNat : Int) = 91
            · clear c1 c2 c3
              cases hs0 : Gl.setOf (p.data.toList.drop (k + 1)) with
              | none =>
                have hstep := Lib.hid (show Gl.parts (p.data.toList.drop k) = .byte 91 :: Gl.parts (p.data.toList.drop (k + 1)) by rw [hdc.out, byte_eq c4 (by decide)]; exact Gl.parts_open hs0)
                have hs := Lib.hid hs0
                clear hs0
                go_wp2_with fail
                refine (set_calls p k _ hp hlt).mono ?_
                rintro e w1 hset
                unfold SetPost at hset
                rw [hs.out] at hset
                obtain ⟨rfl, hb⟩ := hset
                have hb1 := hb.size
                have hown1 : w1.ownsRow w.heap.size 58 3 _ qs.length cs := hown.kept (row := none) ⟨hb.os, hb.tape, hb.output, hb.size, fun k hk _ => hb.block k hk⟩ (by cases Value.ownBlock _ <;> simp)
                go_wp2_with (at_builtin; refine wpList_append_own _ rfl _ _ 55 rfl w.heap.size 58 i0 _ 3 16 Try.underlying55 hi hz0 hz1 hz2 rfl (by decide) _ _ _ rfl (hown1.alloc _) ⟨w1.heap.size, 0, none⟩ 1 1 [.int .u8 0, .int .u8 91, .nilFunc] rfl rfl (cells_new w1 _ 58) (by intro u hu; simp at hu; rcases hu with rfl | rfl | rfl <;> rfl) hfit.2 hfit.1 (by have := hB.size; have := hb.size; simp; omega) ?_; intro v' w2 hown' hgrow _)
                exact parts_turn (k' := k + 1) hlt (by omega) (by omega) hql hB hb hown hreps (q := .byte 91) (.byte 91) hown' hgrow hrel hstep
              | some x =>
                obtain ⟨n, ms, rest⟩ := x
                have hs := Lib.hid hs0
                have hstep0 := Lib.hid (show Gl.parts (p.data.toList.drop k) = .set n ms :: Gl.parts rest by rw [hdc.out, byte_eq c4 (by decide)]; exact Gl.parts_set hs0)
                have hml := setOf_ms hs0
                rw [List.length_drop, ← Go.Lib.size_eq] at hml
                clear hs0
                go_wp2_with fail
                refine (set_calls p k _ hp hlt).mono ?_
                rintro e w1 hset
                unfold SetPost at hset
                rw [hs.out] at hset
                obtain ⟨hb, b1, b2, next, rfl, hl1, hl2, g1, g2, hn1, hn2, hn3⟩ := hset
                have hb1 := hb.size
                have hstep := Lib.hid (hstep0.out.trans (by rw [← hn3]))
                have hg1 := Lib.hid g1
                have hg2 := Lib.hid g2
                clear hn3 g1 g2
                have hown1 : w1.ownsRow w.heap.size 58 3 _ qs.length cs := hown.kept (row := none) ⟨hb.os, hb.tape, hb.output, hb.size, fun k hk _ => hb.block k hk⟩ (by cases Value.ownBlock _ <;> simp)
                go_wp2_with (at_builtin; refine wpList_append_own _ rfl _ _ 55 rfl w.heap.size 58 i0 _ 3 16 Try.underlying55 hi hz0 hz1 hz2 rfl (by decide) _ _ _ rfl (hown1.alloc _) ⟨w1.heap.size, 0, none⟩ 1 1 [.int .u8 91, .int .u8 0, .func (.func 46) #[] #[.pointer (some ⟨b1, 0, none⟩), .pointer (some ⟨b2, 0, none⟩)]] rfl rfl (cells_new w1 _ 58) (by intro u hu; simp at hu; rcases hu with rfl | rfl | rfl <;> rfl) hfit.2 hfit.1 (by have := hB.size; have := hb.size; simp; omega) ?_; intro v' w2 hown' hgrow _)
                exact parts_turn (k' := next) hlt (by omega) (by omega) hql hB hb hown hreps (q := .set n ms) (.set n ms b1 b2 (by omega) hg1.out hg2.out) hown' hgrow hrel hstep
            · have hstep := Lib.hid (show Gl.parts (p.data.toList.drop k) = .byte p[k] :: Gl.parts (p.data.toList.drop (k + 1)) by
                rw [hdc.out]
                exact Gl.parts_byte _ (fun e => c3 (by rw [e]; rfl)) (fun e => c4 (by rw [e]; rfl)) (fun e => c1 (by rw [e]; rfl)) (fun e => c2 (by rw [e]; rfl)))
              have d1 := beq_eq_false_iff_ne.2 c1; have d2 := beq_eq_false_iff_ne.2 c2; have d3 := beq_eq_false_iff_ne.2 c3; have d4 := beq_eq_false_iff_ne.2 c4
              clear c1 c2 c3 c4
              go_wp2_with (at_builtin; refine wpList_append_own _ rfl _ _ 55 rfl w.heap.size 58 i0 _ 3 16 Try.underlying55 hi hz0 hz1 hz2 rfl (by decide) _ _ _ rfl (hown.alloc _) ⟨wr.heap.size, 0, none⟩ 1 1 [.int .u8 0, .int .u8 p[k].toNat, .nilFunc] rfl rfl (cells_new wr _ 58) (by intro u hu; simp at hu; rcases hu with rfl | rfl | rfl <;> rfl) hfit.2 hfit.1 (by have := hB.size; have := hB.size; simp; omega) ?_; intro v' w2 hown' hgrow _)
              exact parts_turn (k' := k + 1) hlt (by omega) (by omega) hql hB (Below.refl _ _) hown hreps (q := .byte p[k]) (.byte _) hown' hgrow hrel hstep
    · go_wp2
      go_ret
      refine ⟨_, rfl, ?_, hB⟩
      have e : Gl.parts p.data.toList = qs := by
        rw [hrel.out, List.drop_of_length_le (by rw [← Go.Lib.size_eq]; omega), Gl.parts_nil, List.append_nil]
      rw [e]; exact hat
end Go.Proofs.Ytfnmncghgmnaaaa
