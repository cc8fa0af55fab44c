/-
  The reference's Join (function 32). Condition: what is joined has at most a million bytes.
-/
import Derived.Test.YtfnmncghgmnaaaaAuto4
import Derived.Deep.CutBlock
import Derived.Deep.DeepCutAuto
namespace Go.Proofs.Ytfnmncghgmnaaaa
open Go.RowKit

theorem jn_snoc {l : List ByteArray} {k : Nat} {s : ByteArray} (h : l[k]? = some s) : jn (l.take (k + 1)) = jn (l.take k) ++ (if 0 < k then [32] else []) ++ s.data.toList := by
  unfold jn
  cases l with
  | nil => simp at h
  | cons x r =>
    cases k with
    | zero => simp at h; subst h; simp [Lib.join_one, Lib.join_nil]
    | succ k =>
      simp at h
      rw [List.take_succ_cons, List.take_succ_cons, List.map_cons, List.map_cons, Lib.join_cons, Lib.join_cons, List.map_take, List.map_take,
        Lib.joinTail_take_succ [32] (r.map (·.data.toList)) k s.data.toList (by simp [h]), if_pos (by omega)]
      simp

theorem rjoin_turn {w w1 w2 : World} {n k : Nat} {l : List ByteArray} {x : List UInt8} {s : ByteArray} {v v' : Value} (hlt : k < n) (hs : l[k]? = some s)
    (hx : x = (if 0 < k then [32] else [])) (hB1 : Below w.heap.size w w1)
    (hown : w1.ownsRow w.heap.size 5 1 v (jn (l.take k) ++ x).length (bcells (jn (l.take k) ++ x)))
    (hown' : w2.ownsRow w.heap.size 5 1 v' ((jn (l.take k) ++ x).length + s.size) (bcells (jn (l.take k) ++ x) ++ Lib.strCells s)) (hg : w1.grownBy w2 v.ownBlock) :
    (∃ (k_1 : Nat), k_1 ≤ n ∧ Value.int IntKind.i64 (((k + 1 : Nat)) : Int) = Value.int IntKind.i64 (k_1 : Int) ∧ w2.ownsRow w.heap.size 5 1 v' (jn (l.take k_1)).length (bcells (jn (l.take k_1))) ∧ Below w.heap.size w w2) ∧
    n - (intOf (Value.int IntKind.i64 (((k + 1 : Nat)) : Int))).toNat < n - (intOf (Value.int IntKind.i64 (k : Int))).toNat := by
  refine ⟨⟨k + 1, hlt, rfl, ?_, hB1.grown hg hB1.size (fun k e => (hown.lt k e).1)⟩, by simp [intOf]; omega⟩
  rw [jn_snoc hs, ← hx, bcells_append, List.length_append, ← Lib.size_eq]
  exact hown'

set_option maxHeartbeats 1000000 in
theorem rjoin_calls (v : Value) (l : List ByteArray) (w : World) (h : StrsAt w v l) (hz : wt l ≤ 1000000) :
    Calls Try.prog 32 #[v] w fun e w' => e = .returned (.string ⟨(jn l).toArray⟩) ∧ Below w.heap.size w w' := by
  have hwl := wt_len l
  obtain ⟨i0, hi, hz0, hz1, hz2⟩ := info_parts info5
  obtain ⟨a, n, c, rfl, hn0, hc, hm, hcell, _⟩ := h
  have hnl : n ≤ 1000000 := by omega
  have hn := Lib.hid hn0
  have hce := Lib.hid hcell
  clear hn0 hcell hm hwl
  go_enter Try.func32, Try.ntmps32
  go_wp2_with fail
  go_loop [3, 4] (fun t i => ∃ (k m : Nat), k ≤ n ∧ i = .int .i64 k ∧ t = .int .i64 m ∧ m ≤ 1000000 ∧ Hid (m = wt (l.take k))) (fun _ i => n - (intOf i).toNat)
  case atStart => exact ⟨0, 0, Nat.zero_le _, rfl, rfl, Nat.zero_le _, rfl⟩
  case round =>
    obtain ⟨k, m, hk, rfl, rfl, hmm, hrel⟩ := hrel
    by_cases hlt : k < n
    · obtain ⟨s, hs⟩ : ∃ s, l[k]? = some s := ⟨_, List.getElem?_eq_getElem (by rw [← hn.out]; exact hlt)⟩
      obtain ⟨b, off, rfl, hb, hcells⟩ := hce.out (by omega)
      have hck := hcells k s hs
      have hst := Lib.hid (show m + s.size + 1 = wt (l.take (k + 1)) by rw [take_more hs, wt_append, ← hrel.out]; simp only [wt]; omega)
      have hsz : m + s.size + 1 ≤ 1000000 := by rw [hst.out]; exact Nat.le_trans (wt_take l _) hz
      clear hs hcells
      go_wp2
      exact ⟨⟨k + 1, m + s.size + 1, by omega, by go_num, by go_num, hsz, hst⟩, by simp [intOf]; omega⟩
    · have hmw : Hid (m = wt l) := by show _ = _; rw [hrel.out, List.take_of_length_le (by rw [← hn.out]; omega)]
      clear hrel
      go_wp2_with (at_make; refine wpList_make_own _ rfl _ _ 37 rfl w.heap.size 5 i0 (.int .u8 0) 1 Try.underlying37 hi hz0 hz1 .i64 .i64 _ m rfl rfl rfl (by rw [hz2]; omega) (by unfold maxLen; omega) (Nat.le_refl _) ?_; intro w0 hown0 hgrow0)
      go_loopw [5, 6] (fun v i wr => ∃ k : Nat, k ≤ n ∧ i = .int .i64 k ∧ wr.ownsRow w.heap.size 5 1 v (jn (l.take k)).length (bcells (jn (l.take k))) ∧ Below w.heap.size w wr) (fun _ i _ => n - (intOf i).toNat)
      case atStart => exact ⟨0, Nat.zero_le _, rfl, hown0, (Below.refl _ _).grown hgrow0 (Nat.le_refl _) (fun k e => by cases e)⟩
      case round =>
        obtain ⟨j, hj, rfl, hown, hB⟩ := hrel
        have hjl : (jn (l.take j)).length ≤ 1000000 := Nat.le_trans (jn_len _) (Nat.le_trans (wt_take l j) hz)
        by_cases hlt2 : j < n
        · obtain ⟨s, hs⟩ : ∃ s, l[j]? = some s := ⟨_, List.getElem?_eq_getElem (by rw [← hn.out]; exact hlt2)⟩
          obtain ⟨b, off, rfl, hb, hcells⟩ := hce.out (by omega)
          have hck := (hB.cell (p := ⟨b, off + j, none⟩) hb).trans (hcells j s hs)
          have hall : (jn (l.take (j + 1))).length ≤ 1000000 := Nat.le_trans (jn_len _) (Nat.le_trans (wt_take l (j + 1)) hz)
          rw [jn_snoc hs, List.length_append, List.length_append, ← Lib.size_eq] at hall
          have hs' := Lib.hid hs
          clear hs hcells
          by_cases h0 : 0 < j
          · rw [if_pos h0] at hall
            simp only [List.length_singleton] at hall
            have hfit : ((jn (l.take j)).length + 1) * 1 ≤ 140737488355328 ∧ (jn (l.take j)).length + 1 ≤ maxLen := by unfold maxLen; omega
            go_upto_region 12 with ((at_builtin; refine wpList_append_own _ rfl _ _ 37 rfl w.heap.size 5 i0 _ 1 1 Try.underlying37 hi hz0 hz1 hz2 rfl (by decide) _ _ _ rfl (hown.alloc _) ⟨wr.heap.size, 0, none⟩ 1 1 [.int .u8 32] rfl rfl (cells_new wr _ 5) (by intro u hu; simp at hu; subst hu; rfl) hfit.2 hfit.1 (by have := hB.size; simp; omega) ?_; intro v' w2 hown' hgrow _))
            have hB2 : Below w.heap.size w w2 := (hB.alloc hB.size _).grown hgrow (by have := hB.size; simp; omega) (fun k e => (hown.lt k e).1)
            have hown2 : w2.ownsRow w.heap.size 5 1 v' (jn (l.take j) ++ [32]).length (bcells (jn (l.take j) ++ [32])) := by
              rw [bcells_append, List.length_append]; exact hown'
            have hck2 := (hB2.cell (p := ⟨b, off + j, none⟩) hb).trans (((hB.cell (p := ⟨b, off + j, none⟩) hb).symm).trans hck)
            have hfit2 : (jn (l.take j) ++ [32]).length + s.size ≤ 140737488355328 ∧ (jn (l.take j) ++ [32]).length + s.size ≤ maxLen := by
              rw [List.length_append]; simp only [List.length_singleton]; unfold maxLen; omega
            clear hown' hck
            go_wp2_with (at_builtin; refine Go.Lib.wpList_append_own_string _ rfl _ _ 37 9 rfl w.heap.size 5 i0 Try.underlying37 Try.underlying9 hi hz0 hz1 hz2 _ _ _ rfl hown2 s rfl hfit2.2 hfit2.1 (by have := hB2.size; omega) ?_; intro v'' w3 hown3 hgrow3 _)
            exact rjoin_turn hlt2 hs'.out (x := [32]) (by rw [if_pos h0]) hB2 hown2 hown3 hgrow3
          · have e0 : j = 0 := by omega
            rw [if_neg h0] at hall
            simp only [List.length_nil, Nat.add_zero] at hall
            have hfit : (jn (l.take j)).length + s.size ≤ 140737488355328 ∧ (jn (l.take j)).length + s.size ≤ maxLen := by unfold maxLen; omega
            clear e0
            go_wp2_with (at_builtin; refine Go.Lib.wpList_append_own_string _ rfl _ _ 37 9 rfl w.heap.size 5 i0 Try.underlying37 Try.underlying9 hi hz0 hz1 hz2 _ _ _ rfl hown s rfl hfit.2 hfit.1 (by have := hB.size; omega) ?_; intro v' w2 hown' hgrow _)
            exact rjoin_turn hlt2 hs'.out (x := []) (by rw [if_neg h0]) hB (by rw [List.append_nil]; exact hown) (by rw [List.append_nil]; exact hown') hgrow
        · have hconv := convert_own hown
          have e := Lib.hid (show jn (l.take j) = jn l by rw [List.take_of_length_le (by rw [← hn.out]; omega)])
          go_wp2
          go_ret
          exact ⟨by rw [← e.out]; rfl, hB⟩
end Go.Proofs.Ytfnmncghgmnaaaa
