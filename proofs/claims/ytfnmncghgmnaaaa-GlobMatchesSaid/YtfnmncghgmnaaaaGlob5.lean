/-
  glob.Match, glob.Has, glob.Plain (functions 17, 19, 21) answer what the plain side says. Condition: pattern and name have at most 1,000,000 bytes each.
-/
import Derived.Test.YtfnmncghgmnaaaaGlob4
import Derived.Lib.AppendStr
import Derived.Laws.BytesArg
import Derived.Laws.EntriesVeiled
namespace Go.Proofs.Ytfnmncghgmnaaaa
open Go.RowKit

set_option maxHeartbeats 400000 in
theorem match_calls (p s : ByteArray) (w : World) (hp : p.size ≤ 1000000) (hs : s.size ≤ 1000000) :
    Calls Try.prog 17 #[.string p, .string s] w fun e w' => e = .returned (.bool (Gl.whole true p.data.toList s.data.toList)) ∧ Below w.heap.size w w' := by
  go_enter Try.func17, Try.ntmps17
  go_wp2_with fail
  refine (whole_calls p s true _ hp hs).mono ?_
  rintro e w1 ⟨rfl, hB⟩
  go_wp2
  go_ret
  exact ⟨rfl, hB⟩

/-- Is a part more than a byte? -/
def Gl.isWild : Gl.Part → Bool | .byte _ => false | _ => true
set_option maxHeartbeats 400000 in
theorem has_calls (p : ByteArray) (w : World) (hp : p.size ≤ 1000000) :
    Calls Try.prog 19 #[.string p] w fun e w' => e = .returned (.bool (Gl.wild p.data.toList)) ∧ Below w.heap.size w w' := by
  have hwild : Gl.wild p.data.toList = (Gl.parts p.data.toList).any Gl.isWild := by unfold Gl.wild; congr
  rw [hwild]; clear hwild
  go_enter Try.func19, Try.ntmps19
  go_wp2_with fail
  refine (parts_calls p _ hp).mono ?_
  rintro e w1 ⟨v, rfl, hat, hB⟩
  have hplen : (Gl.parts p.data.toList).length ≤ 1000000 := Nat.le_trans (Gl.parts_length _ _ (Nat.le_refl _)) (by rw [← Go.Lib.size_eq]; exact hp)
  rcases hat.view with ⟨rfl, hq0⟩ | ⟨g, cap, rfl, hbg, hgl, hcap, hcells⟩
  · clear hat
    have hq := Lib.hid (show (Gl.parts p.data.toList).any Gl.isWild = false by rw [hq0]; rfl)
    clear hq0 hplen
    go_wp2_with fail
    go_loop [8] (fun i => i = .int .i64 0) (fun _ => 0)
    case atStart => rfl
    case round =>
      go_wp2
      go_ret
      exact ⟨by rw [hq.out]; rfl, hB⟩
  · clear hat
    obtain ⟨n, hn0⟩ : ∃ n, n = (Gl.parts p.data.toList).length := ⟨_, rfl⟩
    rw [← hn0] at hcap hplen ⊢
    have hnl : n ≤ (Gl.parts p.data.toList).length := Nat.le_of_eq hn0
    have hn := Lib.hid hn0
    clear hn0
    have hcl := Lib.hid hcells
    clear hcells
    go_wp2_with fail
    go_loopw [8] (fun i wr => ∃ k : Nat, k ≤ n ∧ i = .int .i64 k ∧ Below w1.heap.size w1 wr ∧ Hid ((Gl.parts p.data.toList).any Gl.isWild = ((Gl.parts p.data.toList).drop k).any Gl.isWild)) (fun i _ => n - (intOf i).toNat)
    case atStart => exact ⟨0, Nat.zero_le _, rfl, Below.refl _ _, rfl⟩
    case round =>
      obtain ⟨k, hk, rfl, hB1, hrel⟩ := hrel
      by_cases hlt : k < n
      · obtain ⟨q, hq⟩ : ∃ q, (Gl.parts p.data.toList)[k]? = some q := ⟨_, List.getElem?_eq_getElem (by omega)⟩
        have hdrop : (Gl.parts p.data.toList).drop k = q :: (Gl.parts p.data.toList).drop (k + 1) := by
          rw [List.drop_eq_getElem_cons (by omega)]; congr
          rw [List.getElem?_eq_getElem (by omega)] at hq; injection hq
        have hd := Lib.hid hdrop
        obtain ⟨kd, a, f, hrep, hc1, hc2, hc3⟩ := hcl.out k q hq
        rw [← hB1.cell (p := ⟨g, k * 3, none⟩) hgl] at hc1
        rw [← hB1.cell (p := ⟨g, k * 3 + 1, none⟩) hgl] at hc2
        rw [← hB1.cell (p := ⟨g, k * 3 + 2, none⟩) hgl] at hc3
        clear hdrop hq
        cases hrep with
        | byte c =>
          have hstep := Lib.hid (show (Gl.parts p.data.toList).any Gl.isWild = ((Gl.parts p.data.toList).drop (k + 1)).any Gl.isWild by rw [hrel.out, hd.out, List.any_cons]; rfl)
          go_wp2
          exact ⟨⟨k + 1, by omega, by go_num, hB1.alloc hB1.size _, hstep⟩, by simp [intOf]; omega⟩
        | star =>
          have hyes := Lib.hid (show (Gl.parts p.data.toList).any Gl.isWild = true by rw [hrel.out, hd.out, List.any_cons]; rfl)
          go_wp2
          go_ret
          exact ⟨by rw [hyes.out]; rfl, (hB1.alloc hB1.size _).mono' hB⟩
        | any =>
          have hyes := Lib.hid (show (Gl.parts p.data.toList).any Gl.isWild = true by rw [hrel.out, hd.out, List.any_cons]; rfl)
          go_wp2
          go_ret
          exact ⟨by rw [hyes.out]; rfl, (hB1.alloc hB1.size _).mono' hB⟩
        | set _ _ _ _ _ g1 g2 =>
          have hyes := Lib.hid (show (Gl.parts p.data.toList).any Gl.isWild = true by rw [hrel.out, hd.out, List.any_cons]; rfl)
          clear g1 g2
          go_wp2
          go_ret
          exact ⟨by rw [hyes.out]; rfl, (hB1.alloc hB1.size _).mono' hB⟩
      · have hno := Lib.hid (show (Gl.parts p.data.toList).any Gl.isWild = false by rw [hrel.out, List.drop_of_length_le (by rw [← hn.out]; omega)]; rfl)
        go_wp2
        go_ret
        exact ⟨by rw [hno.out]; rfl, hB1.mono' hB⟩

/-! ### Plain -/
def bcells (l : List UInt8) : List Value := l.map fun b => Value.int .u8 b.toNat
theorem bcells_str (s : ByteArray) : Go.Lib.strCells s = bcells s.data.toList := rfl
theorem bcells_append (a b : List UInt8) : bcells (a ++ b) = bcells a ++ bcells b := List.map_append

theorem convert_own {w : World} {base : Nat} {v : Value} {l : List UInt8} (h : w.ownsRow base 5 1 v l.length (bcells l)) :
    (convert 37 9 v).run Try.prog w = .ok (.string ⟨l.toArray⟩) w := by
  have hc := fun g => h.cells (g := g)
  obtain ⟨hl, h⟩ := h
  rcases h with ⟨rfl, hn⟩ | ⟨g, cap, cur, rfl, hb, hg, hn, _⟩
  · have : l = [] := List.length_eq_zero_iff.1 hn
    subst this
    exact run_convert_bytes_nil w 37 5 Try.underlying37 Try.underlying5 0 0 9 Try.underlying9
  · have ad : ∀ j, (⟨g, 0, none⟩ : Addr).add j = ⟨g, j, none⟩ := fun j => by unfold Addr.add; split <;> simp_all
    have := run_convert_bytes_arg (P := Try.prog) w 37 5 Try.underlying37 Try.underlying5 g 0 l.length cap (l.map fun b => (b.toNat : Int)) (by simp) (fun i hi => by
      rw [Nat.zero_add, ← ad]
      refine hc g rfl i _ ?_
      simp [bcells, List.getElem?_eq_getElem hi, List.getD]) 9 Try.underlying9
    rw [this]
    congr
    simp only [strOfNums, List.map_map]
    congr
    rw [List.map_congr_left (g := id) (fun b _ => by simp), List.map_id]

theorem info5 : (Try.prog.info? 5).map (fun i => (i.zero, i.size, i.bytes)) = some (some (.int .u8 0), 1, 1) := by kernel_rfl

theorem plain_turn {p : ByteArray} {w wr w1 w2 : World} {k k' : Nat} {o x : List UInt8} {v v' : Value} (hlt : k < k') (hk2 : k' ≤ p.size) (hol : o.length ≤ k) (hx : k + x.length ≤ k')
    (hB : Below w.heap.size w wr) (hb : Below wr.heap.size wr w1) (hown : wr.ownsRow w.heap.size 5 1 v o.length (bcells o))
    (hown' : w2.ownsRow w.heap.size 5 1 v' (o.length + x.length) (bcells o ++ bcells x)) (hg : w1.grownBy w2 v.ownBlock)
    (hrel : Hid (Gl.plain p.data.toList = o ++ Gl.plain (p.data.toList.drop k))) (hstep : Hid (Gl.plain (p.data.toList.drop k) = x ++ Gl.plain (p.data.toList.drop k'))) :
    (∃ (k_1 : Nat) (o : List UInt8), k_1 ≤ p.size ∧ Value.int IntKind.i64 (k' : Int) = Value.int IntKind.i64 (k_1 : Int) ∧ w2.ownsRow w.heap.size 5 1 v' o.length (bcells o) ∧ o.length ≤ k_1 ∧
      Below w.heap.size w w2 ∧ Hid (Gl.plain p.data.toList = o ++ Gl.plain (p.data.toList.drop k_1))) ∧
    p.size - (intOf (Value.int IntKind.i64 (k' : Int))).toNat < p.size - (intOf (Value.int IntKind.i64 (k : Int))).toNat := by
  have hs := hB.size
  have hB1 : Below w.heap.size w w1 := hB.trans (hb.mono hs)
  refine ⟨⟨k', o ++ x, hk2, rfl, ?_, by simp; omega, hB1.grown hg hB1.size (fun k e => (hown.lt k e).1), ?_⟩, by simp [intOf]; omega⟩
  · rw [bcells_append, List.length_append]; exact hown'
  · show _ = _
    rw [hrel.out, hstep.out]; simp

set_option maxHeartbeats 2000000 in
theorem plain_calls (p : ByteArray) (w : World) (hp : p.size ≤ 1000000) :
    Calls Try.prog 21 #[.string p] w fun e w' => e = .returned (.string ⟨(Gl.plain p.data.toList).toArray⟩) ∧ Below w.heap.size w w' := by
  obtain ⟨i0, hi, hz0, hz1, hz2⟩ := info_parts info5
  go_enter Try.func21, Try.ntmps21
  go_wp2_with fail
  go_loopw [3, 4] (fun v i wr => ∃ (k : Nat) (o : List UInt8), k ≤ p.size ∧ i = .int .i64 k ∧ wr.ownsRow w.heap.size 5 1 v o.length (bcells o) ∧ o.length ≤ k ∧ Below w.heap.size w wr ∧ Hid (Gl.plain p.data.toList = o ++ Gl.plain (p.data.toList.drop k))) (fun _ i _ => p.size - (intOf i).toNat)
  case atStart => exact ⟨0, [], Nat.zero_le _, rfl, World.ownsRow_nil _ _ _ _, Nat.le_refl _, Below.refl _ _, rfl⟩
  case round =>
    obtain ⟨k, o, hk, rfl, hown, hol, hB, hrel⟩ := hrel
    by_cases hlt : k < p.size
    · have hfit : (o.length + 1) * 1 ≤ 140737488355328 ∧ o.length + 1 ≤ maxLen := by unfold maxLen; omega
      have hdc := Lib.hid (drop_cons hlt)
      by_cases c1 : (p[k].toNat : Int) = 91
      · cases hs0 : Gl.setOf (p.data.toList.drop (k + 1)) with
        | none =>
          have hstep := Lib.hid (show Gl.plain (p.data.toList.drop k) = [91] ++ Gl.plain (p.data.toList.drop (k + 1)) by rw [hdc.out, byte_eq c1 (by decide)]; exact Gl.plain_open hs0)
          have hs := Lib.hid hs0
          clear hs0
          go_wp2_with fail
          refine (set_calls p k _ hp hlt).mono ?_
          rintro e w1 hset
          unfold SetPost at hset
          rw [hs.out] at hset
          obtain ⟨rfl, hb⟩ := hset
          have hb1 := hb.size
          have hown1 : w1.ownsRow w.heap.size 5 1 _ o.length (bcells o) := hown.kept (row := none) ⟨hb.os, hb.tape, hb.output, hb.size, fun k hk _ => hb.block k hk⟩ (by cases Value.ownBlock _ <;> simp)
          go_wp2_with (at_builtin; refine wpList_append_own _ rfl _ _ 37 rfl w.heap.size 5 i0 _ 1 1 Try.underlying37 hi hz0 hz1 hz2 rfl (by decide) _ _ _ rfl (hown1.alloc _) ⟨w1.heap.size, 0, none⟩ 1 1 [.int .u8 91] rfl rfl (cells_new w1 _ 5) (by intro u hu; simp at hu; subst hu; rfl) hfit.2 hfit.1 (by have := hB.size; have := hb.size; simp; omega) ?_; intro v' w2 hown' hgrow _)
          exact plain_turn (k' := k + 1) (x := [91]) (by omega) (by omega) hol (by simp; try omega) hB (hb.alloc hb.size _) hown hown' hgrow hrel hstep
        | some x =>
          obtain ⟨n, ms, rest⟩ := x
          have hs := Lib.hid hs0
          have hstep0 := Lib.hid (show Gl.plain (p.data.toList.drop k) = (p.data.toList.drop k).take (p.size - k - rest.length) ++ Gl.plain rest by
            rw [hdc.out, byte_eq c1 (by decide), show Nat.toUInt8 91 = 91 from rfl, Gl.plain_set hs0]
            congr 2
            rw [List.length_drop, ← Go.Lib.size_eq]; omega)
          clear hs0
          go_wp2_with fail
          refine (set_calls p k _ hp hlt).mono ?_
          rintro e w1 hset
          unfold SetPost at hset
          rw [hs.out] at hset
          obtain ⟨hb, b1, b2, next, rfl, hl1, hl2, g1, g2, hn1, hn2, hn3⟩ := hset
          have hb1 := hb.size
          have hstep := Lib.hid (show Gl.plain (p.data.toList.drop k) = (p.extract k next).data.toList ++ Gl.plain (p.data.toList.drop next) by
            rw [hstep0.out, ← hn3, Go.Lib.extract_data, List.length_drop, ← Go.Lib.size_eq, show p.size - k - (p.size - next) = next - k by omega])
          have hxl : (p.extract k next).size = next - k := by rw [Go.Lib.size_eq, Go.Lib.extract_data, List.length_take, List.length_drop, ← Go.Lib.size_eq]; omega
          have hxl2 := Lib.hid (show (p.extract k next).data.toList.length = (p.extract k next).size from (Go.Lib.size_eq _).symm)
          have hxm : o.length + (p.extract k next).size ≤ 140737488355328 ∧ o.length + (p.extract k next).size ≤ maxLen ∧ k + (p.extract k next).size ≤ next := by rw [hxl]; unfold maxLen; omega
          clear hn3 g1 g2 hxl
          have hown1 : w1.ownsRow w.heap.size 5 1 _ o.length (bcells o) := hown.kept (row := none) ⟨hb.os, hb.tape, hb.output, hb.size, fun k hk _ => hb.block k hk⟩ (by cases Value.ownBlock _ <;> simp)
          go_wp2_with (at_builtin; refine Go.Lib.wpList_append_own_string _ rfl _ _ 37 9 rfl w.heap.size 5 i0 Try.underlying37 Try.underlying9 hi hz0 hz1 hz2 _ _ _ rfl hown1 (p.extract k next) rfl hxm.2.1 hxm.1 (by have := hB.size; omega) ?_; intro v' w2 hown' hgrow _)
          exact plain_turn (k' := next) (x := (p.extract k next).data.toList) hn1 hn2 hol (by rw [hxl2.out]; exact hxm.2.2) hB hb hown (by rw [hxl2.out]; exact hown') hgrow hrel hstep
      · by_cases c2 : (p[k].toNat : Int) = 92
        · clear c1
          by_cases h2 : k + 1 < p.size
          · have hstep := Lib.hid (show Gl.plain (p.data.toList.drop k) = [p[k + 1]] ++ Gl.plain (p.data.toList.drop (k + 2)) by rw [hdc.out, byte_eq c2 (by decide), drop_cons h2]; exact Gl.plain_esc _ _)
            go_wp2_with (at_builtin; refine wpList_append_own _ rfl _ _ 37 rfl w.heap.size 5 i0 _ 1 1 Try.underlying37 hi hz0 hz1 hz2 rfl (by decide) _ _ _ rfl (hown.alloc _) ⟨wr.heap.size, 0, none⟩ 1 1 [.int .u8 p[k + 1].toNat] rfl rfl (cells_new wr _ 5) (by intro u hu; simp at hu; subst hu; rfl) hfit.2 hfit.1 (by have := hB.size; have := hB.size; simp; omega) ?_; intro v' w2 hown' hgrow _)
            exact plain_turn (k' := k + 2) (x := [p[k + 1]]) (by omega) (by omega) hol (by simp; try omega) hB ((Below.refl _ _).alloc (Nat.le_refl _) _) hown hown' hgrow hrel hstep
          · have hstep := Lib.hid (show Gl.plain (p.data.toList.drop k) = [92] ++ Gl.plain (p.data.toList.drop (k + 1)) by rw [hdc.out, byte_eq c2 (by decide), List.drop_of_length_le (by rw [← Go.Lib.size_eq]; omega)]; rw [Gl.plain_nil]; exact Gl.plain_esc1)
            have hnd : decide ((k : Int) + 1 < (p.size : Int)) = false := decide_eq_false (by omega)
            go_wp2_with (at_builtin; refine wpList_append_own _ rfl _ _ 37 rfl w.heap.size 5 i0 _ 1 1 Try.underlying37 hi hz0 hz1 hz2 rfl (by decide) _ _ _ rfl (hown.alloc _) ⟨wr.heap.size, 0, none⟩ 1 1 [.int .u8 92] rfl rfl (cells_new wr _ 5) (by intro u hu; simp at hu; subst hu; rfl) hfit.2 hfit.1 (by have := hB.size; have := hB.size; simp; omega) ?_; intro v' w2 hown' hgrow _)
            exact plain_turn (k' := k + 1) (x := [92]) (by omega) (by omega) hol (by simp; try omega) hB ((Below.refl _ _).alloc (Nat.le_refl _) _) hown hown' hgrow hrel hstep
        · have hstep := Lib.hid (show Gl.plain (p.data.toList.drop k) = [p[k]] ++ Gl.plain (p.data.toList.drop (k + 1)) by
            rw [hdc.out]
            exact Gl.plain_byte _ (fun e => c2 (by rw [e]; rfl)) (fun e => c1 (by rw [e]; rfl)))
          have d1 := beq_eq_false_iff_ne.2 c1; have d2 := beq_eq_false_iff_ne.2 c2
          clear c1 c2
          go_wp2_with (at_builtin; refine wpList_append_own _ rfl _ _ 37 rfl w.heap.size 5 i0 _ 1 1 Try.underlying37 hi hz0 hz1 hz2 rfl (by decide) _ _ _ rfl (hown.alloc _) ⟨wr.heap.size, 0, none⟩ 1 1 [.int .u8 p[k].toNat] rfl rfl (cells_new wr _ 5) (by intro u hu; simp at hu; subst hu; rfl) hfit.2 hfit.1 (by have := hB.size; have := hB.size; simp; omega) ?_; intro v' w2 hown' hgrow _)
          exact plain_turn (k' := k + 1) (x := [p[k]]) (by omega) (by omega) hol (by simp; try omega) hB ((Below.refl _ _).alloc (Nat.le_refl _) _) hown hown' hgrow hrel hstep
    · have hconv := convert_own hown
      have e := Lib.hid (show Gl.plain p.data.toList = o by
        rw [hrel.out, List.drop_of_length_le (by rw [← Go.Lib.size_eq]; omega), Gl.plain_nil, List.append_nil])
      go_wp2
      go_ret
      exact ⟨by rw [e.out]; rfl, hB⟩
end Go.Proofs.Ytfnmncghgmnaaaa
