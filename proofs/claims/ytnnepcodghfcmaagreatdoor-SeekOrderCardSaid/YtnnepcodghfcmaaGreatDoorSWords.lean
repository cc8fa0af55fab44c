/-
  The words of a text: the iterator, and Split. Conditions: texts of at most 2^40 bytes.
-/
import Derived.RangeFuncNested
import Derived.RangeFuncBound
import Derived.RangeFuncCalls
import Derived.RangeFuncLeaves
import Derived.RangeFuncBox
import Derived.Shelf.Abstract
import Derived.Shelf.RegionOpen
import Derived.OwnWalkIn
import Derived.TacticsInMore
import Derived.LoopNIn
import Derived.LoopIn
import Derived.Maps.AppendAt
import Derived.Test.YtnnepcodghfcmaaGreatDoorVBase
namespace Go.Proofs.YtnnepcodghfcmaaGreatDoor
open Go.RowKit Go.Shelf

attribute [local go_sem] Oper.semAt_some

def blankB (c : UInt8) : Bool := c == 32 || c == 9 || c == 10
/-- The words of a text, of which a word stands begun. -/
def wrun : Bs → Bs → List Bs
  | [], cur => if cur = [] then [] else [cur]
  | c :: r, cur => if blankB c = true then (if cur = [] then wrun r [] else cur :: wrun r []) else wrun r (cur ++ [c])
def wordsP (s : Bs) : List Bs := wrun s []
theorem wrun_blank {c : UInt8} (r : Bs) (h : blankB c = true) : wrun (c :: r) [] = wrun r [] := by rw [wrun, if_pos h, if_pos rfl]
theorem wrun_char {c : UInt8} (r cur : Bs) (h : blankB c = false) : wrun (c :: r) cur = wrun r (cur ++ [c]) := by rw [wrun, if_neg (by simp [h])]
theorem wrun_stop {d cur : Bs} (hd : d = [] ∨ ∃ c r, d = c :: r ∧ blankB c = true) (hc : cur ≠ []) : wrun d cur = cur :: wrun d [] := by
  rcases hd with rfl | ⟨c, r, rfl, hb⟩
  · rw [wrun, wrun, if_neg hc, if_pos rfl]
  · rw [wrun_blank r hb, wrun, if_pos hb, if_neg hc]
theorem wrun_len : ∀ (s cur : Bs), (wrun s cur).length ≤ s.length + cur.length
  | [], cur => by
    rw [wrun]; split
    · simp
    · rename_i h
      have : 0 < cur.length := List.length_pos_iff.2 h
      simp; omega
  | c :: r, cur => by
    rw [wrun]
    split
    · split
      · have := wrun_len r []; simp at this; simp; omega
      · rename_i h
        have := wrun_len r []; simp at this
        have : 0 < cur.length := List.length_pos_iff.2 h
        simp; omega
    · have := wrun_len r (cur ++ [c]); simp at this; simp; omega
theorem words_len (s : Bs) : (wordsP s).length ≤ s.length := by have := wrun_len s []; simpa [wordsP] using this
/-- The words as strings. -/
def wordsS (s : ByteArray) : List ByteArray := (wordsP s.data.toList).map mk
theorem wordsS_len (s : ByteArray) : (wordsS s).length ≤ s.size := by rw [wordsS, List.length_map, Go.Lib.size_eq]; exact words_len _
theorem blank_calls (c : UInt8) (w : World) : Calls Tryz.prog 62 #[.int .u8 c.toNat] w fun e w' => e = .returned (.bool (blankB c)) ∧ w' = w := by
  have hb : blankB c = (decide ((c.toNat : Int) = 32) || decide ((c.toNat : Int) = 9) || decide ((c.toNat : Int) = 10)) := by
    unfold blankB
    have e : ∀ k : UInt8, (c == k) = decide ((c.toNat : Int) = (k.toNat : Int)) := fun k => by
      rw [Bool.eq_iff_iff, beq_iff_eq, decide_eq_true_eq]
      exact ⟨fun h => by rw [h], fun h => UInt8.toNat_inj.1 (by omega)⟩
    rw [e, e, e]; rfl
  have hbb := Lib.hid hb
  clear hb
  by_cases h1 : (c.toNat : Int) = 32
  · have hv := Lib.hid (show blankB c = true by rw [hbb.out]; simp [h1])
    go_enter Tryz.func62, Tryz.ntmps62
    go_wp2
    go_ret
    exact ⟨by rw [hv.out]; rfl, rfl⟩
  by_cases h2 : (c.toNat : Int) = 9
  · have hv := Lib.hid (show blankB c = true by rw [hbb.out]; simp [h2])
    go_enter Tryz.func62, Tryz.ntmps62
    go_wp2
    go_ret
    exact ⟨by rw [hv.out]; rfl, rfl⟩
  by_cases h3 : (c.toNat : Int) = 10
  · have hv := Lib.hid (show blankB c = true by rw [hbb.out]; simp [h3])
    go_enter Tryz.func62, Tryz.ntmps62
    go_wp2
    go_ret
    exact ⟨by rw [hv.out]; rfl, rfl⟩
  · have hv := Lib.hid (show blankB c = false by rw [hbb.out]; simp [h1, h2, h3])
    go_enter Tryz.func62, Tryz.ntmps62
    go_wp2
    go_ret
    exact ⟨by rw [hv.out]; rfl, rfl⟩
theorem extract_take {s : ByteArray} {k j : Nat} : mk ((s.data.toList.drop k).take (j - k)) = s.extract k j := ba_ext (by rw [mk_list, Go.Lib.extract_data])
set_option maxRecDepth 100000 in
set_option maxHeartbeats 2000000 in
theorem words1_in (l B : Nat) (s : ByteArray) (hs : s.size ≤ 1099511627776) (m : Nat) (hm : 2 ≤ m) (J Jx : List ByteArray → World → Prop)
    (hY : ∀ pre x W, J pre W → pre.length < (wordsS s).length → YieldAt Fence.wide (m - 1) Tryz.prog l #[.string x] W fun e W' =>
      (e = .returned (.bool true) ∧ J (pre ++ [x]) W' ∧ W'.heap[B]? = W.heap[B]?) ∨ (e = .returned (.bool false) ∧ Jx (pre ++ [x]) W'))
    (W : World) (hBn : W.cell? ⟨B, 0, none⟩ = some (.string s)) (h0 : J [] W) :
    CallsIn Fence.wide m Tryz.prog 61 #[.func (.yield l) #[] #[], .pointer (some ⟨B, 0, none⟩)] W fun e W' => (∃ v, e = .returned v) ∧
      ((∃ ys, ys = wordsS s ∧ J ys W') ∨ (∃ pre, pre <+: wordsS s ∧ Jx pre W')) := by
  have hm1 : 1 ≤ m := by omega
  refine callsIn_of_wp Tryz.func61 rfl trivial ?_ rfl
  simp only [Tryz.ntmps61, List.size_toArray, List.length_cons, List.length_nil, Nat.reduceAdd, Nat.reduceSub, Array.replicate_succ, Array.replicate_zero, List.push_toArray, List.append_toArray, List.nil_append, List.cons_append]
  gi_wp2
  gi_loopw [3, 4] (fun iv _ wr => ∃ (k : Nat) (pre rest : List ByteArray), k ≤ s.size ∧ iv = .int .i64 k ∧ Hid (wordsS s = pre ++ rest) ∧ Hid (rest = (wrun (s.data.toList.drop k) []).map mk) ∧ Hid (J pre wr) ∧ wr.cell? ⟨B, 0, none⟩ = some (.string s)) (fun iv _ _ => s.size - (intOf iv).toNat)
  case atStart => exact ⟨0, [], wordsS s, Nat.zero_le _, rfl, Lib.hid rfl, Lib.hid rfl, Lib.hid h0, hBn⟩
  case round =>
    obtain ⟨k, pre, rest, hk, rfl, hpre, hrest, hJ, hcell⟩ := hrel
    by_cases hlt : k < s.size
    · have y0 : (k : Int) < (s.size : Int) := by omega
      cases hb : blankB (s[k]'hlt) with
      | true =>
        have hr2 := Lib.hid (show rest = (wrun (s.data.toList.drop (k + 1)) []).map mk by rw [hrest.out, drop_cons hlt, wrun_blank _ hb])
        gi_wp2_with (refine ⟨trivial, ?_⟩; gi_at_call 62; refine (callsIn_wide.2 (blank_calls (s[k]'hlt) _)).mono ?_; rintro e w' ⟨rfl, rfl⟩; rw [hb])
        go_roundw
        case rel => exact ⟨k + 1, pre, rest, by omega, by go_num, hpre, hr2, hJ, hcell⟩
        case measure => simp [intOf]; omega
      | false =>
        gi_wp2_with (refine ⟨trivial, ?_⟩; gi_at_call 62; refine (callsIn_wide.2 (blank_calls (s[k]'hlt) _)).mono ?_; rintro e w' ⟨rfl, rfl⟩; rw [hb])
        gi_loopw [3] (fun jv wr => ∃ j : Nat, k ≤ j ∧ j ≤ s.size ∧ jv = .int .i64 j ∧ Hid (wrun (s.data.toList.drop k) [] = wrun (s.data.toList.drop j) ((s.data.toList.drop k).take (j - k))) ∧ Hid (J pre wr) ∧ wr.cell? ⟨B, 0, none⟩ = some (.string s)) (fun jv _ => s.size - (intOf jv).toNat)
        case atStart => exact ⟨k, Nat.le_refl _, hk, rfl, Lib.hid (by rw [Nat.sub_self, List.take_zero]), hJ, hcell⟩
        case round =>
          obtain ⟨j, hkj, hj, rfl, hw, hJ2, hcell2⟩ := hrel
          have hlast := Lib.hid (show (s.data.toList.drop j = [] ∨ ∃ c r, s.data.toList.drop j = c :: r ∧ blankB c = true) → ∃ rest', rest = s.extract k j :: rest' ∧ rest' = (wrun (s.data.toList.drop j) []).map mk from fun hd => by
            have hne : (s.data.toList.drop k).take (j - k) ≠ [] := by
              intro e
              have hl := congrArg List.length e
              rw [List.length_take, List.length_drop, ← Go.Lib.size_eq, List.length_nil] at hl
              have hjk : j = k := by omega
              subst hjk
              rcases hd with hd | ⟨c, r, hd, hc⟩
              · rw [drop_cons hlt] at hd; cases hd
              · rw [drop_cons hlt] at hd
                injection hd with hd
                rw [← hd, hb] at hc; cases hc
            refine ⟨_, ?_, rfl⟩
            rw [hrest.out, hw.out, wrun_stop hd hne, List.map_cons, extract_take])
          by_cases hjl : j < s.size
          · have y1 : (j : Int) < (s.size : Int) := by omega
            cases hc : blankB (s[j]'hjl) with
            | false =>
              have hw2 := Lib.hid (show wrun (s.data.toList.drop k) [] = wrun (s.data.toList.drop (j + 1)) ((s.data.toList.drop k).take (j + 1 - k)) by
                rw [hw.out, drop_cons hjl, wrun_char _ _ hc]
                congr 1
                rw [show j + 1 - k = (j - k) + 1 by omega, List.take_add_one]
                congr 1
                rw [List.getElem?_drop, show k + (j - k) = j by omega, List.getElem?_eq_getElem (by rw [← Go.Lib.size_eq]; exact hjl)]
                rfl)
              gi_wp2_with (refine ⟨trivial, ?_⟩; gi_at_call 62; refine (callsIn_wide.2 (blank_calls (s[j]'hjl) _)).mono ?_; rintro e w' ⟨rfl, rfl⟩; rw [hc])
              go_roundw
              case rel => exact ⟨j + 1, by omega, by omega, by go_num, hw2, hJ2, hcell2⟩
              case measure => simp [intOf]; omega
            | true =>
              obtain ⟨rest', hr1, hr2'⟩ := hlast.out (Or.inr ⟨_, _, drop_cons hjl, hc⟩)
              have kr1 := Lib.hid hr1
              have kr2 := Lib.hid hr2'
              have hkj2 : k < j := by
                refine Nat.lt_of_le_of_ne hkj (fun e => ?_)
                subst e
                rw [hb] at hc; cases hc
              clear hr1 hr2' hlast hw
              obtain ⟨fn, tmps, assign, body, hy, hR⟩ := hY pre (s.extract k j) wr hJ2.out (by rw [hpre.out, kr1.out]; simp)
              have y2 : (0 : Int) ≤ (k : Int) := by omega
              have y3 : (k : Int) ≤ (j : Int) := by omega
              have y4 : (j : Int) ≤ (s.size : Int) := by omega
              gi_wp2_with (refine ⟨trivial, ?_⟩; gi_at_call 62; refine (callsIn_wide.2 (blank_calls (s[j]'hjl) _)).mono ?_; rintro e w' ⟨rfl, rfl⟩; rw [hc])
              refine hR.mono ?_
              rintro e W3 (⟨rfl, hJ3, hk3⟩ | ⟨rfl, hJx3⟩)
              · have hc3 := (World.cell?_of_block (a := ⟨B, 0, none⟩) hk3).trans hcell2
                gi_wp2
                go_roundw
                case rel => exact ⟨j, pre ++ [s.extract k j], rest', hj, rfl, Lib.hid (by rw [hpre.out, kr1.out, List.append_assoc]; rfl), kr2, Lib.hid hJ3, hc3⟩
                case measure => simp [intOf]; omega
              · gi_wp2
                refine bodyPost_ret (results_none rfl _ _ _) rfl ?_
                exact ⟨⟨_, rfl⟩, .inr ⟨pre ++ [s.extract k j], ⟨rest', by rw [hpre.out, kr1.out, List.append_assoc]; rfl⟩, hJx3⟩⟩
          · have y1 : ¬ (j : Int) < (s.size : Int) := by omega
            obtain ⟨rest', hr1, hr2'⟩ := hlast.out (Or.inl (List.drop_of_length_le (by rw [← Go.Lib.size_eq]; omega)))
            have kr1 := Lib.hid hr1
            have kr2 := Lib.hid hr2'
            have hkj2 : k < j := by omega
            clear hr1 hr2' hlast hw
            obtain ⟨fn, tmps, assign, body, hy, hR⟩ := hY pre (s.extract k j) wr hJ2.out (by rw [hpre.out, kr1.out]; simp)
            have y2 : (0 : Int) ≤ (k : Int) := by omega
            have y3 : (k : Int) ≤ (j : Int) := by omega
            have y4 : (j : Int) ≤ (s.size : Int) := by omega
            gi_wp2_with ((with_reducible refine And.intro ?_ ?_); exact trivial)
            refine hR.mono ?_
            rintro e W3 (⟨rfl, hJ3, hk3⟩ | ⟨rfl, hJx3⟩)
            · have hc3 := (World.cell?_of_block (a := ⟨B, 0, none⟩) hk3).trans hcell2
              gi_wp2
              go_roundw
              case rel => exact ⟨j, pre ++ [s.extract k j], rest', hj, rfl, Lib.hid (by rw [hpre.out, kr1.out, List.append_assoc]; rfl), kr2, Lib.hid hJ3, hc3⟩
              case measure => simp [intOf]; omega
            · gi_wp2
              refine bodyPost_ret (results_none rfl _ _ _) rfl ?_
              exact ⟨⟨_, rfl⟩, .inr ⟨pre ++ [s.extract k j], ⟨rest', by rw [hpre.out, kr1.out, List.append_assoc]; rfl⟩, hJx3⟩⟩
    · have hke : k = s.size := by omega
      have hn := Lib.hid (show rest = [] by rw [hrest.out, hke, List.drop_of_length_le (by rw [← Go.Lib.size_eq]; exact Nat.le_refl _)]; rfl)
      have y0 : ¬ (k : Int) < (s.size : Int) := by omega
      gi_wp2
      go_end0
      exact ⟨⟨_, rfl⟩, .inl (by have e := hpre.out; rw [hn.out, List.append_nil] at e; rw [e]; exact hJ.out)⟩
theorem owns_base {w : World} {B B' : Nat} {e : TypeId} {size k : Nat} {v : Value} {xs : List Value} (h : w.ownsRow B e size v k xs) (hB : B' ≤ B) : w.ownsRow B' e size v k xs :=
  ⟨h.1, h.2.elim Or.inl (fun ⟨g, cap, cur, hv, hg, r⟩ => Or.inr ⟨g, cap, cur, hv, Nat.le_trans hB hg, r⟩)⟩
/-- What a body owes behind 'out = append(out, x)': the box lies below the row's own blocks. -/
theorem boxed_append {W w1 : World} {B base : Nat} {t e : TypeId} {size k m : Nat} {v v' : Value} {xs ys : List Value} {tmp : Obj} (hv : Boxed W B t v) (hrow : W.ownsRow base e size v k xs) (hB : B < base) (hbs : base ≤ W.heap.size) (hown' : w1.ownsRow base e size v' m ys) (hgrow : (W.alloc tmp).grownBy w1 v.ownBlock) :
    Boxed w1 B t v ∧ Boxed (w1.setCell ⟨B, 0, none⟩ v') B t v' ∧ (w1.setCell ⟨B, 0, none⟩ v').ownsRow base e size v' m ys ∧ KeepsOthers W (w1.setCell ⟨B, 0, none⟩ v') ∧ ∀ n₀, n₀ ≤ base → n₀ ≤ B ∨ n₀ = base → (n₀ ≤ B → Below n₀ W (w1.setCell ⟨B, 0, none⟩ v')) ∧ ∀ j, j < base → j ≠ B → (w1.setCell ⟨B, 0, none⟩ v').heap[j]? = W.heap[j]? := by
  have hne : some B ≠ v.ownBlock := fun h => by have := (hrow.lt B h.symm).1; omega
  have hne' : some B ≠ v'.ownBlock := fun h => by have := (hown'.lt B h.symm).1; omega
  have hv1 : Boxed w1 B t v := (hv.alloc tmp).kept hgrow hne
  have hold : ∀ j, j < base → j ≠ B → (w1.setCell ⟨B, 0, none⟩ v').heap[j]? = W.heap[j]? := fun j hj hjB =>
    (Below.heap_setCell _ _ _ _ hjB).trans ((hgrow.block j (by simp; omega) (fun h => by have := (hrow.lt j h.symm).1; omega)).trans (Below.heap_alloc W tmp j (by omega)))
  refine ⟨hv1, hv1.set v', hown'.kept (grownBy_setCell' w1 B v') (.inr hne'.symm), ?_, fun n₀ hn hn' => ⟨fun hnB => ?_, hold⟩⟩
  · refine ((KeepsOthers.alloc W tmp).trans (KeepsOthers.of_grownBy hgrow fun j o ej hj => ?_)).trans (KeepsOthers.setCell _ _ _)
    rcases (hrow.alloc tmp).2 with ⟨rfl, _⟩ | ⟨g, cap, cur, rfl, _, hgb, _⟩
    · simp [Value.ownBlock] at ej
    · obtain rfl : g = j := by simpa [Value.ownBlock] using ej
      rw [hgb] at hj; cases hj; rfl
  · have hz := hgrow.size
    simp at hz
    exact ⟨hgrow.os, hgrow.tape, hgrow.output, by simp [World.setCell]; omega, fun j hj => hold j (by omega) (by omega)⟩
theorem words_calls (s : ByteArray) (w : World) : Calls Tryz.prog 44 #[.string s] w fun e w' => e = .returned (.func (.func 61) #[] #[.pointer (some ⟨w.heap.size, 0, none⟩)]) ∧ w' = w.alloc (.cells #[.string s] 9) := by
  go_enter Tryz.func44, Tryz.ntmps44
  go_wp2
  go_ret
  exact ⟨rfl, rfl⟩
theorem words_stops (B : Nat) (s : ByteArray) (hs : s.size ≤ 1099511627776) (m : Nat) (hm : 2 ≤ m) (w : World) (hB : B < w.heap.size) (hc : w.cell? ⟨B, 0, none⟩ = some (.string s)) :
    SeqStopsK Fence.wide m Tryz.prog 61 #[.pointer (some ⟨B, 0, none⟩)] (fun x : ByteArray => #[Value.string x]) (fun W W' => W'.heap[B]? = W.heap[B]?) (fun ys => ys = wordsS s) (fun pre => pre <+: wordsS s) (wordsS s).length w := fun l J Jx W hW _ _ hY h0 =>
  words1_in l B s hs m hm J Jx hY W ((hW.cell (p := ⟨B, 0, none⟩) hB).trans hc) h0
set_option maxRecDepth 100000 in
set_option maxHeartbeats 2000000 in
/-- Split. -/
theorem tsplit_calls (s : ByteArray) (hs : s.size ≤ 1099511627776) (w : World) : Calls Tryz.prog 28 #[.string s] w fun e w' => ∃ v, e = .returned v ∧ w'.ownsRow w.heap.size 9 1 v (wordsS s).length (scells (wordsS s)) ∧ Below w.heap.size w w' := by
  have hlen := wordsS_len s
  refine (callsIn_wide (n := 9)).1 ?_
  obtain ⟨i0, hi, hz0, hz1, hz2⟩ := info_parts infoStr
  refine callsIn_of_wp_marks Tryz.func28 rfl trivial ?_ rfl
  simp only [Tryz.ntmps28, List.size_toArray, List.length_cons, List.length_nil, Nat.reduceAdd, Nat.reduceSub, Array.replicate_succ, Array.replicate_zero, List.push_toArray, List.append_toArray, List.nil_append, List.cons_append]
  gi_wp2_with (refine ⟨trivial, ?_⟩; gi_at_call 44; refine (callsIn_wide.2 (words_calls s _)).mono ?_; rintro e w' ⟨rfl, rfl⟩)
  have bO := Boxed.new w 35 (.slice none 0 0)
  have bN := Boxed.new (w.alloc (.cells #[.slice none 0 0] 35)) 9 (.string s)
  rw [World.size_alloc] at bN
  have hB0 : Below w.heap.size w ((w.alloc (.cells #[.slice none 0 0] 35)).alloc (.cells #[.string s] 9)) := ((Below.refl _ w).alloc (Nat.le_refl _) _).alloc (by simp) _
  refine wpIn_rangeFunc_ownG rfl (by omega) (gf := 61) (lb := #[.pointer (some ⟨w.heap.size + 1, 0, none⟩)]) rfl trivial (enters_of Tryz.func61 (by kernel_rfl) rfl)
    (words_stops (w.heap.size + 1) s hs _ (by omega) _ (by simp) bN.cell) (fun h k => k.trans h) (fun W l o o' hl _ _ _ => World.putObj_heap_other (by simp at hl; omega)) (Below.refl _ _) (fun _ => rfl)
    (fun pre W => (∃ v, Boxed W w.heap.size 35 v ∧ W.ownsRow (w.heap.size + 2) 9 1 v pre.length (scells pre) ∧ True) ∧ Below w.heap.size w W ∧ w.heap.size + 2 ≤ W.heap.size)
    (fun _ _ _ => False)
    (OwnFrom.and (Own.from (holdsRow_own (w.heap.size + 2) w.heap.size 35 9 1 (fun pre => pre.length) (fun pre => scells pre) (fun _ _ => True)) _) (OwnFrom.and (ownFrom_below (Nat.le_refl _) (by simp; omega)) (fun _ W W' row hs hg _ => Nat.le_trans hs hg.size)))
    (fun _ _ _ _ _ hs _ _ => hs)
    ⟨⟨_, bO.alloc _, World.ownsRow_nil _ _ _ _, trivial⟩, hB0, by simp⟩
    (fun x => { tmps := #[.string s, undef, .slice none 0 0, .pointer (some ⟨w.heap.size, 0, none⟩), .string x, .string s, .func (.func 61) #[] #[.pointer (some ⟨w.heap.size + 1, 0, none⟩)], .string x, undef, undef, undef, undef, undef], defers := [] }) ?assign ?body ?done ?stop
  case assign =>
    intro l x W K hK
    gi_wp2
    exact hK
  case body =>
    rintro l pre x W ⟨⟨v, hv, hrow, -⟩, hB, hz⟩ hlt
    have hc := hv.cell
    gi_wp2_with (gi_at_builtin; refine wpListIn_append_own _ rfl _ _ 35 rfl (w.heap.size + 2) 9 i0 (.string ⟨#[]⟩) 1 16 Tryz.underlying35 hi hz0 hz1 hz2 rfl (by decide) _ _ _ rfl (hrow.alloc _) ⟨W.heap.size, 0, none⟩ 1 1 [.string x] rfl rfl (cell_one_new _ _ _) (by simp [Value.oneCell']) (by unfold maxLen; omega) (by omega) (by simp; omega) ?_; intro v' w1 hown' hgrow _; obtain ⟨g', cap', rfl⟩ := ownsRow_succ hown'; obtain ⟨hv1, hv2, hr2, hk2, hb2⟩ := boxed_append hv hrow (by omega) hz hown' hgrow; have hc1 := hv1.cell; have hf1 := hv1.frozen)
    obtain ⟨hb3, hb4⟩ := hb2 w.heap.size (by omega) (Or.inl (Nat.le_refl _))
    exact ⟨hk2.from _, hb4 _ (by omega) (by omega), ⟨_, hv2, by simpa [scells] using hr2, trivial⟩, hB.trans (hb3 (Nat.le_refl _)), Nat.le_trans hz (hb3 (Nat.le_refl _)).size⟩
  case done =>
    rintro D ys W hD rfl ⟨⟨v, hv, hrow, -⟩, hB, hz⟩ hK
    have hc := hv.cell
    gi_wp2
    refine ⟨by simp, .inl ⟨_, _, rfl, run_takeDeferred hK, ?_⟩⟩
    exact ⟨_, results_tmp rfl _ _ _, v, rfl, owns_base (ownsRow_putObj hrow _ hK rfl) (by omega), hB.trans (belowK_b (w := w) (Nat.le_refl _) W D _ _ (by simp at hD; omega) hK rfl rfl)⟩
  case stop =>
    rintro D c pre W _ _ h _
    exact h.elim
end Go.Proofs.YtnnepcodghfcmaaGreatDoor
