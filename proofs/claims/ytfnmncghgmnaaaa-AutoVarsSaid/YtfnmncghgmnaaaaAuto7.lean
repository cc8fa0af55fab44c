/-
  The automatic variables' names (function 27).
-/
import Derived.Test.YtfnmncghgmnaaaaAuto6
import Derived.Deep.CutBlock
import Derived.Deep.DeepCutAuto
namespace Go.Proofs.Ytfnmncghgmnaaaa
open Go.RowKit

theorem strsAt_nil (w : World) : StrsAt w (.slice none 0 0) [] := ⟨none, 0, 0, rfl, rfl, Nat.le_refl _, Nat.zero_le _, fun h => absurd h (Nat.lt_irrefl _), fun _ => rfl⟩
def nameB (c : UInt8) : ByteArray := ⟨#[c]⟩
def eight : List UInt8 := [64, 37, 60, 94, 43, 63, 124, 42]
def namesV : Value := .agg #[.string ⟨#[64]⟩, .string ⟨#[37]⟩, .string ⟨#[60]⟩, .string ⟨#[94]⟩, .string ⟨#[43]⟩, .string ⟨#[63]⟩, .string ⟨#[124]⟩, .string ⟨#[42]⟩]

set_option maxHeartbeats 400000 in
theorem names_calls (w : World) : Calls Try.prog 27 #[] w fun e w' => e = .returned namesV ∧ Below w.heap.size w w' := by
  go_enter Try.func27, Try.ntmps27
  go_wp2
  exact bodyPost_ret (v := namesV) (by unfold namesV; simp [results, Try.results27, go_sem]) rfl ⟨rfl, (Below.refl _ _).alloc (Nat.le_refl _) _⟩

theorem info40 : (Try.prog.info? 40).map (fun i => (i.zero, i.size, i.bytes)) = some (some (.agg #[.string ⟨#[]⟩, .string ⟨#[]⟩]), 2, 32) := by kernel_rfl

/-- Pairs as their cells lie one behind the other. -/
def prcells (l : List (ByteArray × ByteArray)) : List Value := l.flatMap fun p => [.string p.1, .string p.2]
theorem prcells_at : ∀ (l : List (ByteArray × ByteArray)) (k : Nat) (p : ByteArray × ByteArray), l[k]? = some p → (prcells l)[k * 2]? = some (.string p.1) ∧ (prcells l)[k * 2 + 1]? = some (.string p.2)
  | [], k, p, h => by simp at h
  | q :: l, 0, p, h => by simp at h; subst h; exact ⟨rfl, rfl⟩
  | q :: l, k + 1, p, h => by
    simp at h
    have ih := prcells_at l k p h
    have e : prcells (q :: l) = [.string q.1, .string q.2] ++ prcells l := rfl
    rw [e, show (k + 1) * 2 = k * 2 + 2 by omega, show k * 2 + 2 + 1 = k * 2 + 1 + 2 by omega]
    exact ⟨by rw [List.getElem?_append_right (by simp)]; simpa using ih.1, by rw [List.getElem?_append_right (by simp)]; simpa using ih.2⟩
theorem pairsAt_own {w : World} {base : Nat} {v : Value} {l : List (ByteArray × ByteArray)} (h : w.ownsRow base 40 2 v l.length (prcells l)) (hl : 0 < l.length) : PairsAt w v l := by
  have hc := fun g => h.cells (g := g)
  obtain ⟨_, h⟩ := h
  rcases h with ⟨rfl, hn⟩ | ⟨g, cap, cur, rfl, hb, hg, hn, hm, _⟩
  · omega
  · have ad : ∀ j, (⟨g, 0, none⟩ : Addr).add j = ⟨g, j, none⟩ := fun j => by unfold Addr.add; split <;> simp_all
    refine ⟨g, 0, cap, rfl, hn, hm, heap_lt hg, fun k p hk => ?_⟩
    obtain ⟨h1, h2⟩ := prcells_at l k p hk
    refine ⟨?_, ?_⟩
    · rw [Nat.zero_add, ← ad]; exact hc g rfl _ _ h1
    · rw [Nat.zero_add, ← ad]; exact hc g rfl _ _ h2
/-- The k-th name, as the machine indexes it. -/
theorem name_index (k : Nat) (hk : k < 8) : ∃ c : UInt8, eight[k]? = some c ∧ ∀ W : World, (Instr.index 45 namesV (.int .i64 (k : Int))).run Try.prog W = .ok (.string (nameB c)) W :=
  match k, hk with
  | 0, _ => ⟨64, rfl, fun _ => by kernel_rfl⟩
  | 1, _ => ⟨37, rfl, fun _ => by kernel_rfl⟩
  | 2, _ => ⟨60, rfl, fun _ => by kernel_rfl⟩
  | 3, _ => ⟨94, rfl, fun _ => by kernel_rfl⟩
  | 4, _ => ⟨43, rfl, fun _ => by kernel_rfl⟩
  | 5, _ => ⟨63, rfl, fun _ => by kernel_rfl⟩
  | 6, _ => ⟨124, rfl, fun _ => by kernel_rfl⟩
  | 7, _ => ⟨42, rfl, fun _ => by kernel_rfl⟩

/-- The eight values. -/
def auto8 (name stem : ByteArray) (prereqs orders newer : List ByteArray) : List ByteArray :=
  [match splitOf name with | some (a, _) => a | none => name, match splitOf name with | some (_, b) => b | none => ⟨#[]⟩, match prereqs with | p :: _ => p | [] => ⟨#[]⟩,
   ⟨(jn (onceTo [] [] prereqs)).toArray⟩, ⟨(jn prereqs).toArray⟩, ⟨(jn (onceTo [] [] newer)).toArray⟩, ⟨(jn (onceTo prereqs [] orders)).toArray⟩, stem]
def autoP (name stem : ByteArray) (prereqs orders newer : List ByteArray) : List (ByteArray × ByteArray) := (eight.map nameB).zip (auto8 name stem prereqs orders newer)

theorem once_wt : ∀ (but out l : List ByteArray), wt (onceTo but out l) ≤ wt out + wt l
  | but, out, [] => by simp [onceTo, wt]
  | but, out, x :: l => by
    rw [onceTo]
    have h := once_wt but (if inL x out || inL x but then out else out ++ [x]) l
    split at h
    · rename_i hc; rw [if_pos hc]; simp only [wt]; omega
    · rename_i hc; rw [if_neg hc]; rw [wt_append] at h; simp only [wt] at h ⊢; omega

set_option maxHeartbeats 2000000 in
theorem vars_calls (name stem : ByteArray) (vp vo vn : Value) (p o n : List ByteArray) (w : World) (hn : name.size ≤ 9223372036854775807) (hp : StrsAt w vp p) (ho : StrsAt w vo o) (hnn : StrsAt w vn n)
    (zp : wt p ≤ 1000000) (zo : wt o ≤ 1000000) (zn : wt n ≤ 1000000) :
    Calls Try.prog 12 #[.string name, .string stem, vp, vo, vn] w fun e w' => ∃ v, e = .returned v ∧ PairsAt w' v (autoP name stem p o n) ∧ Below w.heap.size w w' := by
  have hcall := Lib.hid (split_calls name w hn)
  have hpp := Lib.hid hp
  obtain ⟨a, m, c, rfl, hm0, hc, hm, hcell, _⟩ := hp
  have hm' := Lib.hid hm0
  have hce := Lib.hid hcell
  clear hm0 hcell
  obtain ⟨A, hA⟩ : ∃ A, A = (match splitOf name with | some (a, _) => a | none => name) := ⟨_, rfl⟩
  obtain ⟨M, hM⟩ : ∃ M, M = (match splitOf name with | some (_, b) => b | none => ⟨#[]⟩) := ⟨_, rfl⟩
  obtain ⟨F, hF⟩ : ∃ F, F = (match p with | x :: _ => x | [] => (⟨#[]⟩ : ByteArray)) := ⟨_, rfl⟩
  obtain ⟨ok, hok⟩ : ∃ ok, ok = (splitOf name).isSome := ⟨_, rfl⟩
  obtain ⟨A0, hA0⟩ : ∃ A0, A0 = (match splitOf name with | some (a, _) => a | none => (⟨#[]⟩ : ByteArray)) := ⟨_, rfl⟩
  have hsv := Lib.hid (show splitVal name = .tuple #[.string A0, .string M, .bool ok] by rw [hA0, hM, hok]; unfold splitVal; cases splitOf name <;> rfl)
  have hAA := Lib.hid (show (ok = true → A = A0) ∧ (ok = false → A = name) by rw [hA, hA0, hok]; cases splitOf name <;> simp)
  have hFF := Lib.hid hF
  have hfin := Lib.hid (show autoP name stem p o n = (eight.map nameB).zip [A, M, F, ⟨(jn (onceTo [] [] p)).toArray⟩, ⟨(jn p).toArray⟩, ⟨(jn (onceTo [] [] n)).toArray⟩, ⟨(jn (onceTo p [] o)).toArray⟩, stem] by rw [hA, hM, hF]; rfl)
  clear hA hM hF hok hA0
  go_enter Try.func12, Try.ntmps12
  go_wp2_with fail
  refine (hcall.out).mono ?_
  rintro e w1 ⟨rfl, hB1⟩
  rw [hsv.out]
  go_upto_if 26 with (fail)
  go_cut [11] (fun v11 wc => v11 = .string A ∧ wc = w1)
  case first =>
    cases ok with
    | true =>
      have hAe := Lib.hid (hAA.out.1 rfl)
      go_wp2
      go_meet
      case rel => exact ⟨by rw [hAe.out], rfl⟩
    | false =>
      have hAe := Lib.hid (hAA.out.2 rfl)
      go_wp2
      go_meet
      case rel => exact ⟨by rw [hAe.out], rfl⟩
  case rest =>
    obtain ⟨rfl, rfl⟩ := hcut
    go_upto_if 30 with (fail)
    go_cut [14] (fun v14 wd => v14 = .string F ∧ wd = wc)
    case first =>
      cases p with
      | nil =>
        have hm0 : m = 0 := by rw [hm'.out]; rfl
        subst hm0
        go_wp2
        go_meet
        case rel => exact ⟨by rw [hFF.out], rfl⟩
      | cons x r =>
        have h0 : 0 < m := by rw [hm'.out]; simp
        obtain ⟨b, off, rfl, hb, hcells⟩ := hce.out h0
        have hck := (hB1.cell (p := ⟨b, off, none⟩) hb).trans (hcells 0 x rfl)
        clear hcells
        go_wp2
        go_meet
        case rel => exact ⟨by rw [hFF.out], rfl⟩
    case rest =>
      obtain ⟨rfl, rfl⟩ := hcut
      have hoo := Lib.hid ho
      have hno := Lib.hid hnn
      have lp := Nat.le_trans (wt_len p) zp
      have lo := Nat.le_trans (wt_len o) zo
      have ln := Nat.le_trans (wt_len n) zn
      have u1 : wt (onceTo [] [] p) ≤ 1000000000 := Nat.le_trans (once_wt [] [] p) (by simp only [wt]; omega)
      have u2 : wt (onceTo [] [] n) ≤ 1000000000 := Nat.le_trans (once_wt [] [] n) (by simp only [wt]; omega)
      have u3 : wt (onceTo p [] o) ≤ 1000000000 := Nat.le_trans (once_wt p [] o) (by simp only [wt]; omega)
      have u4 : wt p ≤ 1000000000 := by omega
      clear ho hnn
      go_wp2_with fail
      refine (once_calls _ _ p [] _ (hpp.out.below hB1) (strsAt_nil _) lp).mono ?_
      rintro e w2 ⟨v2, rfl, hown2, hb2⟩
      have hB2 := hb2.mono' hB1
      go_wp2_with fail
      refine (join_calls _ _ _ (strsAt_own hown2) u1).mono ?_
      rintro e w3 ⟨rfl, hb3⟩
      have hB3 := hb3.mono' hB2
      go_wp2_with fail
      refine (join_calls _ p _ (hpp.out.below hB3) u4).mono ?_
      rintro e w4 ⟨rfl, hb4⟩
      have hB4 := hb4.mono' hB3
      go_wp2_with fail
      refine (once_calls _ _ n [] _ (hno.out.below hB4) (strsAt_nil _) ln).mono ?_
      rintro e w5 ⟨v5, rfl, hown5, hb5⟩
      have hB5 := hb5.mono' hB4
      go_wp2_with fail
      refine (join_calls _ _ _ (strsAt_own hown5) u2).mono ?_
      rintro e w6 ⟨rfl, hb6⟩
      have hB6 := hb6.mono' hB5
      go_wp2_with fail
      refine (once_calls _ _ o p _ (hoo.out.below hB6) (hpp.out.below hB6) lo).mono ?_
      rintro e w7 ⟨v7, rfl, hown7, hb7⟩
      have hB7 := hb7.mono' hB6
      go_wp2_with fail
      refine (join_calls _ _ _ (strsAt_own hown7) u3).mono ?_
      rintro e w8 ⟨rfl, hb8⟩
      have hB8 := hb8.mono' hB7
      clear hown2 hb2 hb3 hb4 hown5 hb5 hb6 hown7 hb7 hb8 hB2 hB3 hB4 hB5 hB6 hB7 hB1
      generalize (⟨(jn (onceTo [] [] p)).toArray⟩ : ByteArray) = j1 at hfin ⊢
      generalize (⟨(jn p).toArray⟩ : ByteArray) = j2 at hfin ⊢
      generalize (⟨(jn (onceTo [] [] n)).toArray⟩ : ByteArray) = j3 at hfin ⊢
      generalize (⟨(jn (onceTo p [] o)).toArray⟩ : ByteArray) = j4 at hfin ⊢
      go_wp2_with fail
      refine (names_calls _).mono ?_
      rintro e w9 ⟨rfl, hb9⟩
      obtain ⟨i0, hi, hz0, hz1, hz2⟩ := info_parts info40
      have hB9 : Below w.heap.size w w9 := hb9.mono' (below_al hB8)
      obtain ⟨g8, hg8⟩ : ∃ g8, g8 = w8.heap.size := ⟨_, rfl⟩
      have hgl : g8 < w9.heap.size := by have := hb9.size; simp at this; omega
      have hcells : ∀ (k : Nat) (s : ByteArray), [A, M, F, j1, j2, j3, j4, stem][k]? = some s → w9.cell? ⟨g8, k, none⟩ = some (.string s) := by
        intro k s hk
        rw [hb9.cell (p := ⟨g8, k, none⟩) (by show g8 < _; simp; omega), hg8]
        unfold World.cell?
        rw [heap_alloc_new]
        simp only [Option.isSome_none, Bool.false_eq_true, if_false]
        have : k < 8 := by have := (List.getElem?_eq_some_iff.1 hk).1; simpa using this
        match k, this, hk with
        | 0, _, hk => simp at hk; subst hk; rfl
        | 1, _, hk => simp at hk; subst hk; rfl
        | 2, _, hk => simp at hk; subst hk; rfl
        | 3, _, hk => simp at hk; subst hk; rfl
        | 4, _, hk => simp at hk; subst hk; rfl
        | 5, _, hk => simp at hk; subst hk; rfl
        | 6, _, hk => simp at hk; subst hk; rfl
        | 7, _, hk => simp at hk; subst hk; rfl
      have hce2 := Lib.hid hcells
      obtain ⟨L, hL⟩ : ∃ L, L = (eight.map nameB).zip [A, M, F, j1, j2, j3, j4, stem] := ⟨_, rfl⟩
      rw [← hL] at hfin
      have hLk := Lib.hid (show ∀ (k : Nat) (c : UInt8) (s : ByteArray), eight[k]? = some c → [A, M, F, j1, j2, j3, j4, stem][k]? = some s → L[k]? = some (nameB c, s) from fun k c s h1 h2 => by
        rw [hL, List.getElem?_zip_eq_some]; exact ⟨by rw [List.getElem?_map, h1]; rfl, h2⟩)
      have hL8 := Lib.hid (show L.length = 8 by rw [hL]; simp [eight])
      clear hL hcells
      rw [← hg8]
      clear hg8 hb9 hB8
      go_wp2_with fail
      go_loopw [16, 52] (fun v i wr => ∃ k : Nat, k ≤ 8 ∧ i = .int .i64 k ∧ wr.ownsRow w9.heap.size 40 2 v k (prcells (L.take k)) ∧ Below w9.heap.size w9 wr) (fun _ i _ => 8 - (intOf i).toNat)
      case atStart => exact ⟨0, Nat.zero_le _, rfl, World.ownsRow_nil _ _ _ _, Below.refl _ _⟩
      case round =>
        obtain ⟨k, hk, rfl, hown, hBk⟩ := hrel
        by_cases hlt : k < 8
        · obtain ⟨ch, hch, hix⟩ := name_index k hlt
          obtain ⟨s, hs⟩ : ∃ s, [A, M, F, j1, j2, j3, j4, stem][k]? = some s := ⟨_, List.getElem?_eq_getElem (by simpa using hlt)⟩
          have hcell := (hBk.cell (p := ⟨g8, k, none⟩) hgl).trans (hce2.out k s hs)
          have hnx := Lib.hid (hLk.out k ch s hch hs)
          obtain ⟨cn, hcn⟩ : ∃ cn, cn = nameB ch := ⟨_, rfl⟩
          rw [← hcn] at hix hnx
          have hfit : (k + 1) * 32 ≤ 140737488355328 ∧ k + 1 ≤ maxLen := by unfold maxLen; omega
          have hB9s := hB9.size
          clear hch hs hcn
          go_wp2_with (at_builtin; refine wpList_append_own _ rfl _ _ 26 rfl w9.heap.size 40 i0 _ 2 32 Try.underlying26 hi hz0 hz1 hz2 rfl (by decide) _ _ _ rfl (hown.alloc _) ⟨wr.heap.size, 0, none⟩ 1 1 [.string cn, .string s] rfl rfl (cells_new wr _ 40) (by intro u hu; simp at hu; rcases hu with rfl | rfl <;> rfl) hfit.2 hfit.1 (by have := hBk.size; simp; omega) ?_; intro v' w10 hown' hgrow _)
          exact ⟨⟨k + 1, by omega, by go_num, by rw [take_more hnx.out, prcells, List.flatMap_append]; exact hown', (hBk.alloc hBk.size _).grown hgrow (by have := hBk.size; simp; omega) (fun k e => (hown.lt k e).1)⟩, by simp [intOf]; omega⟩
        · have e : k = 8 := by omega
          subst e
          have hlt8 := Lib.hid (show L.take 8 = L from List.take_of_length_le (by rw [hL8.out]; exact Nat.le_refl _))
          go_wp2
          go_ret
          rw [hlt8.out] at hown
          rw [hfin.out]
          exact ⟨_, rfl, pairsAt_own (by rw [hL8.out]; exact hown) (by rw [hL8.out]; decide), hBk.mono' hB9⟩
end Go.Proofs.Ytfnmncghgmnaaaa
