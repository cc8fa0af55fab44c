/-
  The reference's automatic variables (function 15). Conditions: lists of at most a million bytes each.
-/
import Derived.Test.YtfnmncghgmnaaaaAuto7
namespace Go.Proofs.Ytfnmncghgmnaaaa
open Go.RowKit

/-- What of a list is not in another one. -/
def flt (but : List ByteArray) (l : List ByteArray) : List ByteArray := l.filter fun x => !inL x but
theorem once_filter (but : List ByteArray) : ∀ (l out : List ByteArray), onceTo but (flt but out) l = flt but (onceTo [] out l)
  | [], out => rfl
  | x :: l, out => by
    rw [onceTo, onceTo]
    have e0 : inL x [] = false := rfl
    rw [e0, Bool.or_false]
    cases hb : inL x but with
    | true =>
      rw [Bool.or_true, if_pos rfl]
      cases ho : inL x out with
      | true => rw [if_pos rfl]; exact once_filter but l out
      | false =>
        rw [if_neg (by simp)]
        have := once_filter but l (out ++ [x])
        rw [← this]
        congr 1
        simp [flt, List.filter_append, hb]
    | false =>
      rw [Bool.or_false]
      have hio : inL x (flt but out) = inL x out := by
        rw [Bool.eq_iff_iff, inL_iff, inL_iff, flt, List.mem_filter]
        simp [hb]
      rw [hio]
      cases ho : inL x out with
      | true => rw [if_pos rfl, if_pos rfl]; exact once_filter but l out
      | false =>
        rw [if_neg (by simp), if_neg (by simp)]
        have := once_filter but l (out ++ [x])
        rw [← this]
        congr 1
        simp [flt, List.filter_append, hb]
theorem once_other (but l : List ByteArray) : onceTo but [] l = flt but (onceTo [] [] l) := once_filter but l []
theorem flt_snoc {but l : List ByteArray} {k : Nat} {x : ByteArray} (h : l[k]? = some x) : flt but (l.take (k + 1)) = flt but (l.take k) ++ (if inL x but then [] else [x]) := by
  rw [take_more h, flt, List.filter_append]
  cases hb : inL x but <;> simp [flt, hb]
theorem flt_len (but l : List ByteArray) : (flt but l).length ≤ l.length := List.length_filter_le _ _

set_option maxHeartbeats 2000000 in
theorem rauto_calls (name stem : ByteArray) (vp vo vn : Value) (p o n : List ByteArray) (w : World) (hn : name.size ≤ 9223372036854775807) (hp : StrsAt w vp p) (ho : StrsAt w vo o) (hnn : StrsAt w vn n)
    (zp : wt p ≤ 1000000) (zo : wt o ≤ 1000000) (zn : wt n ≤ 1000000) :
    Calls Try.prog 15 #[.string name, .string stem, vp, vo, vn] w fun e w' => ∃ v, e = .returned v ∧ PairsAt w' v (autoP name stem p o n) ∧ Below w.heap.size w w' := by
  have hcall := Lib.hid (member_split name w hn)
  have hpp := Lib.hid hp
  obtain ⟨a, m, c, rfl, hm0, hc, hm, hcell, _⟩ := hp
  have hm' := Lib.hid hm0
  have hce := Lib.hid hcell
  clear hm0 hcell
  obtain ⟨A, hA⟩ : ∃ A, A = (match splitOf name with | some (a, _) => a | none => name) := ⟨_, rfl⟩
  obtain ⟨M, hM⟩ : ∃ M, M = (match splitOf name with | some (_, b) => b | none => ⟨#[]⟩) := ⟨_, rfl⟩
  obtain ⟨F, hF⟩ : ∃ F, F = (match p with | x :: _ => x | [] => (⟨#[]⟩ : ByteArray)) := ⟨_, rfl⟩
  obtain ⟨ok, hok⟩ : ∃ ok, ok = (splitOf name).isSome := ⟨_, rfl⟩
  obtain ⟨A0, hA0⟩ : ∃ A0, A0 = (match splitOf name with | some (a, _) => a | none => (⟨#[]⟩ : ByteArray)) := ⟨_, rfl⟩
  have hsv := Lib.hid (show splitVal name = .tuple #[.string A0, .string M, .bool ok] by rw [hA0, hM, hok]; unfold splitVal; cases splitOf name <;> rfl)
  have hAA := Lib.hid (show (ok = true → A = A0) ∧ (ok = false → A = name) by rw [hA, hA0, hok]; cases splitOf name <;> simp)
  have hFF := Lib.hid hF
  have hfin := Lib.hid (show autoP name stem p o n = (eight.map nameB).zip [A, M, F, ⟨(jn (onceTo [] [] p)).toArray⟩, ⟨(jn p).toArray⟩, ⟨(jn (onceTo [] [] n)).toArray⟩, ⟨(jn (onceTo p [] o)).toArray⟩, stem] by rw [hA, hM, hF]; rfl)
  clear hA hM hF hok hA0
  go_enter Try.func15, Try.ntmps15
  go_wp2_with fail
  refine (hcall.out).mono ?_
  rintro e w1 ⟨rfl, hB1⟩
  rw [hsv.out]
  go_upto_if 26 with (fail)
  go_cut [11] (fun v11 wc => v11 = .string A ∧ wc = w1)
  case first =>
    cases ok with
    | true =>
      have hAe := Lib.hid (hAA.out.1 rfl)
      go_wp2
      go_meet
      case rel => exact ⟨by rw [hAe.out], rfl⟩
    | false =>
      have hAe := Lib.hid (hAA.out.2 rfl)
      go_wp2
      go_meet
      case rel => exact ⟨by rw [hAe.out], rfl⟩
  case rest =>
    obtain ⟨rfl, rfl⟩ := hcut
    go_upto_if 30 with (fail)
    go_cut [14] (fun v14 wd => v14 = .string F ∧ wd = wc)
    case first =>
      cases p with
      | nil =>
        have hm0 : m = 0 := by rw [hm'.out]; rfl
        subst hm0
        go_wp2
        go_meet
        case rel => exact ⟨by rw [hFF.out], rfl⟩
      | cons x r =>
        have h0 : 0 < m := by rw [hm'.out]; simp
        obtain ⟨b, off, rfl, hb, hcells⟩ := hce.out h0
        have hck := (hB1.cell (p := ⟨b, off, none⟩) hb).trans (hcells 0 x rfl)
        clear hcells
        go_wp2
        go_meet
        case rel => exact ⟨by rw [hFF.out], rfl⟩
    case rest =>
      obtain ⟨rfl, rfl⟩ := hcut
      have hoo := Lib.hid ho
      have hno := Lib.hid hnn
      have lp := Nat.le_trans (wt_len p) zp
      have lo := Nat.le_trans (wt_len o) zo
      have ln := Nat.le_trans (wt_len n) zn
      have u1 : wt (onceTo [] [] p) ≤ 1000000 := Nat.le_trans (once_wt [] [] p) (by simp only [wt]; omega)
      have u2 : wt (onceTo [] [] n) ≤ 1000000 := Nat.le_trans (once_wt [] [] n) (by simp only [wt]; omega)
      have u3 : wt (onceTo p [] o) ≤ 1000000 := Nat.le_trans (once_wt p [] o) (by simp only [wt]; omega)
      have u4 : wt (onceTo [] [] o) ≤ 1000000 := Nat.le_trans (once_wt [] [] o) (by simp only [wt]; omega)
      have lq := Nat.le_trans (wt_len (onceTo [] [] o)) u4
      clear ho hnn
      go_wp2_with fail
      refine (ronce_calls _ o _ (hoo.out.below hB1) lo).mono ?_
      rintro e w2 ⟨v2, rfl, hown2, hb2⟩
      have hB2 := hb2.mono' hB1
      have hst := strsAt_own hown2
      have hoth := Lib.hid (once_other p o)
      generalize onceTo [] [] o = q at hst lq hoth ⊢
      have hsq := Lib.hid hst
      obtain ⟨aq, mq, cq, rfl, hmq0, hcq, hmq1, hcellq, _⟩ := hst
      have hmq := Lib.hid hmq0
      have hcq' := Lib.hid hcellq
      have lmq : mq ≤ 1000000 := by omega
      obtain ⟨i0, hi, hz0, hz1, hz2⟩ := info_parts info9
      clear hmq0 hcellq hown2 hb2
      go_wp2_with fail
      go_loopw [15, 17] (fun v i wr => ∃ k : Nat, k ≤ mq ∧ i = .int .i64 k ∧ wr.ownsRow w2.heap.size 9 1 v (flt p (q.take k)).length (scells (flt p (q.take k))) ∧ Below w2.heap.size w2 wr) (fun _ i _ => mq - (intOf i).toNat)
      case atStart => exact ⟨0, Nat.zero_le _, rfl, World.ownsRow_nil _ _ _ _, Below.refl _ _⟩
      case round =>
        obtain ⟨k, hk, rfl, hown, hB⟩ := hrel
        by_cases hlt : k < mq
        · have hol : (flt p (q.take k)).length ≤ k := Nat.le_trans (flt_len _ _) (List.length_take_le _ _)
          have hfit : ((flt p (q.take k)).length + 1) * 16 ≤ 140737488355328 ∧ (flt p (q.take k)).length + 1 ≤ maxLen := by unfold maxLen; omega
          obtain ⟨s, hs⟩ : ∃ s, q[k]? = some s := ⟨_, List.getElem?_eq_getElem (by rw [← hmq.out]; exact hlt)⟩
          obtain ⟨b, off, rfl, hb, hcells⟩ := hcq'.out (by omega)
          have hck := (hB.cell (p := ⟨b, off + k, none⟩) hb).trans (hcells k s hs)
          have hps := Lib.hid (hpp.out.below (hB.mono' hB2))
          have hsn := Lib.hid (flt_snoc (but := p) hs)
          clear hs hcells hol
          cases hx : inL s p with
          | true =>
            have hstep := Lib.hid (show flt p (q.take (k + 1)) = flt p (q.take k) by rw [hsn.out, hx]; simp)
            have hxx := Lib.hid hx
            clear hx
            go_wp2_with fail
            refine (has_list _ p s _ hps.out lp).mono ?_
            rintro e w' ⟨rfl, rfl⟩
            rw [hxx.out]
            go_wp2
            exact ⟨⟨k + 1, by omega, by go_num, by rw [hstep.out]; exact hown, hB⟩, by simp [intOf]; omega⟩
          | false =>
            have hstep := Lib.hid (show flt p (q.take (k + 1)) = flt p (q.take k) ++ [s] by rw [hsn.out, hx]; simp)
            have hxx := Lib.hid hx
            clear hx
            go_wp2_with fail
            refine (has_list _ p s _ hps.out lp).mono ?_
            rintro e w' ⟨rfl, rfl⟩
            rw [hxx.out]
            go_wp2_with (at_builtin; refine wpList_append_own _ rfl _ _ 22 rfl w2.heap.size 9 i0 _ 1 16 Try.underlying22 hi hz0 hz1 hz2 rfl (by decide) _ _ _ rfl (hown.alloc _) ⟨wr.heap.size, 0, none⟩ 1 1 [.string s] rfl rfl (cells_new wr _ 9) (by intro u hu; simp at hu; subst hu; rfl) hfit.2 hfit.1 (by have := hB.size; simp; omega) ?_; intro v' w3 hown' hgrow _)
            have e2 : scells (flt p (q.take k) ++ [s]) = scells (flt p (q.take k)) ++ [.string s] := List.map_append
            exact ⟨⟨k + 1, by omega, by go_num, by rw [hstep.out, e2, List.length_append]; exact hown', (hB.alloc hB.size _).grown hgrow (by have := hB.size; simp; omega) (fun k e => (hown.lt k e).1)⟩, by simp [intOf]; omega⟩
        · have hall : q.take k = q := List.take_of_length_le (by rw [← hmq.out]; omega)
          rw [hall, ← hoth.out] at hown
          have hso := strsAt_own hown
          have hB3 := hB.mono' hB2
          clear hall hown
          go_wp2_with fail
          refine (ronce_calls _ p _ (hpp.out.below hB3) lp).mono ?_
          rintro e w4 ⟨v4, rfl, hown4, hb4⟩
          have hB4 := hb4.mono' hB3
          go_wp2_with fail
          refine (rjoin_calls _ _ _ (strsAt_own hown4) u1).mono ?_
          rintro e w5 ⟨rfl, hb5⟩
          have hB5 := hb5.mono' hB4
          go_wp2_with fail
          refine (rjoin_calls _ p _ (hpp.out.below hB5) zp).mono ?_
          rintro e w6 ⟨rfl, hb6⟩
          have hB6 := hb6.mono' hB5
          go_wp2_with fail
          refine (ronce_calls _ n _ (hno.out.below hB6) ln).mono ?_
          rintro e w7 ⟨v7, rfl, hown7, hb7⟩
          have hB7 := hb7.mono' hB6
          go_wp2_with fail
          refine (rjoin_calls _ _ _ (strsAt_own hown7) u2).mono ?_
          rintro e w8 ⟨rfl, hb8⟩
          have hB8 := hb8.mono' hB7
          have hso8 := ((((hso.below hb4).below hb5).below hb6).below hb7).below hb8
          go_wp2_with fail
          refine (rjoin_calls _ _ _ hso8 u3).mono ?_
          rintro e w9 ⟨rfl, hb9⟩
          have hB9 := hb9.mono' hB8
          clear hown4 hb4 hb5 hb6 hown7 hb7 hb8 hb9 hB4 hB5 hB6 hB7 hB8 hB3 hso hso8 hB
          generalize (⟨(jn (onceTo [] [] p)).toArray⟩ : ByteArray) = j1 at hfin ⊢
          generalize (⟨(jn p).toArray⟩ : ByteArray) = j2 at hfin ⊢
          generalize (⟨(jn (onceTo [] [] n)).toArray⟩ : ByteArray) = j3 at hfin ⊢
          generalize (⟨(jn (onceTo p [] o)).toArray⟩ : ByteArray) = j4 at hfin ⊢
          go_wp2
          go_ret
          rw [hfin.out]
          refine ⟨_, rfl, ?_, below_al hB9⟩
          refine ⟨w9.heap.size, 0, 8, rfl, by simp [eight], by decide, by simp, fun k x hk => ?_⟩
          have hk8 : k < 8 := by have := (List.getElem?_eq_some_iff.1 hk).1; simpa [eight] using this
          unfold World.cell?
          rw [heap_alloc_new]
          simp only [Option.isSome_none, Bool.false_eq_true, if_false]
          match k, hk8, hk with
          | 0, _, hk => cases hk; exact ⟨rfl, rfl⟩
          | 1, _, hk => cases hk; exact ⟨rfl, rfl⟩
          | 2, _, hk => cases hk; exact ⟨rfl, rfl⟩
          | 3, _, hk => cases hk; exact ⟨rfl, rfl⟩
          | 4, _, hk => cases hk; exact ⟨rfl, rfl⟩
          | 5, _, hk => cases hk; exact ⟨rfl, rfl⟩
          | 6, _, hk => cases hk; exact ⟨rfl, rfl⟩
          | 7, _, hk => cases hk; exact ⟨rfl, rfl⟩
end Go.Proofs.Ytfnmncghgmnaaaa
