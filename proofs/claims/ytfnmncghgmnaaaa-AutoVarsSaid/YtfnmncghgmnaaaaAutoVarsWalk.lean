/-
  The law AutoVars answers true (function 3). Conditions: strings of the model, lists within the form's reach.
-/
import Derived.Test.YtfnmncghgmnaaaaAuto9
namespace Go.Proofs.Ytfnmncghgmnaaaa
open Go.RowKit

set_option maxHeartbeats 2000000 in
theorem autoLaw_calls (name stem : ByteArray) (vp vo vn : Value) (p o n : List ByteArray) (w : World) (hn : name.size ≤ 9223372036854775807) (hp : StrsAt w vp p) (ho : StrsAt w vo o) (hnn : StrsAt w vn n)
    (zp : ∀ s ∈ p, s.size ≤ 140737488351232) (zo : ∀ s ∈ o, s.size ≤ 140737488351232) (zn : ∀ s ∈ n, s.size ≤ 140737488351232) :
    Calls Try.prog 3 #[.string name, .string stem, vp, vo, vn] w fun e w' => e = .returned (.bool true) ∧ Below w.heap.size w w' := by
  have hpp := Lib.hid hp
  have hoo := Lib.hid ho
  have hno := Lib.hid hnn
  have zp' := Lib.hid zp
  have zo' := Lib.hid zo
  have zn' := Lib.hid zn
  obtain ⟨ap, mp, cp, rfl, hmp0, _, hmp, _⟩ := hp
  obtain ⟨ao, mo, co, rfl, hmo0, _, hmo, _⟩ := ho
  obtain ⟨an, mn, cn, rfl, hmn0, _, hmn, _⟩ := hnn
  have emp := Lib.hid hmp0
  have emo := Lib.hid hmo0
  have emn := Lib.hid hmn0
  unfold maxLen at hmp hmo hmn
  clear hmp0 hmo0 hmn0 zp zo zn
  go_enter Try.func3, Try.ntmps3
  go_wp2_with fail
  refine (alive_calls _).mono ?_
  rintro e w1 ⟨rfl, b1⟩
  go_wp2_with fail
  refine (big_calls _ p _ (hpp.out.below b1) zp'.out).mono ?_
  rintro e w' ⟨rfl, rfl⟩
  by_cases hx : 20000 < wt p
  · rw [decide_eq_true hx]
    go_wp2
    go_ret
    exact ⟨rfl, b1⟩
  rw [decide_eq_false hx]
  go_wp2_with fail
  refine (big_calls _ o _ (hoo.out.below b1) zo'.out).mono ?_
  rintro e w' ⟨rfl, rfl⟩
  by_cases hy : 20000 < wt o
  · rw [decide_eq_true hy]
    go_wp2
    go_ret
    exact ⟨rfl, b1⟩
  rw [decide_eq_false hy]
  go_wp2_with fail
  refine (big_calls _ n _ (hno.out.below b1) zn'.out).mono ?_
  rintro e w' ⟨rfl, rfl⟩
  by_cases hz : 20000 < wt n
  · rw [decide_eq_true hz]
    go_wp2
    go_ret
    exact ⟨rfl, b1⟩
  rw [decide_eq_false hz]
  by_cases k1 : 100 < mp
  · go_wp2
    go_ret
    exact ⟨rfl, b1⟩
  by_cases k2 : 100 < mo
  · go_wp2
    go_ret
    exact ⟨rfl, b1⟩
  by_cases k3 : 100 < mn
  · go_wp2
    go_ret
    exact ⟨rfl, b1⟩
  have lp : p.length ≤ 1000000 := by rw [← emp.out]; omega
  have lo : o.length ≤ 1000000 := by rw [← emo.out]; omega
  have ln : n.length ≤ 1000000 := by rw [← emn.out]; omega
  have zzp : wt p ≤ 1000000 := by omega
  have zzo : wt o ≤ 1000000 := by omega
  have zzn : wt n ≤ 1000000 := by omega
  go_wp2_with fail
  refine (lent_calls _ p _ (hpp.out.below b1) lp).mono ?_
  rintro e w2 ⟨v2, rfl, e2, b2⟩
  have hB2 := b2.mono' b1
  go_wp2_with fail
  refine (lent_calls _ o _ (hoo.out.below hB2) lo).mono ?_
  rintro e w3 ⟨v3, rfl, e3, b3⟩
  have hB3 := b3.mono' hB2
  go_wp2_with fail
  refine (lent_calls _ n _ (hno.out.below hB3) ln).mono ?_
  rintro e w4 ⟨v4, rfl, e4, b4⟩
  have hB4 := b4.mono' hB3
  have f2 := (e2.below b3).below b4
  have f3 := e3.below b4
  go_wp2_with fail
  refine (vars_calls _ _ _ _ _ p o n _ hn f2.strs f3.strs e4.strs zzp zzo zzn).mono ?_
  rintro e w5 ⟨v5, rfl, p5, b5⟩
  have hB5 := b5.mono' hB4
  have g2 := f2.below b5
  have g3 := f3.below b5
  have g4 := e4.below b5
  clear e2 e3 e4 f2 f3
  go_wp2_with fail
  refine (stays_calls _ _ p _ g2 (hpp.out.below hB5) lp).mono ?_
  rintro e w6 ⟨rfl, b6⟩
  have hB6 := b6.mono' hB5
  go_wp2_with fail
  refine (stays_calls _ _ o _ (g3.below b6) (hoo.out.below hB6) lo).mono ?_
  rintro e w7 ⟨rfl, b7⟩
  have hB7 := b7.mono' hB6
  go_wp2_with fail
  refine (stays_calls _ _ n _ ((g4.below b6).below b7) (hno.out.below hB7) ln).mono ?_
  rintro e w8 ⟨rfl, b8⟩
  have hB8 := b8.mono' hB7
  have p8 := ((p5.below b6).below b7).below b8
  go_wp2_with fail
  refine (rauto_calls _ _ _ _ _ p o n _ hn (hpp.out.below hB8) (hoo.out.below hB8) (hno.out.below hB8) zzp zzo zzn).mono ?_
  rintro e w9 ⟨v9, rfl, p9, b9⟩
  have hB9 := b9.mono' hB8
  go_wp2_with fail
  refine (samePairs_calls _ _ _ _ (p8.below b9) p9).mono ?_
  rintro e w10 ⟨rfl, b10⟩
  go_wp2
  go_ret
  exact ⟨rfl, b10.mono' hB9⟩
end Go.Proofs.Ytfnmncghgmnaaaa
