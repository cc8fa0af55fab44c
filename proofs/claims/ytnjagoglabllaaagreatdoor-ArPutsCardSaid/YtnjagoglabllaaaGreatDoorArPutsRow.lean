/-
  The row and the card of ArPuts: it answers true for every list of members and every member; both read afterwards as before. No condition.
-/
import Derived.Test.YtnjagoglabllaaaGreatDoorTie
import Derived.Test.YtnjagoglabllaaaGreatDoorCards
import Derived.Test.YtnjagoglabllaaaGreatDoorArLaid
import Derived.Test.YtnjagoglabllaaaGreatDoorArPuts
namespace Go.Proofs.YtnjagoglabllaaaGreatDoor
open Go.ChangeShapes Go.WideShapes Go.ChangeAt Go.RowKit

section
variable {H : Type} {enc : TypeId × Value → H} {w : World}
set_option maxRecDepth 100000 in
theorem member_open {v : Value} {d : DataW H} {ps : List MemPlace} {r : Reach} {b0 : Nat} (hval : Value.okWide Tryz.prog w r b0 37 v) (h : DataW.Trod enc Tryz.prog w 0 (fun _ => true) true 37 v d ps) (hsz : ∀ m ∈ d.weights Tryz.prog 37, m ≤ reachBytes) :
    ∃ (x : Mem) (dv : Value), v = .agg #[.string (mk x.name), .int .i64 x.date, dv] ∧ BytesAt w dv x.data (fun j => j < w.heap.size) ∧ MemOk x := by
  obtain ⟨v0, v1, v2, y0, y1, y2, n, rfl, rfl, -, h0, h1, h2⟩ := Go.Joins.open_agg3 Tryz.underlying37 (by kernel_rfl) (by kernel_rfl) hval h
  have e0 : DataW.trod enc Tryz.prog w 0 (fun _ => true) true n 9 [v0] = some y0 := h0
  have e1 : DataW.trod enc Tryz.prog w 0 (fun _ => true) true n 3 [v1] = some y1 := h1
  have e2 : DataW.trod enc Tryz.prog w 0 (fun _ => true) true n 26 [v2] = some y2 := h2
  have hw : (DataW.agg [y0.1, y1.1, y2.1]).weights Tryz.prog 37 = DataW.weightsEach Tryz.prog [9, 3, 26] [y0.1, y1.1, y2.1] := by
    simp only [DataW.weights, Tryz.underlying37]
    rfl
  rw [hw] at hsz
  obtain ⟨s, hs, hy0, -⟩ := DataW.trod_string Tryz.underlying9 e0
  obtain ⟨t, ht, -, hwf⟩ := DataW.trod_int Tryz.underlying3 e1
  obtain ⟨d, hd, hdl⟩ := bytes_open e2 (fun m hm => hsz m (DataW.weights_mem_each (j := 2) rfl rfl m hm))
  injection hs with hs _
  injection ht with ht _
  subst hs ht
  refine ⟨⟨s.data.toList, t, d⟩, v2, by rw [mk_back], hd, ?_, hdl, date_in hwf⟩
  have := hsz s.data.toList.length (DataW.weights_mem_each (j := 0) rfl rfl _ (by rw [hy0]; simp [DataW.weights]))
  unfold reachBytes at this
  show s.data.toList.length ≤ _
  omega
end
set_option maxRecDepth 100000 in
theorem puts_lifted (os : Os) (started : os.Started) (H : Type) (enc : TypeId × Value → H) :
    ReturnsInHanded {} Tryz.checked os 7 .any (fun w args => (Rows.arPutsSpec.pre enc Tryz.prog Tryz.f7 [] false w args ∧ laidMetH Tryz.prog laidL w) ∧ sizedMet enc Tryz.prog Tryz.f7 (OpenSpec.ofChange Rows.arPutsSpec) false w args)
      (Rows.arPutsSpec.post enc Tryz.prog Tryz.f7 false true false false) := by
  refine returnsInHanded_of_change_and (C := Tryz.checked) (X := fun w _ => laidMetH Tryz.prog laidL w) (fun _ _ _ hh h => h.of_heap hh) own started (by kernel_rfl) Tryz.func7
    (ChangeSpec.witness_shaped (enc := enc) (C := Tryz.checked) (os := os) (X := fun w _ => laidMetH Tryz.prog laidL w) false (World.laidAll Tryz.prog os laidL) #[.slice none 0 0, .agg #[.string ⟨#[]⟩, .int .i64 0, .slice none 0 0]] 8 (World.laidAll_os _ _ _)
      (laid_shaped os _) (by kernel_rfl) (by kernel_rfl) (by kernel_rfl) (laid_start os _)) ?_
  intro W base args ds gs before hval0 hW _ hsz0 hX _
  have hsz : (DataW.weightsEach Tryz.prog (Tryz.f7.params.toList ++ Rows.arPutsSpec.plain.varTypes Tryz.prog) (ds ++ gs)).all (· ≤ reachBytes) = true := hsz0
  clear hsz0
  have hval : ∀ (j : Nat) t v, Tryz.f7.params[j]? = some t → args[j]? = some v → Value.okWide Tryz.prog W .any base t v := hval0
  have hW' := hW
  obtain ⟨p, q, hA0, hV0, rfl, hfz, hnd⟩ := hW
  have hA : DataW.TrodAll enc Tryz.prog W 0 (fun _ => true) true Tryz.f7.params.toList args.toList ds p := hA0
  have hV : DataW.TrodVars enc Tryz.prog W (fun _ => true) [] gs q := hV0
  rw [Tryz.params7] at hA hval hsz
  obtain ⟨v0, vs0, d0, ds0, p0, q0, hargs, rfl, rfl, h0, r0⟩ := trodAll_cons hA
  obtain ⟨v1, vs1, d1, ds1, p1, q1, rfl, rfl, rfl, h1, r1⟩ := trodAll_cons r0
  obtain ⟨rfl, rfl, rfl⟩ := trodAll_nil r1
  obtain rfl : args = #[v0, v1] := by cases args; simp_all
  obtain ⟨rfl, rfl⟩ := trodVars_none hV
  obtain ⟨a0, n0, c0, rfl⟩ := okWide_slice Tryz.underlying22 (hval 0 22 v0 rfl rfl)
  obtain ⟨f0, hf0⟩ := h0
  obtain ⟨l, ht, hok⟩ := mems_open (nv := .slice a0 n0 c0) hf0 (fun n hn => by simpa using List.all_eq_true.1 hsz n (DataW.weights_mem_each (j := 0) (t := 22) rfl rfl n hn))
  obtain ⟨x, dv, rfl, hmb, hmk⟩ := member_open (hval 1 37 v1 rfl rfl) h1 (fun n hn => by simpa using List.all_eq_true.1 hsz n (DataW.weights_mem_each (j := 1) (t := 37) rfl rfl n hn))
  have h0 : DataW.Trod enc Tryz.prog W 0 (fun _ => true) true 22 (.slice a0 n0 c0) d0 p0 := ⟨f0, hf0⟩
  clear hA0 hval0 hsz
  simp only [List.append_nil] at hW'
  have hlt : ∀ x, x ∈ p0 ++ (p1 ++ []) → x.block < W.heap.size := fun x hx => by simpa using hW'.lt x (by simpa using hx)
  refine (puts_calls (tab_of_met hX) ht (fun k hk => hk) hok x hmb (fun k hk => hk) ⟨hmk.1, hmk.2.1⟩).mono fun e W' ⟨he, hg⟩ => ?_
  subst he
  have k0 := Below.trod laidOut (by kernel_rfl) (of_decide_eq_true (by kernel_rfl)) h0 hg (fun x hx => hlt x (by simp [hx]))
  have k1 := Below.trod laidOut (by kernel_rfl) (of_decide_eq_true (by kernel_rfl)) h1 hg (fun x hx => hlt x (by simp [hx]))
  exact ⟨_, rfl, post_of_below (pa := p0 ++ (p1 ++ [])) (pv := []) hW' (fun _ _ _ => (trodAll_cons_mk (shut_bool Tryz.underlying4 _) trodAll_mk0)) (trodAll_cons_mk k0 (trodAll_cons_mk k1 trodAll_mk0)) rfl (by simp) hg⟩
theorem puts_holds : Rows.ArPutsSaid :=
  OpenClaim.holds_of_wide 7 Tryz.f7 rfl rfl rfl rfl rfl rfl rfl ⟨rfl, rfl, rfl, rfl, rfl⟩ rfl rfl rfl rfl rfl (by kernel_rfl) Tryz.func7 (by kernel_rfl)
    (of_decide_eq_true (by kernel_rfl)) (by unfold Func.isWrapper; rw [if_neg (of_decide_eq_false (by kernel_rfl))]; exact ⟨rfl, rfl⟩)
    (fun os started H enc _ => puts_lifted os started H enc)
/-- ████ THE STATEMENT ████ -/
theorem puts_proved : Rows.ArPutsCardSaid :=
  Claim7.holds_tied_plain_at .later [] [.data, .data, .data, .data, .sentinel, .sentinel, .pinned] true (true, "15c6843f6741c40f3b97c807e6d3f4c43c2d98c799bfbb35e2f19c302d4a9676") true
    puts_holds (fun _ h => by cases h) (by kernel_rfl) (fun _ h => by cases h) arPuts_row_tie rfl ⟨rfl, rfl⟩ (by kernel_rfl) rfl
    (fun f fn hf hfn => by
      obtain rfl : f = 7 := Option.some.inj ((show Tryz.prog.funcNamed "anvil/anvillaw7.ArPuts" = some 7 by kernel_rfl).symm.trans hf) |>.symm
      obtain rfl : fn = Tryz.f7 := (Option.some.inj (Tryz.func7.symm.trans hfn)).symm
      exact ⟨by kernel_rfl, fun j t ht => by
        rw [Tryz.params7] at ht
        rcases j with _ | _ | j
        · obtain rfl : t = 22 := by simpa using ht.symm
          exact (show Tryz.prog.wantsStandIn 22 = false by kernel_rfl)
        · obtain rfl : t = 37 := by simpa using ht.symm
          exact (show Tryz.prog.wantsStandIn 37 = false by kernel_rfl)
        · simp at ht⟩)
    (by kernel_rfl)
#print axioms puts_proved
end Go.Proofs.YtnjagoglabllaaaGreatDoor
