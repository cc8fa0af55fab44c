/-
  What a rule names is taken down (26). Conditions: lists of at most a million strings; strings of at most 2^60 bytes.
-/
import Derived.Test.YtfnmncghgmnaaabDbC
import Derived.Deep.RegionHeld3
import Derived.Deep.AppendLies
namespace Go.Proofs.Ytfnmncghgmnaaab
open Go.RowKit

theorem info3 : (Try.prog.info? 3).map (fun i => (i.zero, i.size, i.bytes)) = some (some (.int .i64 0), 1, 8) := by kernel_rfl
theorem zero45 (w : World) : (zeroValue 45).run Try.prog w = .ok (.slice none 0 0) w := by kernel_rfl
def plainT (l : List ByteArray) : Bool := l.all fun t => !inL t specials
theorem plainT_more {l : List ByteArray} {k : Nat} {s : ByteArray} (h : l[k]? = some s) : plainT (l.take (k + 1)) = (plainT (l.take k) && !inL s specials) := by
  unfold plainT; rw [take_more h, List.all_append]; simp

set_option maxRecDepth 100000 in
set_option maxHeartbeats 4000000 in
theorem names_calls (bd be bn G nE nN i : Nat) (r : Ru) (t p o rc : Value) (DE DN : DataW Unit) (S : ByteArray → Bool) (No : Nat → Prop) (w : World)
    (hG : G ≤ w.heap.size) (hd : bd < G ∧ bd ≠ be ∧ bd ≠ bn) (hben : be ≠ bn) (hbnG : bn < G)
    (h3 : w.cell? ⟨bd, 3, none⟩ = some (.map (some be))) (h5 : w.cell? ⟨bd, 5, none⟩ = some (.map (some bn)))
    (hNo : ∀ g, No g → g < w.heap.size) (hE : w.ownsGroups Try.prog 71 G 3 .i64 be nE DE) (hS : w.Shuns be No) (hN : w.ownsMap Try.prog 71 (plainElem Try.prog 3) bn nN DN) (hNS : NamedAs DN S)
    (hT : ∀ w', Keeps be bn G No w w' → StrsAt w' t r.targets) (hP : ∀ w', Keeps be bn G No w w' → StrsAt w' p r.prereqs) (hO : ∀ w', Keeps be bn G No w w' → StrsAt w' o r.orders) (hR : StrsAt w rc r.recipe)
    (hs : RuSmall r) (hz : (∀ s ∈ r.targets, s.size ≤ big) ∧ (∀ s ∈ r.prereqs, s.size ≤ big) ∧ (∀ s ∈ r.orders, s.size ≤ big)) (hnE : nE ≤ 1000000000000) (hnN : nN ≤ 1000000000000) (hi : i ≤ 1000000000) :
    Calls Try.prog 26 #[.pointer (some ⟨bd, 0, none⟩), .int .i64 i, .agg (rcells r t p o rc)] w fun e w' => e = .returned (.tuple #[]) ∧ Keeps be bn G No w w' ∧
      (∃ nE', ∃ DE' : DataW Unit, nE' ≤ nE + 1000000 ∧ w'.ownsGroups Try.prog 71 G 3 .i64 be nE' DE') ∧ w'.Shuns be No ∧
      (∃ nN', ∃ DN' : DataW Unit, nN' ≤ nN + 3000000 ∧ w'.ownsMap Try.prog 71 (plainElem Try.prog 3) bn nN' DN' ∧ NamedAs DN' (fun n => S n || (plainT r.targets && (inL n r.targets || inL n r.prereqs || inL n r.orders)))) := by
  obtain ⟨⟨ta, tn, tc, rfl⟩, ⟨pa, pn, pc, rfl⟩, ⟨oa, on, oc, rfl⟩, ⟨ra, rn, rc2, rfl⟩⟩ := RuAt.slices (⟨hT w (Keeps.refl w), hP w (Keeps.refl w), hO w (Keeps.refl w), hR⟩ : RuAt w r t p o rc)
  obtain ⟨T, P, O, b1, pat, b3, s1, R, hs', s2, b5⟩ := r
  have hTn := Lib.hid (show tn = T.length from (hT w (Keeps.refl w)).len.1)
  have hPn := Lib.hid (show pn = P.length from (hP w (Keeps.refl w)).len.1)
  have hOn := Lib.hid (show on = O.length from (hO w (Keeps.refl w)).len.1)
  have hp9 : pn ≤ 1000000 := by rw [hPn.out]; exact hs.2.1
  have ho9 : on ≤ 1000000 := by rw [hOn.out]; exact hs.2.2.1
  dsimp only at hT hP hO hR hz
  have kT := Lib.hid hT
  have kP := Lib.hid hP
  have kO := Lib.hid hO
  have kzT := Lib.hid hz.1
  have kzP := Lib.hid hz.2.1
  have kzO := Lib.hid hz.2.2
  have hT9 : tn ≤ 1000000 := by rw [hTn.out]; exact hs.1
  have hP9 := Lib.hid hs.2.1
  have hO9 := Lib.hid hs.2.2.1
  have kE := Lib.hid hE
  have kS := Lib.hid hS
  have kN := Lib.hid hN
  have kNS := Lib.hid hNS
  clear hT hP hO hz hs hE hS hN hNS
  obtain ⟨i0, hi0, hz0, hz1, hz2⟩ := info_parts info3
  unfold rcells
  go_enter Try.func26, Try.ntmps26
  go_wp2_with fail
  have hbeG : be < G := by obtain ⟨_, _, _, _, _, _, h, _⟩ := kE.out; exact h
  have hInv0 : NameInv be bn G nE nN DN No [.slice ta tn tc, .slice pa pn pc, .slice oa on oc, .bool b1, .bool pat, .bool b3, .string s1, .slice ra rn rc2, .bool hs', .string s2, .bool b5] w (w.alloc (.cells #[.slice ta tn tc, .slice pa pn pc, .slice oa on oc, .bool b1, .bool pat, .bool b3, .string s1, .slice ra rn rc2, .bool hs', .string s2, .bool b5] 43)) :=
    ⟨Keeps.of_below (below_al (Below.refl _ _)), by simp, range_alloc _ _ _, ⟨_, _, Nat.le_refl _, kE.out.kept (World.grownBy_alloc w _ none) (by simp) (kE.out.rowsAbove (by simp))⟩,
      (kS.out.reno kE.out (fun g h => h.imp id (fun e => by omega))).kept (World.grownBy_alloc _ _ none) (by omega) (by simp), kN.out.alloc _⟩
  clear kE kS kN
  go_loopw [6, 18] (fun pv iv wr => ∃ k : Nat, k ≤ tn ∧ iv = .int .i64 k ∧ pv = .bool (plainT (T.take k)) ∧ NameInv be bn G (nE + k) nN DN No [.slice ta tn tc, .slice pa pn pc, .slice oa on oc, .bool b1, .bool pat, .bool b3, .string s1, .slice ra rn rc2, .bool hs', .string s2, .bool b5] w wr) (fun _ iv _ => tn - (intOf iv).toNat)
  case atStart => exact ⟨0, Nat.zero_le _, rfl, rfl, hInv0⟩
  case round =>
    obtain ⟨k, hk, rfl, rfl, hI⟩ := hrel
    by_cases hlt : k < tn
    · obtain ⟨s, hs⟩ : ∃ s, T[k]? = some s := ⟨_, List.getElem?_eq_getElem (by rw [← hTn.out]; exact hlt)⟩
      obtain ⟨a', n', c', e, -, -, -, hcell, -⟩ := kT.out wr hI.1
      injection e with e1 e2 e3
      subst e1 e2 e3
      obtain ⟨b, off, rfl, hb, hcells⟩ := hcell (by omega)
      have hck := hcells k s hs
      have hzs : s.size ≤ maxLen := Nat.le_trans (kzT.out s (List.mem_of_getElem? hs)) (by decide)
      have hkey := key71 tgB s (by decide) hzs
      have hmore := Lib.hid (plainT_more hs)
      have z1 : (0 : Int) ≤ (k : Int) := by omega
      have z2 : (k : Int) < (tn : Int) := by omega
      have hbdw : bd < w.heap.size := by omega
      have hsz := hI.2.1
      have hbd3 : wr.cell? ⟨bd, 3, none⟩ = some (.map (some be)) := (hI.1.cell hbdw (Or.inl hd.1) hd.2.1 hd.2.2).trans h3
      have hbdr : bd < wr.heap.size := by omega
      clear hcells hcell hs
      obtain ⟨nE', DE', hnE', hE'⟩ := hI.2.2.2.1
      have hmax : nE' < maxLen := by unfold maxLen; omega
      obtain ⟨v, zs, hrun, -, hoi, hzl, hback⟩ := hE'.at law71 Try.underlying53 (zero45 _) hmax hkey
      have hbe : be < wr.heap.size := by omega
      have hrunN : ∀ q, (Instr.lookup 53 (.map (some be)) (.agg #[.string tgB, .string s]) false).run Try.prog ((wr.alloc (.cells #[.string tgB, .string s] 71)).drewN q) = .ok v ((wr.alloc (.cells #[.string tgB, .string s] 71)).drewN q) := fun q => groups_look hE' zero45 hkey hrun (heap_alloc_old wr _ hbe)
      have hvsh := Lib.hid (groups_shun hE' zero45 hkey hrun hI.2.2.2.2.1)
      unfold tgB at hrunN
      clear hrun
      have hE1 := Lib.hid hE'
      have hback' := Lib.hid hback
      have hI' := Lib.hid hI
      have hoi' := Lib.hid hoi
      clear hback hI hE'
      go_wp2_with fail
      go_quiet (fail)
      have hW2 : ∀ row, wr.grownBy ((wr.alloc (.cells #[.string tgB, .string s] 71)).drewN nq) row := fun row => ⟨rfl, rfl, rfl, by simp, fun k hk _ => heap_alloc_old wr _ hk⟩
      have hk0 : ((wr.alloc (.cells #[.string tgB, .string s] 71)).drewN nq).cell? ⟨wr.heap.size, 0, none⟩ = some (.string tgB) := range_alloc wr [.string tgB, .string s] 71 0 _ rfl
      have hk1 : ((wr.alloc (.cells #[.string tgB, .string s] 71)).drewN nq).cell? ⟨wr.heap.size, 1, none⟩ = some (.string s) := range_alloc wr [.string tgB, .string s] 71 1 _ rfl
      have hsz1 : ((wr.alloc (.cells #[.string tgB, .string s] 71)).drewN nq).heap.size = wr.heap.size + 1 := by simp
      unfold tgB at hW2 hk0 hk1 hsz1
      clear hrunN
      generalize (wr.alloc (.cells #[.string ⟨#[116, 97, 114, 103, 101, 116]⟩, .string s] 71)).drewN nq = w1 at hW2 hk0 hk1 hsz1 ⊢
      obtain ⟨m, hm⟩ : ∃ m, zs.length = m := ⟨_, rfl⟩
      have hm' := Lib.hid hm
      rw [hm] at hzl
      obtain ⟨ad, cap, rfl, hv0⟩ : ∃ ad cap, v = .slice ad m cap ∧ (0 < m → ∃ g, ad = some ⟨g, 0, none⟩) := by
        rcases hoi.1.2 with ⟨rfl, hz⟩ | ⟨g, cap, cur, rfl, -⟩
        · exact ⟨none, 0, by rw [← hm, hz], fun h => by omega⟩
        · exact ⟨_, _, by rw [hm], fun _ => ⟨_, rfl⟩⟩
      clear hoi hm
      have hoi1 := Lib.hid (hoi'.out.kept (hW2 none) (by cases ad <;> simp [Value.ownBlock]))
      have hbd4 : w1.cell? ⟨bd, 3, none⟩ = some (.map (some be)) := ((hW2 none).cell_far _ hbdr (by simp)).trans hbd3
      have hni : (Lit.int .i64 (i : Int)).wf = true := WalkArith.wf_i64 (by omega)
      have hne1 : (Value.slice ad m cap).ownBlock ≠ some bd := fun e => by have := (hoi'.out.1.lt bd e).1; omega
      have hne2 : (Value.slice ad m cap).ownBlock ≠ some wr.heap.size := fun e => by have := (hoi'.out.1.lt _ e).2; omega
      have hW2' := Lib.hid hW2
      clear hW2
      cases m with
      | zero =>
        have hrow1 := Lib.hid (show w1.ownsRow G 3 1 (.slice ad 0 cap) 0 (zs.map (Value.int .i64)) by have := hoi1.out.1; rw [hm'.out] at this; exact this)
        go_wp2_with fail
        go_region_held3 (fun w' => w'.cell? ⟨bd, 3, none⟩ = some (.map (some be)) ∧ w'.cell? ⟨wr.heap.size, 0, none⟩ = some (.string ⟨#[116, 97, 114, 103, 101, 116]⟩) ∧ w'.cell? ⟨wr.heap.size, 1, none⟩ = some (.string s))
          (first
            | go_keep
            | (go_split_ands
               refine ⟨?_, ?_, ?_⟩
               · (rw [hgrow5.cell_far _ (by simp; omega) (Ne.symm hne1)]; assumption)
               · (rw [hgrow5.cell_far _ (by simp; omega) (Ne.symm hne2)]; assumption)
               · (rw [hgrow5.cell_far _ (by simp; omega) (Ne.symm hne2)]; assumption))
            | (go_split_ands
               refine ⟨?_, ?_, ?_⟩
               · (rw [hcl6 _ _ (by omega) (by omega)]; assumption)
               · (rw [hcl6 _ _ (by omega) (by omega)]; assumption)
               · (rw [hcl6 _ _ (by omega) (by omega)]; assumption)))
          ((refine step_append_lies _ (by rfl) _ _ _ (by rfl) G 3 i0 _ 1 8 Try.underlying45 hi0 hz0 hz1 hz2 rfl (by omega) (.slice ad 0 cap) 0 (zs.map (Value.int .i64)) (by rfl) ((hrow1.out.alloc _).drew) ⟨wr.heap.size + 1, 0, none⟩ 1 1 [.int .i64 i] (by rfl) (by rfl) (World.news_of_block (cs := #[.int .i64 i]) (t := 3) (fr := (0, 0)) (by rw [← hsz1]; exact heap_alloc_new w1 _)) (by simp [Value.oneCell']) (by omega) (by unfold maxLen; omega) (by omega) (by simp; omega) (wr.heap.size + 1 + 1) (by simp; omega) ?_
            intro gg cap2 w5 hown5 hgrow5 hat5 hlt5
            obtain ⟨w6, hrun6, hI6, hcl6⟩ := hI'.out.store (by omega) (by omega) hbnG hben hNo hkey hE1.out hnE' hmax hoi'.out hzl hback'.out hvsh.out hW2'.out hsz1 hni hm'.out hown5 hgrow5 hat5
            have F6 := Lib.hid hI6
            unfold tgB at hrun6
            clear hI6))
        cases hpl : plainT (T.take k)
        · have hpl' := Lib.hid hpl
          clear hpl
          go_wp2
          exact ⟨⟨k + 1, by omega, by go_num, by rw [hmore.out, hpl'.out]; rfl, F6.out⟩, by simp [intOf]; omega⟩
        · have hpl' := Lib.hid hpl
          clear hpl
          go_wp2_with fail
          refine (special_calls s _).mono ?_
          rintro e w' ⟨rfl, rfl⟩
          go_wp2
          exact ⟨⟨k + 1, by omega, by go_num, by rw [hmore.out, hpl'.out]; rfl, F6.out⟩, by simp [intOf]; omega⟩
      | succ m =>
        obtain ⟨g, rfl⟩ := hv0 (Nat.succ_pos _)
        have hrow1 := Lib.hid (show w1.ownsRow G 3 1 (.slice (some ⟨g, 0, none⟩) (m + 1) cap) (m + 1) (zs.map (Value.int .i64)) by have := hoi1.out.1; rw [hm'.out] at this; exact this)
        obtain ⟨z, hz⟩ : ∃ z, zs[m]? = some z := ⟨_, List.getElem?_eq_getElem (by have := hm'.out; omega)⟩
        have hzc : w1.cell? ⟨g, m, none⟩ = some (.int .i64 z) := (hrow1.out.cellAt m (by omega)).trans (by simp [hz])
        clear hz hv0
        by_cases hzi : z = (i : Int)
        · subst hzi
          have F6 := Lib.hid (hI'.out.step (hW2'.out none) (by omega) (by omega))
          cases hpl : plainT (T.take k)
          · have hpl' := Lib.hid hpl
            clear hpl
            go_wp2
            exact ⟨⟨k + 1, by omega, by go_num, by rw [hmore.out, hpl'.out]; rfl, F6.out⟩, by simp [intOf]; omega⟩
          · have hpl' := Lib.hid hpl
            clear hpl
            go_wp2_with fail
            refine (special_calls s _).mono ?_
            rintro e w' ⟨rfl, rfl⟩
            go_wp2
            exact ⟨⟨k + 1, by omega, by go_num, by rw [hmore.out, hpl'.out]; rfl, F6.out⟩, by simp [intOf]; omega⟩
        · have hzi' : (z != (i : Int)) = true := by simp [hzi]
          go_wp2_with fail
          go_region_held3 (fun w' => w'.cell? ⟨bd, 3, none⟩ = some (.map (some be)) ∧ w'.cell? ⟨wr.heap.size, 0, none⟩ = some (.string ⟨#[116, 97, 114, 103, 101, 116]⟩) ∧ w'.cell? ⟨wr.heap.size, 1, none⟩ = some (.string s))
            (first
              | go_keep
              | (go_split_ands
                 refine ⟨?_, ?_, ?_⟩
                 · (rw [hgrow5.cell_far _ (by simp; omega) (Ne.symm hne1)]; assumption)
                 · (rw [hgrow5.cell_far _ (by simp; omega) (Ne.symm hne2)]; assumption)
                 · (rw [hgrow5.cell_far _ (by simp; omega) (Ne.symm hne2)]; assumption))
              | (go_split_ands
                 refine ⟨?_, ?_, ?_⟩
                 · (rw [hcl6 _ _ (by omega) (by omega)]; assumption)
                 · (rw [hcl6 _ _ (by omega) (by omega)]; assumption)
                 · (rw [hcl6 _ _ (by omega) (by omega)]; assumption)))
            ((refine step_append_lies _ (by rfl) _ _ _ (by rfl) G 3 i0 _ 1 8 Try.underlying45 hi0 hz0 hz1 hz2 rfl (by omega) (.slice (some ⟨g, 0, none⟩) (m + 1) cap) (m + 1) (zs.map (Value.int .i64)) (by rfl) ((hrow1.out.alloc _).drew) ⟨wr.heap.size + 1, 0, none⟩ 1 1 [.int .i64 i] (by rfl) (by rfl) (World.news_of_block (cs := #[.int .i64 i]) (t := 3) (fr := (0, 0)) (by rw [← hsz1]; exact heap_alloc_new w1 _)) (by simp [Value.oneCell']) (by omega) (by unfold maxLen; omega) (by omega) (by simp; omega) (wr.heap.size + 1 + 1) (by simp; omega) ?_
              intro gg cap2 w5 hown5 hgrow5 hat5 hlt5
              obtain ⟨w6, hrun6, hI6, hcl6⟩ := hI'.out.store (by omega) (by omega) hbnG hben hNo hkey hE1.out hnE' hmax hoi'.out hzl hback'.out hvsh.out hW2'.out hsz1 hni hm'.out hown5 hgrow5 hat5
              have F6 := Lib.hid hI6
              unfold tgB at hrun6
              clear hI6))
          cases hpl : plainT (T.take k)
          · have hpl' := Lib.hid hpl
            clear hpl
            go_wp2
            exact ⟨⟨k + 1, by omega, by go_num, by rw [hmore.out, hpl'.out]; rfl, F6.out⟩, by simp [intOf]; omega⟩
          · have hpl' := Lib.hid hpl
            clear hpl
            go_wp2_with fail
            refine (special_calls s _).mono ?_
            rintro e w' ⟨rfl, rfl⟩
            go_wp2
            exact ⟨⟨k + 1, by omega, by go_num, by rw [hmore.out, hpl'.out]; rfl, F6.out⟩, by simp [intOf]; omega⟩
    · obtain rfl : k = tn := by omega
      have hall : T.take k = T := List.take_of_length_le (by rw [← hTn.out]; exact Nat.le_refl _)
      rw [hall]
      clear hall
      obtain ⟨hKw, hsz, hRa, ⟨nE', DE', hnE', hE'⟩, hS', hN'⟩ := hI
      have g0 := hRa 0 _ rfl
      have g1 := hRa 1 _ rfl
      have g2 := hRa 2 _ rfl
      rw [Nat.zero_add] at g0 g1 g2
      have hbdw : bd < w.heap.size := by omega
      have hKW : Keeps be bn G No w (wr.alloc (.cells #[.slice ta k tc, .slice pa pn pc, .slice oa on oc] 25)) := hKw.trans (Keeps.of_below (below_al (Below.refl _ _)))
      have hE2 := Lib.hid (hE'.kept (World.grownBy_alloc wr (.cells #[.slice ta k tc, .slice pa pn pc, .slice oa on oc] 25) none) (by simp) (hE'.rowsAbove (by simp)))
      have hS2 := Lib.hid (hS'.kept (World.grownBy_alloc wr (.cells #[.slice ta k tc, .slice pa pn pc, .slice oa on oc] 25) none) (by omega) (by simp))
      have hbnr : bn < wr.heap.size := by omega
      have hRW : (wr.alloc (.cells #[.slice ta k tc, .slice pa pn pc, .slice oa on oc] 25)).rangeAt wr.heap.size 0 [.slice ta k tc, .slice pa pn pc, .slice oa on oc] := range_alloc _ _ _
      have hNI : NamedInv bn nN (Uf S (plainT T) T P O 0) (wr.alloc (.cells #[.slice ta k tc, .slice pa pn pc, .slice oa on oc] 25)) (wr.alloc (.cells #[.slice ta k tc, .slice pa pn pc, .slice oa on oc] 25)) :=
        ⟨⟨rfl, rfl, rfl, Nat.le_refl _, fun _ _ _ => rfl⟩, nN, DN, Nat.le_refl _, hN'.alloc _, kNS.out.congr fun n => by simp [Uf]⟩
      have hKW' := Lib.hid hKW
      have hRW' := Lib.hid hRW
      have hNI' := Lib.hid hNI
      have hwW : wr.heap.size < (wr.alloc (.cells #[.slice ta k tc, .slice pa pn pc, .slice oa on oc] 25)).heap.size := by simp
      have hbdW : bd < (wr.alloc (.cells #[.slice ta k tc, .slice pa pn pc, .slice oa on oc] 25)).heap.size := by simp; omega
      have hd5 : (wr.alloc (.cells #[.slice ta k tc, .slice pa pn pc, .slice oa on oc] 25)).cell? ⟨bd, 5, none⟩ = some (.map (some bn)) := (hKW.cell hbdw (Or.inl hd.1) hd.2.1 hd.2.2).trans h5
      have hE3 := Lib.hid (show ∃ nE' : Nat, ∃ DE' : DataW Unit, nE' ≤ nE + 1000000 ∧ (wr.alloc (.cells #[.slice ta k tc, .slice pa pn pc, .slice oa on oc] 25)).ownsGroups Try.prog 71 G 3 .i64 be nE' DE' from ⟨_, _, by omega, hE2.out⟩)
      clear hKw hRa hE' hS' hN' hKW hRW hNI hE2 kNS
      go_wp2_with fail
      generalize hWW : (wr.alloc (.cells #[.slice ta k tc, .slice pa pn pc, .slice oa on oc] 25)) = W at hKW' hRW' hNI' hwW hbdW hd5 hE3 hS2 ⊢
      clear hWW
      generalize wr.heap.size = nb at hRW' hwW hbnr hsz ⊢
      obtain ⟨pl, hpl⟩ : ∃ pl, plainT T = pl := ⟨_, rfl⟩
      rw [hpl] at hNI' ⊢
      have hplh := Lib.hid hpl
      clear hpl
      go_loopw [67] (fun iv wr => ∃ q : Nat, q ≤ 3 ∧ iv = .int .i64 q ∧ NamedInv bn (nN + q * 1000000) (Uf S pl T P O q) W wr) (fun iv _ => 3 - (intOf iv).toNat)
      case atStart => exact ⟨0, by omega, rfl, by simpa using hNI'.out⟩
      case round =>
        obtain ⟨q, hq, rfl, hQ⟩ := hrel
        have hgq := hQ.1
        have e0 : wr.cell? ⟨nb, 0, none⟩ = some (.slice ta k tc) := (hgq.cell_far _ hwW (by intro e; injection e with e; simp at e; omega)).trans (hRW'.out 0 _ rfl)
        have e1 : wr.cell? ⟨nb, 1, none⟩ = some (.slice pa pn pc) := (hgq.cell_far _ hwW (by intro e; injection e with e; simp at e; omega)).trans (hRW'.out 1 _ rfl)
        have e2 : wr.cell? ⟨nb, 2, none⟩ = some (.slice oa on oc) := (hgq.cell_far _ hwW (by intro e; injection e with e; simp at e; omega)).trans (hRW'.out 2 _ rfl)
        have hQ' := Lib.hid hQ
        clear hQ hgq
        by_cases hq3 : q < 3
        · rcases (show q = 0 ∨ q = 1 ∨ q = 2 by omega) with rfl | rfl | rfl
          · go_wp2_with fail
            go_loopw [73] (fun iv wr => ∃ j : Nat, j ≤ k ∧ iv = .int .i64 j ∧ NamedInv bn (nN + 0 * 1000000 + j) (fun x => Uf S pl T P O 0 x || (pl && inL x (T.take j))) W wr) (fun iv _ => k - (intOf iv).toNat)
            case atStart => exact ⟨0, Nat.zero_le _, rfl, hQ'.out.congr (by omega) (fun x => by simp [inL])⟩
            case round =>
              obtain ⟨j, hj, rfl, hJ⟩ := hrel
              by_cases hjn : j < k
              · obtain ⟨x, hx⟩ : ∃ x, T[j]? = some x := ⟨_, List.getElem?_eq_getElem (by rw [← hTn.out]; exact hjn)⟩
                have hKe : Keeps be bn G No W wr := Keeps.of_grown hJ.1 (by intro j hj; injection hj with hj; exact Or.inr (Or.inr (Or.inl hj.symm)))
                obtain ⟨a', n', c', e, -, -, -, hcell, -⟩ := kT.out wr (hKW'.out.trans hKe)
                injection e with e1 e2 e3
                subst e1 e2 e3
                obtain ⟨b, off, rfl, hb, hcells⟩ := hcell (by omega)
                have hck := hcells j x hx
                have hzs : x.size ≤ maxLen := Nat.le_trans (kzT.out x (List.mem_of_getElem? hx)) (by decide)
                have hkey := key71 nmB x (by decide) hzs
                have hd6 : wr.cell? ⟨bd, 5, none⟩ = some (.map (some bn)) := (hJ.1.cell_far _ hbdW (by intro e; injection e with e; simp at e; omega)).trans hd5
                have z1 : (0 : Int) ≤ (j : Int) := by omega
                have z2 : (j : Int) < (k : Int) := by omega
                have hmore := Lib.hid (inL_more hx)
                have hJ' := Lib.hid hJ
                clear hcell hcells hx hKe hJ
                cases pl
                · go_wp2
                  exact ⟨⟨j + 1, by omega, by go_num, hJ'.out.congr (by omega) (fun y => by simp)⟩, by simp [intOf]; omega⟩
                · obtain ⟨hgj, n2, D2, hn2, hD2, hS2⟩ := hJ'.out
                  have hval := plainElem_int (H := Unit) (P := Try.prog) (e := 3) Try.underlying3 (a := 1) (by decide)
                  have hgj' := Lib.hid hgj
                  have hD2' := Lib.hid hD2
                  have hS2' := Lib.hid hS2
                  clear hgj hD2 hS2
                  go_wp2_with (at_mapUpdate; refine wpList_mapUpdate_own _ rfl _ _ _ 54 rfl 71 3 law71 Try.underlying54 _ bn n2 D2 rfl hD2'.out (by unfold maxLen; omega) _ _ _ rfl rfl hkey (.lit (.int .i64 1)) [] hval ?_; intro w2 hown2 hgrow2)
                  exact ⟨⟨_, _, _, _, _, _, _, _, _, _, _, _, _, ⟨j + 1, by omega, by go_num, (NamedInv.put hgj'.out hn2 hD2'.out hS2'.out hzs hgrow2 hown2).congr (by omega) (fun y => by simp [hmore.out, Bool.or_assoc])⟩, rfl⟩, by simp [intOf]; omega⟩
              · obtain rfl : j = k := by omega
                have hall : T.take j = T := List.take_of_length_le (by rw [← hTn.out]; exact Nat.le_refl _)
                rw [hall] at hJ
                have hJ' := Lib.hid hJ
                clear hall hJ
                go_wp2
                exact ⟨⟨0 + 1, by omega, by go_num, hJ'.out.congr (by omega) (fun y => by simp [Uf]; try cases S y <;> cases pl <;> cases inL y T <;> cases inL y P <;> simp)⟩, by simp [intOf]⟩
          · go_wp2_with fail
            go_loopw [73] (fun iv wr => ∃ j : Nat, j ≤ pn ∧ iv = .int .i64 j ∧ NamedInv bn (nN + 1 * 1000000 + j) (fun x => Uf S pl T P O 1 x || (pl && inL x (P.take j))) W wr) (fun iv _ => pn - (intOf iv).toNat)
            case atStart => exact ⟨0, Nat.zero_le _, rfl, hQ'.out.congr (by omega) (fun x => by simp [inL])⟩
            case round =>
              obtain ⟨j, hj, rfl, hJ⟩ := hrel
              by_cases hjn : j < pn
              · obtain ⟨x, hx⟩ : ∃ x, P[j]? = some x := ⟨_, List.getElem?_eq_getElem (by rw [← hPn.out]; exact hjn)⟩
                have hKe : Keeps be bn G No W wr := Keeps.of_grown hJ.1 (by intro j hj; injection hj with hj; exact Or.inr (Or.inr (Or.inl hj.symm)))
                obtain ⟨a', n', c', e, -, -, -, hcell, -⟩ := kP.out wr (hKW'.out.trans hKe)
                injection e with e1 e2 e3
                subst e1 e2 e3
                obtain ⟨b, off, rfl, hb, hcells⟩ := hcell (by omega)
                have hck := hcells j x hx
                have hzs : x.size ≤ maxLen := Nat.le_trans (kzP.out x (List.mem_of_getElem? hx)) (by decide)
                have hkey := key71 nmB x (by decide) hzs
                have hd6 : wr.cell? ⟨bd, 5, none⟩ = some (.map (some bn)) := (hJ.1.cell_far _ hbdW (by intro e; injection e with e; simp at e; omega)).trans hd5
                have z1 : (0 : Int) ≤ (j : Int) := by omega
                have z2 : (j : Int) < (pn : Int) := by omega
                have hmore := Lib.hid (inL_more hx)
                have hJ' := Lib.hid hJ
                clear hcell hcells hx hKe hJ
                cases pl
                · go_wp2
                  exact ⟨⟨j + 1, by omega, by go_num, hJ'.out.congr (by omega) (fun y => by simp)⟩, by simp [intOf]; omega⟩
                · obtain ⟨hgj, n2, D2, hn2, hD2, hS2⟩ := hJ'.out
                  have hval := plainElem_int (H := Unit) (P := Try.prog) (e := 3) Try.underlying3 (a := 1) (by decide)
                  have hgj' := Lib.hid hgj
                  have hD2' := Lib.hid hD2
                  have hS2' := Lib.hid hS2
                  clear hgj hD2 hS2
                  go_wp2_with (at_mapUpdate; refine wpList_mapUpdate_own _ rfl _ _ _ 54 rfl 71 3 law71 Try.underlying54 _ bn n2 D2 rfl hD2'.out (by unfold maxLen; omega) _ _ _ rfl rfl hkey (.lit (.int .i64 1)) [] hval ?_; intro w2 hown2 hgrow2)
                  exact ⟨⟨_, _, _, _, _, _, _, _, _, _, _, _, _, ⟨j + 1, by omega, by go_num, (NamedInv.put hgj'.out hn2 hD2'.out hS2'.out hzs hgrow2 hown2).congr (by omega) (fun y => by simp [hmore.out, Bool.or_assoc])⟩, rfl⟩, by simp [intOf]; omega⟩
              · obtain rfl : j = pn := by omega
                have hall : P.take j = P := List.take_of_length_le (by rw [← hPn.out]; exact Nat.le_refl _)
                rw [hall] at hJ
                have hJ' := Lib.hid hJ
                clear hall hJ
                go_wp2
                exact ⟨⟨1 + 1, by omega, by go_num, hJ'.out.congr (by omega) (fun y => by simp [Uf]; try cases S y <;> cases pl <;> cases inL y T <;> cases inL y P <;> simp)⟩, by simp [intOf]⟩
          · go_wp2_with fail
            go_loopw [73] (fun iv wr => ∃ j : Nat, j ≤ on ∧ iv = .int .i64 j ∧ NamedInv bn (nN + 2 * 1000000 + j) (fun x => Uf S pl T P O 2 x || (pl && inL x (O.take j))) W wr) (fun iv _ => on - (intOf iv).toNat)
            case atStart => exact ⟨0, Nat.zero_le _, rfl, hQ'.out.congr (by omega) (fun x => by simp [inL])⟩
            case round =>
              obtain ⟨j, hj, rfl, hJ⟩ := hrel
              by_cases hjn : j < on
              · obtain ⟨x, hx⟩ : ∃ x, O[j]? = some x := ⟨_, List.getElem?_eq_getElem (by rw [← hOn.out]; exact hjn)⟩
                have hKe : Keeps be bn G No W wr := Keeps.of_grown hJ.1 (by intro j hj; injection hj with hj; exact Or.inr (Or.inr (Or.inl hj.symm)))
                obtain ⟨a', n', c', e, -, -, -, hcell, -⟩ := kO.out wr (hKW'.out.trans hKe)
                injection e with e1 e2 e3
                subst e1 e2 e3
                obtain ⟨b, off, rfl, hb, hcells⟩ := hcell (by omega)
                have hck := hcells j x hx
                have hzs : x.size ≤ maxLen := Nat.le_trans (kzO.out x (List.mem_of_getElem? hx)) (by decide)
                have hkey := key71 nmB x (by decide) hzs
                have hd6 : wr.cell? ⟨bd, 5, none⟩ = some (.map (some bn)) := (hJ.1.cell_far _ hbdW (by intro e; injection e with e; simp at e; omega)).trans hd5
                have z1 : (0 : Int) ≤ (j : Int) := by omega
                have z2 : (j : Int) < (on : Int) := by omega
                have hmore := Lib.hid (inL_more hx)
                have hJ' := Lib.hid hJ
                clear hcell hcells hx hKe hJ
                cases pl
                · go_wp2
                  exact ⟨⟨j + 1, by omega, by go_num, hJ'.out.congr (by omega) (fun y => by simp)⟩, by simp [intOf]; omega⟩
                · obtain ⟨hgj, n2, D2, hn2, hD2, hS2⟩ := hJ'.out
                  have hval := plainElem_int (H := Unit) (P := Try.prog) (e := 3) Try.underlying3 (a := 1) (by decide)
                  have hgj' := Lib.hid hgj
                  have hD2' := Lib.hid hD2
                  have hS2' := Lib.hid hS2
                  clear hgj hD2 hS2
                  go_wp2_with (at_mapUpdate; refine wpList_mapUpdate_own _ rfl _ _ _ 54 rfl 71 3 law71 Try.underlying54 _ bn n2 D2 rfl hD2'.out (by unfold maxLen; omega) _ _ _ rfl rfl hkey (.lit (.int .i64 1)) [] hval ?_; intro w2 hown2 hgrow2)
                  exact ⟨⟨_, _, _, _, _, _, _, _, _, _, _, _, _, ⟨j + 1, by omega, by go_num, (NamedInv.put hgj'.out hn2 hD2'.out hS2'.out hzs hgrow2 hown2).congr (by omega) (fun y => by simp [hmore.out, Bool.or_assoc])⟩, rfl⟩, by simp [intOf]; omega⟩
              · obtain rfl : j = on := by omega
                have hall : O.take j = O := List.take_of_length_le (by rw [← hOn.out]; exact Nat.le_refl _)
                rw [hall] at hJ
                have hJ' := Lib.hid hJ
                clear hall hJ
                go_wp2
                exact ⟨⟨2 + 1, by omega, by go_num, hJ'.out.congr (by omega) (fun y => by simp [Uf]; try cases S y <;> cases pl <;> cases inL y T <;> cases inL y P <;> simp)⟩, by simp [intOf]⟩
        · obtain rfl : q = 3 := by omega
          go_wp2
          go_end0
          obtain ⟨hgq, n', D', hn', hD, hSD⟩ := hQ'.out
          have hKe : Keeps be bn G No W wr := Keeps.of_grown hgq (by intro j hj; injection hj with hj; exact Or.inr (Or.inr (Or.inl hj.symm)))
          obtain ⟨nE', DE', hnE', hE⟩ := hE3.out
          have hnb : some be ≠ some bn := fun e => by injection e with e; omega
          exact ⟨rfl, hKW'.out.trans hKe, ⟨nE', DE', hnE', hE.kept hgq hnb (hE.rowsAbove (fun j hj => by injection hj with hj; omega))⟩, shuns_weaken (hS2.out.kept hgq (by omega) hnb) (fun _ h => Or.inl h), ⟨n', D', by omega, hD, hSD.congr (fun n => by simp [Uf, hplh.out])⟩⟩
end Go.Proofs.Ytfnmncghgmnaaab
