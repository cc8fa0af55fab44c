/-
  DbCancels (4): the walk. Conditions: none.
-/
import Derived.Test.YtfnmncghgmnaaabDbJ
namespace Go.Proofs.Ytfnmncghgmnaaab
open Go.RowKit

def tsL : List ByteArray := [⟨#[37, 46, 111]⟩, ⟨#[37]⟩, ⟨#[37]⟩, ⟨#[40, 37, 41]⟩]
def psL : List ByteArray := [⟨#[37, 46, 99]⟩, ⟨#[37, 46, 111]⟩, ⟨#[37, 46, 99]⟩, ⟨#[37]⟩]
def rW (k : Nat) (b : Bool) : Ru := ⟨[tsL.getD k ⟨#[]⟩], [psL.getD k ⟨#[]⟩], [], false, true, false, ⟨#[]⟩, [], b, ⟨#[]⟩, false⟩
def wantL (k : Nat) (b : Bool) (n : Nat) : Nat → List Int
  | 0 => if b then [(n : Int) - 1] else []
  | q + 1 => wantL k b n q ++ (if q = k then [] else [(n : Int) + q])
theorem cancel_one (k : Nat) (b : Bool) (hk : k < 4) : implR (newRules false [rW k b]) 1 (newRules false [rW k b]).length = wantL k b 1 4 := by
  rcases (show k = 0 ∨ k = 1 ∨ k = 2 ∨ k = 3 by omega) with rfl | rfl | rfl | rfl <;> cases b <;> kernel_rfl
theorem cancel_two (k : Nat) (b : Bool) (hk : k < 4) : implR (newRules false [rW k b, rW k b]) 2 (newRules false [rW k b, rW k b]).length = wantL k b 2 4 := by
  rcases (show k = 0 ∨ k = 1 ∨ k = 2 ∨ k = 3 by omega) with rfl | rfl | rfl | rfl <;> cases b <;> kernel_rfl

theorem range_alloc' (w : World) (cs : List Value) (t : TypeId) (g : Nat) (hg : g = w.heap.size) : (w.alloc (.cells cs.toArray t)).rangeAt g 0 cs := by rw [hg]; exact range_alloc w cs t
theorem wantL_len (k : Nat) (b : Bool) (n : Nat) : ∀ q, (wantL k b n q).length ≤ q + 1
  | 0 => by unfold wantL; split <;> simp
  | q + 1 => by
    have := wantL_len k b n q
    rw [wantL, List.length_append]
    split <;> simp <;> omega
theorem cancel_small (k : Nat) (b t : Bool) (hk : k < 4) : BaseSmall (if t then [rW k b, rW k b] else [rW k b]) := by
  have h1 : RuSmall (rW k b) := by simp [RuSmall, rW]
  have h2 : (tsL.getD k ⟨#[]⟩).size ≤ big ∧ (psL.getD k ⟨#[]⟩).size ≤ big := by
    rcases (show k = 0 ∨ k = 1 ∨ k = 2 ∨ k = 3 by omega) with rfl | rfl | rfl | rfl <;> decide
  have hm : ∀ r ∈ (if t then [rW k b, rW k b] else [rW k b]), r = rW k b := by
    intro r hr; cases t <;> simpa using hr
  refine ⟨by cases t <;> simp, by cases t <;> simp [preW, rW], fun r hr => by rw [hm r hr]; exact h1, fun r hr s hs => ?_, fun r hr s hs => ?_, fun r hr s hs => ?_⟩
  · rw [hm r hr] at hs; simp [rW] at hs; rw [hs]; simpa using h2.1
  · rw [hm r hr] at hs; simp [rW] at hs; rw [hs]; simpa using h2.2
  · rw [hm r hr] at hs; simp [rW] at hs
set_option maxRecDepth 100000 in
set_option maxHeartbeats 2000000 in
theorem cancels_calls (which : Int) (recipe twice : Bool) (w : World) : Calls Try.prog 4 #[.int .i64 which, .bool recipe, .bool twice] w fun e w' => e = .returned (.bool true) ∧ Below w.heap.size w w' := by
  go_enter Try.func4, Try.ntmps4
  go_wp2_with fail
  refine (alive_calls w).mono ?_
  rintro e w1 ⟨rfl, hB1⟩
  have hB1' := Lib.hid hB1
  clear hB1
  by_cases hneg : which < 0
  · go_wp2
    go_ret
    exact ⟨rfl, hB1'.out⟩
  · by_cases hbig : 3 < which
    · go_wp2
      go_ret
      exact ⟨rfl, hB1'.out⟩
    · obtain ⟨k, rfl⟩ : ∃ k : Nat, which = (k : Int) := ⟨which.toNat, by omega⟩
      have hk : k < 4 := by omega
      have z1 : (0 : Int) ≤ (k : Int) := by omega
      have z2 : (k : Int) < 4 := by omega
      go_wp2_with fail
      obtain ⟨tk, htk⟩ : ∃ s, tsL[k]? = some s := ⟨_, List.getElem?_eq_getElem (by simpa [tsL] using hk)⟩
      obtain ⟨pk, hpk⟩ : ∃ s, psL[k]? = some s := ⟨_, List.getElem?_eq_getElem (by simpa [psL] using hk)⟩
      have hBw := below_al (o := .cells #[Value.string ⟨#[37, 46, 99]⟩, .string ⟨#[37, 46, 111]⟩, .string ⟨#[37, 46, 99]⟩, .string ⟨#[37]⟩] 9) (below_al (o := .cells #[Value.string ⟨#[37, 46, 111]⟩, .string ⟨#[37]⟩, .string ⟨#[37]⟩, .string ⟨#[40, 37, 41]⟩] 9) (Below.refl w1.heap.size w1))
      have hct : ((w1.alloc (.cells #[Value.string ⟨#[37, 46, 111]⟩, .string ⟨#[37]⟩, .string ⟨#[37]⟩, .string ⟨#[40, 37, 41]⟩] 9)).alloc (.cells #[Value.string ⟨#[37, 46, 99]⟩, .string ⟨#[37, 46, 111]⟩, .string ⟨#[37, 46, 99]⟩, .string ⟨#[37]⟩] 9)).cell? ⟨w1.heap.size, k, none⟩ = some (.string tk) := by
        rw [World.cell?_of_block (heap_alloc_old _ _ (by simp))]
        have := range_alloc w1 (scells tsL) 9 k (.string tk) (by simp [scells, htk])
        rwa [Nat.zero_add] at this
      have hcp : ((w1.alloc (.cells #[Value.string ⟨#[37, 46, 111]⟩, .string ⟨#[37]⟩, .string ⟨#[37]⟩, .string ⟨#[40, 37, 41]⟩] 9)).alloc (.cells #[Value.string ⟨#[37, 46, 99]⟩, .string ⟨#[37, 46, 111]⟩, .string ⟨#[37, 46, 99]⟩, .string ⟨#[37]⟩] 9)).cell? ⟨w1.heap.size + 1, k, none⟩ = some (.string pk) := by
        have := range_alloc (w1.alloc (.cells #[Value.string ⟨#[37, 46, 111]⟩, .string ⟨#[37]⟩, .string ⟨#[37]⟩, .string ⟨#[40, 37, 41]⟩] 9)) (scells psL) 9 k (.string pk) (by simp [scells, hpk])
        rw [Nat.zero_add] at this
        have e : (w1.alloc (.cells #[Value.string ⟨#[37, 46, 111]⟩, .string ⟨#[37]⟩, .string ⟨#[37]⟩, .string ⟨#[40, 37, 41]⟩] 9)).heap.size = w1.heap.size + 1 := by simp
        rw [e] at this
        exact this
      have hlt1 : w1.heap.size < ((w1.alloc (.cells #[Value.string ⟨#[37, 46, 111]⟩, .string ⟨#[37]⟩, .string ⟨#[37]⟩, .string ⟨#[40, 37, 41]⟩] 9)).alloc (.cells #[Value.string ⟨#[37, 46, 99]⟩, .string ⟨#[37, 46, 111]⟩, .string ⟨#[37, 46, 99]⟩, .string ⟨#[37]⟩] 9)).heap.size := by simp; omega
      have hlt2 : w1.heap.size + 1 < ((w1.alloc (.cells #[Value.string ⟨#[37, 46, 111]⟩, .string ⟨#[37]⟩, .string ⟨#[37]⟩, .string ⟨#[40, 37, 41]⟩] 9)).alloc (.cells #[Value.string ⟨#[37, 46, 99]⟩, .string ⟨#[37, 46, 111]⟩, .string ⟨#[37, 46, 99]⟩, .string ⟨#[37]⟩] 9)).heap.size := by simp
      have hB2 := Lib.hid (hBw.mono' hB1'.out)
      have hrw : Hid (rW k recipe = ⟨[tk], [pk], [], false, true, false, ⟨#[]⟩, [], recipe, ⟨#[]⟩, false⟩) := Lib.hid (by unfold rW; rw [List.getD_eq_getElem?_getD, htk, List.getD_eq_getElem?_getD, hpk]; rfl)
      clear hBw htk hpk
      generalize (w1.alloc (.cells #[Value.string ⟨#[37, 46, 111]⟩, .string ⟨#[37]⟩, .string ⟨#[37]⟩, .string ⟨#[40, 37, 41]⟩] 9)).alloc (.cells #[Value.string ⟨#[37, 46, 99]⟩, .string ⟨#[37, 46, 111]⟩, .string ⟨#[37, 46, 99]⟩, .string ⟨#[37]⟩] 9) = w2 at hct hcp hB2 hlt1 hlt2 ⊢
      generalize w1.heap.size = h1 at hct hcp hlt1 hlt2 ⊢
      have hne1 := World.new_ne w2 _ hct
      have hne2 := World.new_ne w2 _ hcp
      go_cut [10] from 30 to 41 (fun v10 wx => ∃ b10 t p, v10 = .pointer (some ⟨b10, 0, none⟩) ∧ wx.rangeAt b10 0 (Pl.cells ⟨rW k recipe, t, p, .slice none 0 0, .slice none 0 0⟩) ∧ b10 < wx.heap.size ∧ w.heap.size ≤ b10 ∧ Pl.at ⟨rW k recipe, t, p, .slice none 0 0, .slice none 0 0⟩ wx ∧ Below w.heap.size w wx)
      case first =>
        go_region_held3 (fun w' => w'.cell? ⟨h1, k, none⟩ = some (.string tk) ∧ w'.cell? ⟨h1 + 1, k, none⟩ = some (.string pk)) (first
          | (try dsimp only
             refine ⟨((bcell (W := w2) ?_).1 h1 k hlt1).trans hct, ((bcell (W := w2) ?_).1 (h1 + 1) k hlt2).trans hcp⟩
             · repeat' first
                 | exact Below.refl _ _
                 | refine below_al ?_
                 | refine Below.drew ?_
                 | refine Below.setCell ?_ (by simp) _
             · repeat' first
                 | exact Below.refl _ _
                 | refine below_al ?_
                 | refine Below.drew ?_
                 | refine Below.setCell ?_ (by simp) _)) (fail)
        all_goals go_wp2_with fail
        · go_meet
          case rel =>
            rw [hrw.out]
            exact ⟨w2.heap.size + 1 + 1, .slice (some ⟨w2.heap.size, 0, none⟩) 1 1, .slice (some ⟨w2.heap.size + 1, 0, none⟩) 1 1, rfl, range_below (range_alloc' _ _ 43 _ (by simp)) (Below.refl _ _).drew (by simp; try omega), by simp; try omega, by have := hB2.out.size; omega, ⟨(strs_block _ 9 _ 1 _ [tk] rfl rfl (by simp) (by omega)).below (below_al (below_al (Below.refl _ _))).drew, (strs_block _ 9 _ 1 _ [pk] rfl rfl (by simp) (by omega)).below (below_al (Below.refl _ _)).drew, strsAt_none _, strsAt_none _⟩, ((below_al (below_al (below_al (Below.refl _ _)))).drew).mono' hB2.out⟩
        · go_meet
          case rel =>
            rw [hrw.out]
            exact ⟨w2.heap.size + 1, .slice (some ⟨w2.heap.size, 0, none⟩) 1 1, .slice (some ⟨w2.heap.size + 1 + 1, 0, none⟩) 1 1, rfl, range_below (range_alloc' _ _ 43 _ (by simp)) (below_al (Below.refl _ _)).drew (by simp; try omega), by simp; try omega, by have := hB2.out.size; omega, ⟨(strs_block _ 9 _ 1 _ [tk] rfl rfl (by simp) (by omega)).below (below_al (below_al (Below.refl _ _))).drew, (strs_block _ 9 _ 1 _ [pk] rfl rfl (by simp) (by omega)).below (Below.refl _ _).drew, strsAt_none _, strsAt_none _⟩, ((below_al (below_al (below_al (Below.refl _ _)))).drew).mono' hB2.out⟩
        · go_meet
          case rel =>
            rw [hrw.out]
            exact ⟨w2.heap.size + 1 + 1, .slice (some ⟨w2.heap.size + 1, 0, none⟩) 1 1, .slice (some ⟨w2.heap.size, 0, none⟩) 1 1, rfl, range_below (range_alloc' _ _ 43 _ (by simp)) (Below.refl _ _).drew (by simp; try omega), by simp; try omega, by have := hB2.out.size; omega, ⟨(strs_block _ 9 _ 1 _ [tk] rfl rfl (by simp) (by omega)).below (below_al (Below.refl _ _)).drew, (strs_block _ 9 _ 1 _ [pk] rfl rfl (by simp) (by omega)).below (below_al (below_al (Below.refl _ _))).drew, strsAt_none _, strsAt_none _⟩, ((below_al (below_al (below_al (Below.refl _ _)))).drew).mono' hB2.out⟩
        · go_meet
          case rel =>
            rw [hrw.out]
            exact ⟨w2.heap.size + 1, .slice (some ⟨w2.heap.size + 1 + 1, 0, none⟩) 1 1, .slice (some ⟨w2.heap.size, 0, none⟩) 1 1, rfl, range_below (range_alloc' _ _ 43 _ (by simp)) (below_al (Below.refl _ _)).drew (by simp; try omega), by simp; try omega, by have := hB2.out.size; omega, ⟨(strs_block _ 9 _ 1 _ [tk] rfl rfl (by simp) (by omega)).below (Below.refl _ _).drew, (strs_block _ 9 _ 1 _ [pk] rfl rfl (by simp) (by omega)).below (below_al (below_al (Below.refl _ _))).drew, strsAt_none _, strsAt_none _⟩, ((below_al (below_al (below_al (Below.refl _ _)))).drew).mono' hB2.out⟩
        · go_meet
          case rel =>
            rw [hrw.out]
            exact ⟨w2.heap.size, .slice (some ⟨w2.heap.size + 1, 0, none⟩) 1 1, .slice (some ⟨w2.heap.size + 1 + 1, 0, none⟩) 1 1, rfl, range_below (range_alloc' _ _ 43 _ (by simp)) (below_al (below_al (Below.refl _ _))).drew (by simp; try omega), by simp; try omega, by have := hB2.out.size; omega, ⟨(strs_block _ 9 _ 1 _ [tk] rfl rfl (by simp) (by omega)).below (below_al (Below.refl _ _)).drew, (strs_block _ 9 _ 1 _ [pk] rfl rfl (by simp) (by omega)).below (Below.refl _ _).drew, strsAt_none _, strsAt_none _⟩, ((below_al (below_al (below_al (Below.refl _ _)))).drew).mono' hB2.out⟩
        · go_meet
          case rel =>
            rw [hrw.out]
            exact ⟨w2.heap.size, .slice (some ⟨w2.heap.size + 1 + 1, 0, none⟩) 1 1, .slice (some ⟨w2.heap.size + 1, 0, none⟩) 1 1, rfl, range_below (range_alloc' _ _ 43 _ (by simp)) (below_al (below_al (Below.refl _ _))).drew (by simp; try omega), by simp; try omega, by have := hB2.out.size; omega, ⟨(strs_block _ 9 _ 1 _ [tk] rfl rfl (by simp) (by omega)).below (Below.refl _ _).drew, (strs_block _ 9 _ 1 _ [pk] rfl rfl (by simp) (by omega)).below (below_al (Below.refl _ _)).drew, strsAt_none _, strsAt_none _⟩, ((below_al (below_al (below_al (Below.refl _ _)))).drew).mono' hB2.out⟩
      case rest =>
        obtain ⟨b10, t, p, rfl, hr, hlt, hge, hx, hB3⟩ := hcut
        obtain ⟨⟨ta, tn, tc, rfl⟩, ⟨pa, pn, pc, rfl⟩, -, -⟩ := RuAt.slices hx
        obtain ⟨g0, g1, g2, g3, g4, g5, g6, g7, g8, g9, g10⟩ := range11 hr
        rw [Nat.zero_add] at g1 g2 g3 g4 g5 g6 g7 g8 g9 g10
        have hx' := Lib.hid hx
        have hr' := Lib.hid hr
        have hB3' := Lib.hid hB3
        have hBle := hB3.size
        clear hx hr hB3 hrw hB2 hct hcp hne1 hne2 hlt1 hlt2
        go_upto_if 45 with (fail)
        obtain ⟨W3, hW3⟩ : ∃ W3, W3 = (wc.alloc (.cells (Pl.cells ⟨rW k recipe, .slice ta tn tc, .slice pa pn pc, .slice none 0 0, .slice none 0 0⟩).toArray 43)).alloc (.cells #[Value.slice (some ⟨wc.heap.size, 0, none⟩) 1 1, .slice none 0 0, .slice none 0 0, .slice none 0 0, .slice none 0 0, .string ⟨#[]⟩, .slice none 0 0] 28) := ⟨_, rfl⟩
        have f1 : W3.heap[wc.heap.size + 1]? = some (.cells #[Value.slice (some ⟨wc.heap.size, 0, none⟩) 1 1, .slice none 0 0, .slice none 0 0, .slice none 0 0, .slice none 0 0, .string ⟨#[]⟩, .slice none 0 0] 28 (0, 0)) := by
          have := heap_alloc_new (wc.alloc (.cells (Pl.cells ⟨rW k recipe, .slice ta tn tc, .slice pa pn pc, .slice none 0 0, .slice none 0 0⟩).toArray 43)) (.cells #[Value.slice (some ⟨wc.heap.size, 0, none⟩) 1 1, .slice none 0 0, .slice none 0 0, .slice none 0 0, .slice none 0 0, .string ⟨#[]⟩, .slice none 0 0] 28)
          rw [hW3]
          simpa using this
        have f2 : W3.ownsRow w.heap.size 43 11 (.slice (some ⟨wc.heap.size, 0, none⟩) 1 1) 1 (flat [⟨rW k recipe, .slice ta tn tc, .slice pa pn pc, .slice none 0 0, .slice none 0 0⟩]) := by
          rw [hW3]
          have := (World.ownsRow_lit (base := w.heap.size) (e := 43) (size := 11) wc (flat [⟨rW k recipe, .slice ta tn tc, .slice pa pn pc, .slice none 0 0, .slice none 0 0⟩]).toArray 1 hBle (by unfold maxLen; omega) (by simp [flat_length])).alloc (.cells #[Value.slice (some ⟨wc.heap.size, 0, none⟩) 1 1, .slice none 0 0, .slice none 0 0, .slice none 0 0, .slice none 0 0, .string ⟨#[]⟩, .slice none 0 0] 28)
          simpa [flat] using this
        have hBc : Below wc.heap.size wc W3 := by rw [hW3]; exact below_al (below_al (Below.refl _ _))
        have f3 := Lib.hid (show Pl.at ⟨rW k recipe, .slice ta tn tc, .slice pa pn pc, .slice none 0 0, .slice none 0 0⟩ W3 from RuAt.below hx'.out hBc)
        have f4 := Lib.hid (hBc.mono' hB3'.out)
        have f5 := range_below hr'.out hBc hlt
        have fo : Pl.off ⟨rW k recipe, .slice ta tn tc, .slice pa pn pc, .slice none 0 0, .slice none 0 0⟩ (fun g => wc.heap.size ≤ g) := Pl.at.off (W := fun _ => False) hx'.out ⟨fun _ _ _ _ _ k => k, fun _ _ _ _ _ k => k, fun _ _ _ _ _ k => k, fun _ _ _ _ _ k => k⟩ (fun g k => Or.inr k)
        have hsz3 := Lib.hid (show W3.heap.size = wc.heap.size + 2 by rw [hW3]; simp)
        have hW3b : w.heap.size ≤ W3.heap.size := by have := hsz3.out; omega
        change Code.wp _ _ _ _ ((wc.alloc (.cells (Pl.cells ⟨rW k recipe, .slice ta tn tc, .slice pa pn pc, .slice none 0 0, .slice none 0 0⟩).toArray 43)).alloc (.cells #[Value.slice (some ⟨wc.heap.size, 0, none⟩) 1 1, .slice none 0 0, .slice none 0 0, .slice none 0 0, .slice none 0 0, .string ⟨#[]⟩, .slice none 0 0] 28))
        rw [← hW3]
        clear hW3 hBc g0 g1 g2 g3 g4 g5 g6 g7 g8 g9 g10
        generalize wc.heap.size = hb at f1 f2 fo hsz3 hlt hBle ⊢
        go_cut [] from 46 to 51 (fun wx => ∃ (ad : Option Addr) (n cap : Nat) (xs : List Pl), wx.heap[hb + 1]? = some (.cells #[Value.slice ad n cap, .slice none 0 0, .slice none 0 0, .slice none 0 0, .slice none 0 0, .string ⟨#[]⟩, .slice none 0 0] 28 (0, 0)) ∧ RulesAt wx (.slice ad n cap) xs ∧ xs.map Pl.r = (if twice then [rW k recipe, rW k recipe] else [rW k recipe]) ∧ n = (if twice then 2 else 1) ∧ Below w.heap.size w wx)
        case first =>
          cases twice
          · go_wp2_with fail
            go_meet
            case rel => exact ⟨_, 1, 1, [⟨rW k recipe, .slice ta tn tc, .slice pa pn pc, .slice none 0 0, .slice none 0 0⟩], f1, ⟨rowAt_own f2, fun x hx => by simp at hx; subst hx; exact f3.out⟩, rfl, rfl, f4.out⟩
          · obtain ⟨i43, hi43, hz43, hs43, hb43⟩ := info_parts info43
            obtain ⟨c28, -⟩ := cell_of_d (o := 0) f1 rfl
            obtain ⟨g0, g1, g2, g3, g4, g5, g6, g7, g8, g9, g10⟩ := range11 f5
            rw [Nat.zero_add] at g1 g2 g3 g4 g5 g6 g7 g8 g9 g10
            have f1' := Lib.hid f1
            have f2' := Lib.hid f2
            have hneD : (Value.slice (some ⟨hb, 0, none⟩) 1 1).ownBlock ≠ some (hb + 1) := by simp [Value.ownBlock]
            clear f1 f2 f5
            go_wp2_with (at_builtin; refine wpList_append_lies _ rfl (.tmp 47) (.tmp 49) 22 rfl w.heap.size 43 i43 _ 11 152 Try.underlying22 hi43 hz43 hs43 hb43 rfl (by omega) (.slice (some ⟨hb, 0, none⟩) 1 1) 1 (flat [⟨rW k recipe, .slice ta tn tc, .slice pa pn pc, .slice none 0 0, .slice none 0 0⟩]) rfl (f2'.out.alloc _) ⟨W3.heap.size, 0, none⟩ 1 1 (Pl.cells ⟨rW k recipe, .slice ta tn tc, .slice pa pn pc, .slice none 0 0, .slice none 0 0⟩) rfl rfl (World.news_of_block (cs := (Pl.cells ⟨rW k recipe, .slice ta tn tc, .slice pa pn pc, .slice none 0 0, .slice none 0 0⟩).toArray) (t := 43) (fr := (0, 0)) (heap_alloc_new W3 _)) (Pl.at.one f3.out) (by omega) (by unfold maxLen; omega) (by omega) (by simp; omega) (W3.heap.size + 1) (by simp) ?_; intro gg cap2 w6 hown6 hgrow6 hat6 hlt6; have hd6 := dcells_after f1'.out hgrow6 ⟨rfl, rfl, rfl, by simp, fun g hg _ => heap_alloc_old _ _ hg⟩ hneD; obtain ⟨hc6, hf6⟩ := cell_of_d (o := 0) hd6 rfl; have hd6' := Lib.hid hd6; clear hd6)
            go_meet
            case rel =>
              have hwo : Only (fun _ => False) W3 (W3.alloc (.cells (Pl.cells ⟨rW k recipe, .slice ta tn tc, .slice pa pn pc, .slice none 0 0, .slice none 0 0⟩).toArray 43)) := ⟨rfl, rfl, rfl, by simp, fun g hg _ => heap_alloc_old _ _ hg⟩
              have hO := append_only (bd := hb + 1) (o := 0) (u := .slice (some ⟨gg, 0, none⟩) 2 cap2) hwo hgrow6
              have hgg : gg ≠ hb + 1 := by
                rcases hat6 with e | e
                · injection e with e; dsimp only at e; omega
                · have := hsz3.out; omega
              have hrow := ownsRow_only (Tm := fun g => g = hb + 1) hown6 (Only.setCell (Tm := fun g => g = hb + 1) (Only.refl _ w6) (b := hb + 1) (o := 0) rfl (.slice (some ⟨gg, 0, none⟩) 2 cap2)) (fun g e k => hgg ((by simpa [Value.ownBlock] using e : gg = g).trans k))
              have hxO : Pl.at ⟨rW k recipe, .slice ta tn tc, .slice pa pn pc, .slice none 0 0, .slice none 0 0⟩ (w6.setCell ⟨hb + 1, 0, none⟩ (.slice (some ⟨gg, 0, none⟩) 2 cap2)) := f3.out.only (fo.mono (fun g k => by
                rcases k with k | k
                · injection k with k; dsimp only at k; omega
                · omega)) hO
              have hsz3' := hsz3.out
              refine ⟨_, 2, cap2, [⟨rW k recipe, .slice ta tn tc, .slice pa pn pc, .slice none 0 0, .slice none 0 0⟩, ⟨rW k recipe, .slice ta tn tc, .slice pa pn pc, .slice none 0 0, .slice none 0 0⟩], by rw [heap_setCell_same _ _ _ _ _ _ hd6'.out]; rfl, ⟨rowAt_own (base := w.heap.size) ?_, fun x hx => by simp at hx; subst hx; exact hxO⟩, rfl, rfl, hO.below f4.out (by omega) (fun g k => by
                rcases k with k | k
                · injection k with k; dsimp only at k; omega
                · omega)⟩
              simpa [flat] using hrow
        case rest =>
          obtain ⟨ad, n, cap, xs, hd11, hR, hxr, hn, hB4⟩ := hcut
          have e0 := (cell_of_d (o := 0) hd11 rfl).1
          have e1 := (cell_of_d (o := 1) hd11 rfl).1
          have e2 := (cell_of_d (o := 2) hd11 rfl).1
          have e3 := (cell_of_d (o := 3) hd11 rfl).1
          have e4 := (cell_of_d (o := 4) hd11 rfl).1
          have e5 := (cell_of_d (o := 5) hd11 rfl).1
          have e6 := (cell_of_d (o := 6) hd11 rfl).1
          have hb11 := heap_lt hd11
          have hR' := Lib.hid hR
          have hB4' := Lib.hid hB4
          have hxr' := Lib.hid hxr
          have hxn : xs.length = n := by
            have h := congrArg List.length hxr
            rw [List.length_map] at h
            cases twice
            · simp at h hn; omega
            · simp at h hn; omega
          have hn12 : 1 ≤ n ∧ n ≤ 2 := by cases twice <;> simp at hn <;> omega
          obtain ⟨hna, hnb⟩ := hn12
          have hwant : implR (newRules false (xs.map Pl.r)) n (newRules false (xs.map Pl.r)).length = wantL k recipe n 4 := by
            rw [hxr, hn]
            cases twice
            · exact cancel_one k recipe hk
            · exact cancel_two k recipe hk
          have hwant' := Lib.hid hwant
          clear hn
          clear hd11 hR hB4 hxr hwant f3 f4 f5 fo f1 f2 hsz3 hx' hr' hB3'
          go_wp2_with fail
          refine (new_calls (.slice ad n cap) none none none none none 0 0 0 0 0 0 0 0 0 0 ⟨#[]⟩ xs false wc hR'.out (by rw [hxr'.out]; exact cancel_small k recipe twice hk)).mono ?_
          rintro e w6 ⟨bd, rfl, hB6, hD⟩
          rw [hxn, hwant'.out] at hD
          have hD' := Lib.hid hD
          have hB6' := Lib.hid (hB6.mono' hB4'.out)
          have e7 := (hB6.cell (p := ⟨hb + 1, 0, none⟩) hb11).trans e0
          clear hD hB6 e0 e1 e2 e3 e4 e5 e6
          obtain ⟨i3, hi3, hz3, hs3, hb3⟩ := info_parts info3
          go_upto_if 59 with (fail)
          go_cut [14] from 60 to 64 (fun v14 wx => wx.ownsRow w6.heap.size 3 1 v14 (wantL k recipe n 0).length ((wantL k recipe n 0).map (Value.int .i64)) ∧ Below w6.heap.size w6 wx)
          case first =>
            cases recipe
            · go_wp2_with fail
              go_meet
              case rel => exact ⟨World.ownsRow_nil _ _ _ _, Below.refl _ _⟩
            · have y1 : (1 : Int) ≤ (n : Int) := by omega
              have y2 : (n : Int) ≤ 2 := by omega
              go_wp2_with (at_builtin; refine wpList_append_own _ rfl (.tmp 60) (.tmp 63) 45 rfl w6.heap.size 3 i3 _ 1 8 Try.underlying45 hi3 hz3 hs3 hb3 rfl (by decide) _ _ _ rfl (World.ownsRow_nil _ _ _ _) ⟨w6.heap.size, 0, none⟩ 1 1 [.int .i64 ((n : Int) - 1)] rfl rfl (World.news_of_block (cs := #[.int .i64 ((n : Int) - 1)]) (t := 3) (fr := (0, 0)) (heap_alloc_new w6 _)) (by simp [Value.oneCell']) (by unfold maxLen; omega) (by omega) (by simp) ?_; intro v' w7 hown7 hgrow7 _)
              go_meet
              case rel => exact ⟨by simpa [wantL] using hown7, (below_al (Below.refl _ _)).grown hgrow7 (by simp) (fun k e => by cases e)⟩
          case rest =>
            obtain ⟨hW0, hBW⟩ := hcut
            have hW0' := Lib.hid hW0
            have hBW' := Lib.hid hBW
            clear hW0 hBW
            go_wp2_with fail
            go_loopw [14, 15] (fun lv iv wr => ∃ q : Nat, q ≤ 4 ∧ iv = .int .i64 q ∧ wr.ownsRow w6.heap.size 3 1 lv (wantL k recipe n q).length ((wantL k recipe n q).map (Value.int .i64)) ∧ Below w6.heap.size w6 wr) (fun _ iv _ => 4 - (intOf iv).toNat)
            case atStart => exact ⟨0, by omega, rfl, hW0'.out, hBW'.out⟩
            case round =>
              obtain ⟨q, hq, rfl, hown, hBr⟩ := hrel
              have hBr' := Lib.hid hBr
              have hbr := hBr.size
              have hown' := Lib.hid hown
              have hlen := wantL_len k recipe n q
              by_cases hq4 : q < 4
              · by_cases hqk : q = k
                · have y1 : ((q : Int) != (k : Int)) = false := by simp [hqk]
                  have hw : wantL k recipe n (q + 1) = wantL k recipe n q := by rw [wantL, if_pos hqk, List.append_nil]
                  have hw' := Lib.hid hw
                  have hqk' := Lib.hid hqk
                  clear hown hBr hw hlen hqk
                  go_wp2
                  exact ⟨⟨q + 1, by omega, by go_num, by rw [hw'.out]; exact hown'.out, hBr'.out⟩, by simp [intOf]; omega⟩
                · have y1 : ((q : Int) != (k : Int)) = true := by simp; omega
                  have hw : wantL k recipe n (q + 1) = wantL k recipe n q ++ [(n : Int) + q] := by rw [wantL, if_neg hqk]
                  have hw' := Lib.hid hw
                  have hl9 : (wantL k recipe n q).length ≤ 5 := by omega
                  clear hBr hw hlen hown hqk
                  go_wp2_with (at_builtin; refine wpList_append_own _ rfl (.tmp 72) (.tmp 76) 45 rfl w6.heap.size 3 i3 _ 1 8 Try.underlying45 hi3 hz3 hs3 hb3 rfl (by decide) _ _ _ rfl (hown'.out.alloc _) ⟨wr.heap.size, 0, none⟩ 1 1 [.int .i64 ((n : Int) + q)] rfl rfl (World.news_of_block (cs := #[.int .i64 ((n : Int) + q)]) (t := 3) (fr := (0, 0)) (heap_alloc_new wr _)) (by simp [Value.oneCell']) (by unfold maxLen; omega) (by omega) (by simp; omega) ?_; intro v' w7 hown7 hgrow7 _)
                  have hB7 := (hBr'.out.alloc hbr (.cells #[.int .i64 ((n : Int) + q)] 3)).grown hgrow7 (by simp; omega) (fun j e => (hown'.out.lt j e).1)
                  exact ⟨⟨q + 1, by omega, by go_num, by rw [hw'.out, List.length_append]; simpa using hown7, hB7⟩, by simp [intOf]; omega⟩
              · obtain rfl : q = 4 := by omega
                clear hlen
                clear hown hBr
                go_wp2_with fail
                refine (implicit_calls _ bd n _ _ (wantL k recipe n 4) _ wr (hD'.out.below hBr'.out) (by have := wantL_len k recipe n 4; omega)).mono ?_
                rintro e w7 ⟨v', rfl, hI7, hB7⟩
                have hI7' := Lib.hid hI7
                have hB7' := Lib.hid hB7
                clear hI7 hB7
                go_wp2_with fail
                refine (sameInts_calls v' _ (wantL k recipe n 4) w7 hI7'.out ((intsAt_own hown'.out).below hB7'.out)).mono ?_
                rintro e w8 ⟨rfl, hB8⟩
                have hB8' := Lib.hid ((hB8.mono' (hB7'.out.mono' hBr'.out)).mono' hB6'.out)
                clear hB8
                go_wp2
                go_ret
                exact ⟨rfl, hB8'.out⟩
end Go.Proofs.Ytfnmncghgmnaaab
