/-
  The reference's Glob (function 18) answers whether a whole name matches. Condition: pattern and name have at most 1,000,000 bytes.
-/
import Derived.Test.YtfnmncghgmnaaaaGlobA
import Derived.Deep.DeepCutAuto
import Derived.Deep.CutBlock
namespace Go.Proofs.Ytfnmncghgmnaaaa
open Go.RowKit

/-- The pieces' slice, whether nil or not. -/
theorem pieces_open {w : World} {base : Nat} {v : Value} {qs : List Gl.Part} (h : w.ownsRow base 52 4 v qs.length (qs.flatMap pcells)) :
    ∃ (ao : Option Addr) (n cap : Nat), v = .slice ao n cap ∧ n = qs.length ∧ n ≤ cap ∧
      ∀ (k : Nat) (q : Gl.Part), qs[k]? = some q → ∃ g, ao = some ⟨g, 0, none⟩ ∧ g < w.heap.size ∧ ∀ (i : Nat) (u : Value), (pcells q)[i]? = some u → w.cell? ⟨g, k * 4 + i, none⟩ = some u := by
  rcases pieces_view h with ⟨rfl, rfl⟩ | ⟨g, cap, rfl, _, hgl, hcap, hcells⟩
  · exact ⟨none, 0, 0, rfl, rfl, Nat.le_refl _, fun k q h => by simp at h⟩
  · exact ⟨some ⟨g, 0, none⟩, _, cap, rfl, rfl, hcap, fun k q hq => ⟨g, rfl, hgl, fun i u hu => hcells k q i u hq hu⟩⟩

def startsByte : List Gl.Part → Bool | .byte _ :: _ => true | _ => false
/-- The point's rule as the reference has it. -/
def dotNo (p s : List UInt8) : Bool := Gl.hidden s && !startsByte (Gl.parts p)
theorem whole_dot (p s : List UInt8) : Gl.whole true p s = if dotNo p s then false else Gl.mt (Gl.parts p) s := by
  unfold Gl.whole dotNo
  cases hh : Gl.hidden s with
  | false => rfl
  | true =>
    cases s with
    | nil => cases hh
    | cons c t =>
      have hc : c = 46 := by simpa [Gl.hidden] using hh
      subst hc
      match Gl.parts p with
      | [] => rfl
      | .star :: l => rfl
      | .any :: l => rfl
      | .set _ _ :: l => rfl
      | .byte d :: l =>
        by_cases hd : d = 46
        · subst hd; rfl
        · have : (d == 46) = false := beq_eq_false_iff_ne.2 hd
          simp [Gl.points, startsByte, this, Gl.mt_one, Gl.one]

theorem BoolsAt.keep {w w' : World} {g : Nat} {l : List Bool} (hb : Below w.heap.size w w') (h : BoolsAt w g l) : BoolsAt w' g l := h.below hb
theorem any_snoc {nb : List Bool} {j : Nat} {b : Bool} (h : nb[j]? = some b) : (nb.take (j + 1)).any id = ((nb.take j).any id || b) := by
  rw [Gl.take_snoc h]; simp
theorem scan_done {nb nx : List Bool} {m : Nat} (h1 : nb.length = m) (h2 : nx.length = m) (h3 : ∀ k, k < m → nx[k]? = some ((nb.take (k + 1)).any id)) : nx = scanOr false nb := by
  apply List.ext_getElem?
  intro k
  by_cases hk : k < m
  · rw [h3 k hk, scan_at nb false k (by omega)]; simp
  · rw [List.getElem?_eq_none (by omega), List.getElem?_eq_none (by rw [scan_len]; omega)]
theorem step_done {nb nx : List Bool} {s : List UInt8} {q : Gl.Part} (h1 : nb.length = s.length + 1) (h2 : nx.length = s.length + 1) (h0 : nx[0]? = some false)
    (h3 : ∀ (k : Nat) (b : Bool) (c : UInt8), nb[k]? = some b → s[k]? = some c → nx[k + 1]? = some (b && Gl.one q c)) : nx = false :: stepOne q nb s := by
  apply List.ext_getElem?
  intro k
  cases k with
  | zero => simpa using h0
  | succ k =>
    rw [List.getElem?_cons_succ]
    by_cases hk : k < s.length
    · rw [h3 k _ _ (List.getElem?_eq_getElem (by omega)) (List.getElem?_eq_getElem hk), step_at q nb s k _ _ (List.getElem?_eq_getElem (by omega)) (List.getElem?_eq_getElem hk)]
    · rw [List.getElem?_eq_none (by omega), List.getElem?_eq_none (by rw [step_len q nb s h1]; omega)]
theorem reach_step {nb : List Bool} {s : List UInt8} {q : Gl.Part} {l : List Gl.Part} (hq : q ≠ .star) (h1 : nb.length = s.length + 1) : reach (false :: stepOne q nb s) l s = reach nb (q :: l) s := by
  rw [reach, Bool.false_and, Bool.false_or, reach_one q l hq nb s h1]
theorem rone_calls' (q : Gl.Part) (vs : List Value) (c : UInt8) (w : World) (hv : pcells q = vs) (hf : fits q) (hs : q ≠ .star) :
    Calls Try.prog 35 #[.agg vs.toArray, .int .u8 c.toNat] w fun e w' => e = .returned (.bool (Gl.one q c)) ∧ Below w.heap.size w w' := by subst hv; exact rone_calls q c w hf hs
theorem pcells_four (q : Gl.Part) : ∃ c0 c1 c2 c3, pcells q = [c0, c1, c2, c3] := by cases q <;> exact ⟨_, _, _, _, rfl⟩

set_option maxRecDepth 100000 in
set_option maxHeartbeats 4000000 in
theorem rglob_calls (p s : ByteArray) (w : World) (hp : p.size ≤ 1000000) (hs : s.size ≤ 1000000) :
    Calls Try.prog 18 #[.string p, .string s] w fun e w' => e = .returned (.bool (Gl.whole true p.data.toList s.data.toList)) ∧ Below w.heap.size w w' := by
  have hplen : (Gl.parts p.data.toList).length ≤ 1000000 := Nat.le_trans (Gl.parts_length _ _ (Nat.le_refl _)) (by rw [← Go.Lib.size_eq]; exact hp)
  go_enter Try.func18, Try.ntmps18
  go_wp2_with fail
  refine (pieces_calls p _ hp).mono ?_
  rintro e w1 ⟨v, rfl, hown, hfits, hB⟩
  obtain ⟨ao, n, cap, rfl, hn0, hcap, hcells⟩ := pieces_open hown
  have hn := Lib.hid hn0
  have hcl := Lib.hid hcells
  have hft := Lib.hid hfits
  rw [← hn0] at hplen
  clear hn0 hcells hfits hown
  go_upto_region 2 with (fail)
  go_cut [33] (fun v33 wc => v33 = .bool (dotNo p.data.toList s.data.toList) ∧ wc = w1)
  case first =>
    by_cases hs0 : 0 < s.size
    · by_cases hd : (s[0].toNat : Int) = 46
      · have hh := hidden_yes hs0 hd
        cases hq : Gl.parts p.data.toList with
        | nil =>
          have e := Lib.hid (show dotNo p.data.toList s.data.toList = true by unfold dotNo; rw [hh, hq]; rfl)
          have hnz : ((n : Int) == 0) = true := beq_iff_eq.2 (by have := hn.out; rw [hq] at this; simp at this; omega)
          clear hh hq
          go_wp2
          go_meet
          case rel => exact ⟨by rw [e.out], rfl⟩
        | cons q l =>
          have hn1 : 0 < n := by have := hn.out; rw [hq] at this; simp at this; omega
          have hnz : ((n : Int) == 0) = false := beq_eq_false_iff_ne.2 (by omega)
          obtain ⟨g, rfl, hgl, hc⟩ := hcl.out 0 q (by rw [hq]; rfl)
          have hc0 := hc 0 _ (pcells_kind q)
          rw [Nat.zero_mul, Nat.zero_add] at hc0
          have e := Lib.hid (show dotNo p.data.toList s.data.toList = (kindOf q != 0) by unfold dotNo; rw [hh, hq]; cases q <;> rfl)
          clear hh hq hc
          go_wp2
          go_meet
          case rel => exact ⟨by rw [e.out], rfl⟩
      · have d := beq_eq_false_iff_ne.2 hd
        have e := Lib.hid (show dotNo p.data.toList s.data.toList = false by unfold dotNo; rw [hidden_no hs0 d]; rfl)
        clear hd
        go_wp2
        go_meet
        case rel => exact ⟨by rw [e.out], rfl⟩
    · have e := Lib.hid (show dotNo p.data.toList s.data.toList = false by unfold dotNo; rw [List.length_eq_zero_iff.1 (show s.data.toList.length = 0 by rw [← Go.Lib.size_eq]; omega)]; rfl)
      go_wp2
      go_meet
      case rel => exact ⟨by rw [e.out], rfl⟩
  case rest =>
    obtain ⟨rfl, rfl⟩ := hcut
    cases hdot : dotNo p.data.toList s.data.toList with
    | true =>
      have hres := Lib.hid (show Gl.whole true p.data.toList s.data.toList = false by rw [whole_dot, hdot]; rfl)
      clear hdot
      go_wp2
      go_ret
      exact ⟨by rw [hres.out]; rfl, hB⟩
    | false =>
      have hres := Lib.hid (show Gl.whole true p.data.toList s.data.toList = Gl.mt (Gl.parts p.data.toList) s.data.toList by rw [whole_dot, hdot]; rfl)
      have hmk := make_bools s.size hs
      clear hdot
      go_wp2_with fail
      have hW : ∀ W : World, W = wc.alloc (.cells ((bools (List.replicate (s.size + 1) false)).setIfInBounds 0 (.bool true)) 4) → BoolsAt W wc.heap.size (true :: List.replicate s.size false) ∧ Below wc.heap.size wc W := by
        intro W hW
        subst hW
        refine ⟨?_, (Below.refl _ _).alloc (Nat.le_refl _) _⟩
        have e : (bools (List.replicate (s.size + 1) false)).setIfInBounds 0 (.bool true) = bools (true :: List.replicate s.size false) := by
          simp [bools, List.replicate_succ]
        rw [e]
        exact BoolsAt.new _ _
      obtain ⟨W, hWe⟩ : ∃ W, W = wc.alloc (.cells ((bools (List.replicate (s.size + 1) false)).setIfInBounds 0 (.bool true)) 4) := ⟨_, rfl⟩
      obtain ⟨hb0, hBW⟩ := hW W hWe
      rw [← hWe]
      have hg0 : wc.heap.size < W.heap.size := hb0.lt
      have hst := Lib.hid (show Gl.mt (Gl.parts p.data.toList) s.data.toList = reach (true :: List.replicate s.size false) ((Gl.parts p.data.toList).drop 0) s.data.toList by rw [reach_start]; rfl)
      clear hW hWe
      go_loopw [6, 7] (fun v i wr => ∃ (k g : Nat) (nb : List Bool), k ≤ n ∧ i = .int .i64 k ∧ v = .slice (some ⟨g, 0, none⟩) (s.size + 1) (s.size + 1) ∧ wc.heap.size ≤ g ∧ BoolsAt wr g nb ∧ Hid (nb.length = s.size + 1) ∧ Below wc.heap.size wc wr ∧ Hid (Gl.mt (Gl.parts p.data.toList) s.data.toList = reach nb ((Gl.parts p.data.toList).drop k) s.data.toList)) (fun _ i _ => n - (intOf i).toNat)
      case atStart => exact ⟨0, _, _, Nat.zero_le _, rfl, rfl, Nat.le_refl _, hb0, by show _ = _; simp, hBW, hst⟩
      case round =>
        obtain ⟨k, g, nb, hk, rfl, rfl, hgc, hb, hnl, hB1, hrel⟩ := hrel
        have hgl := hb.lt
        by_cases hlt : k < n
        · obtain ⟨q, hq⟩ : ∃ q, (Gl.parts p.data.toList)[k]? = some q := ⟨_, List.getElem?_eq_getElem (by rw [← hn.out]; exact hlt)⟩
          have hdrop : (Gl.parts p.data.toList).drop k = q :: (Gl.parts p.data.toList).drop (k + 1) := by
            rw [List.drop_eq_getElem_cons (by rw [← hn.out]; exact hlt)]; congr
            rw [List.getElem?_eq_getElem (by rw [← hn.out]; exact hlt)] at hq; injection hq
          have hd := Lib.hid hdrop
          obtain ⟨gp, rfl, hgp, hcells⟩ := hcl.out k q hq
          have hfq := Lib.hid (hft.out q (List.mem_of_getElem? hq))
          have hc1 := hcells 0 _ (pcells_kind q)
          rw [Nat.add_zero, ← hB1.cell (p := ⟨gp, k * 4, none⟩) hgp] at hc1
          have hgpr : gp < wr.heap.size := by have := hB1.size; omega
          have hc1' : (wr.alloc (.cells (bools (List.replicate (s.size + 1) false)) 4)).cell? ⟨gp, k * 4, none⟩ = some (.int .i64 (kindOf q)) := (World.cell?_of_block (Below.heap_alloc _ _ _ hgpr)).trans hc1
          have hce := Lib.hid hcells
          clear hdrop hq hcells
          by_cases hst : q = .star
          · have hk1 : (kindOf q == 1) = true := by rw [hst]; rfl
            have hstar := Lib.hid hst
            clear hst
            go_wp2_with fail
            have hb2 := hb.alloc (.cells (bools (List.replicate (s.size + 1) false)) 4)
            have hx2 := BoolsAt.new wr (List.replicate (s.size + 1) false)
            have hB2 : Below wc.heap.size wc (wr.alloc (.cells (bools (List.replicate (s.size + 1) false)) 4)) := hB1.alloc hB1.size _
            obtain ⟨g2, hg2⟩ : ∃ g2, g2 = wr.heap.size := ⟨_, rfl⟩
            obtain ⟨W2, hW2⟩ : ∃ W2, W2 = wr.alloc (.cells (bools (List.replicate (s.size + 1) false)) 4) := ⟨_, rfl⟩
            have hne : g ≠ g2 := by omega
            have hgc2 : wc.heap.size ≤ g2 := by have := hB1.size; omega
            rw [← hW2] at hb2 hx2 hB2 ⊢
            rw [← hg2] at hx2 ⊢
            clear hc1 hc1' hb hgl hW2 hg2
            go_loopw [9, 10] (fun b i wx => ∃ (j : Nat) (nx : List Bool), j ≤ s.size + 1 ∧ i = .int .i64 j ∧ b = .bool ((nb.take j).any id) ∧ BoolsAt wx g nb ∧ BoolsAt wx g2 nx ∧ Hid (nx.length = s.size + 1 ∧ ∀ m, m < j → nx[m]? = some ((nb.take (m + 1)).any id)) ∧ Below wc.heap.size wc wx) (fun _ i _ => s.size + 1 - (intOf i).toNat)
            case atStart => exact ⟨0, _, Nat.zero_le _, rfl, rfl, hb2, hx2, ⟨by simp, fun m h => absurd h (Nat.not_lt_zero _)⟩, hB2⟩
            case round =>
              obtain ⟨j, nx, hj, rfl, rfl, hbx, hxx, hnx, hBx⟩ := hrel
              by_cases hlt2 : j < s.size + 1
              · obtain ⟨b, hbj⟩ : ∃ b, nb[j]? = some b := ⟨_, List.getElem?_eq_getElem (by rw [hnl.out]; exact hlt2)⟩
                obtain ⟨o, hoj⟩ : ∃ o, nx[j]? = some o := ⟨_, List.getElem?_eq_getElem (by rw [hnx.out.1]; exact hlt2)⟩
                have hcb := hbx.cell hbj
                have hco := hxx.cell hoj
                have hfr := hxx.frozen j
                have hsn := Lib.hid (any_snoc hbj)
                have hnx' := Lib.hid (show ∀ v : Bool, v = (nb.take (j + 1)).any id → (nx.set j v).length = s.size + 1 ∧ ∀ m, m < j + 1 → (nx.set j v)[m]? = some ((nb.take (m + 1)).any id) from fun v hv => by
                  refine ⟨by simp [hnx.out.1], fun m hm => ?_⟩
                  by_cases e : m = j
                  · subst e; rw [List.getElem?_set_self (by rw [hnx.out.1]; exact hlt2), hv]
                  · rw [List.getElem?_set_ne (by omega)]; exact hnx.out.2 m (by omega))
                clear hbj hoj
                obtain ⟨acc, hacc⟩ : ∃ acc, acc = (nb.take j).any id := ⟨_, rfl⟩
                rw [← hacc] at hsn ⊢
                have hac := Lib.hid hacc
                clear hacc
                cases acc with
                | true =>
                  go_wp2
                  exact ⟨⟨j + 1, _, by omega, by go_num, by rw [hsn.out]; rfl, hbx.other hne _ _, hxx.set j true, hnx'.out true (by rw [hsn.out]; rfl), hBx.setCell (p := ⟨g2, j, none⟩) hgc2 _⟩, by simp [intOf]; omega⟩
                | false =>
                  go_wp2
                  exact ⟨⟨j + 1, _, by omega, by go_num, by rw [hsn.out]; rfl, hbx.other hne _ _, hxx.set j b, hnx'.out b (by rw [hsn.out]; rfl), hBx.setCell (p := ⟨g2, j, none⟩) hgc2 _⟩, by simp [intOf]; omega⟩
              · have e : j = s.size + 1 := by omega
                have hdone := Lib.hid (scan_done hnl.out hnx.out.1 (fun k hk => hnx.out.2 k (by omega)))
                have hfin := Lib.hid (show Gl.mt (Gl.parts p.data.toList) s.data.toList = reach nx ((Gl.parts p.data.toList).drop (k + 1)) s.data.toList by
                  rw [hrel.out, hd.out, hstar.out, hdone.out, reach_star _ _ _ _ (by rw [hnl.out, Go.Lib.size_eq])]; rfl)
                have hnl2 := Lib.hid hnx.out.1
                clear e
                go_wp2
                exact ⟨⟨k + 1, g2, nx, by omega, by go_num, rfl, hgc2, hxx, hnl2, hBx, hfin⟩, by simp [intOf]; omega⟩
          · have hk1 : (kindOf q == 1) = false := by cases q <;> first | rfl | exact absurd rfl hst
            have hnst := Lib.hid hst
            clear hst
            go_wp2_with fail
            have hb2 := hb.alloc (.cells (bools (List.replicate (s.size + 1) false)) 4)
            have hx2 := BoolsAt.new wr (List.replicate (s.size + 1) false)
            have hB2 : Below wc.heap.size wc (wr.alloc (.cells (bools (List.replicate (s.size + 1) false)) 4)) := hB1.alloc hB1.size _
            obtain ⟨g2, hg2⟩ : ∃ g2, g2 = wr.heap.size := ⟨_, rfl⟩
            obtain ⟨W2, hW2⟩ : ∃ W2, W2 = wr.alloc (.cells (bools (List.replicate (s.size + 1) false)) 4) := ⟨_, rfl⟩
            have hne : g ≠ g2 := by omega
            have hgc2 : wc.heap.size ≤ g2 := by have := hB1.size; omega
            rw [← hW2] at hb2 hx2 hB2 ⊢
            rw [← hg2] at hx2 ⊢
            clear hc1 hc1' hb hgl hW2 hg2
            obtain ⟨c0, c1, c2, c3, hpc⟩ := pcells_four q
            have hk0 := hce.out 0 c0 (by rw [hpc]; rfl)
            have hk1c := hce.out 1 c1 (by rw [hpc]; rfl)
            have hk2c := hce.out 2 c2 (by rw [hpc]; rfl)
            have hk3c := hce.out 3 c3 (by rw [hpc]; rfl)
            have hpc' := Lib.hid hpc
            clear hpc
            go_loopw [11] (fun i wx => ∃ (j : Nat) (nx : List Bool), j ≤ s.size ∧ i = .int .i64 j ∧ BoolsAt wx g nb ∧ BoolsAt wx g2 nx ∧ Hid (nx.length = s.size + 1 ∧ nx[0]? = some false ∧ (∀ (m : Nat) (b : Bool) (c : UInt8), m < j → nb[m]? = some b → s.data.toList[m]? = some c → nx[m + 1]? = some (b && Gl.one q c)) ∧ ∀ m, j < m → m ≤ s.size → nx[m]? = some false) ∧ Below wc.heap.size wc wx) (fun i _ => s.size - (intOf i).toNat)
            case atStart => exact ⟨0, _, Nat.zero_le _, rfl, hb2, hx2, ⟨by simp, by simp, fun m _ _ h => absurd h (Nat.not_lt_zero _), fun m _ h => by rw [List.getElem?_replicate_of_lt (by omega)]⟩, hB2⟩
            case round =>
              obtain ⟨j, nx, hj, rfl, hbx, hxx, hnx, hBx⟩ := hrel
              by_cases hlt2 : j < s.size
              · obtain ⟨b, hbj⟩ : ∃ b, nb[j]? = some b := ⟨_, List.getElem?_eq_getElem (by rw [hnl.out]; omega)⟩
                have hsj : s.data.toList[j]? = some s[j] := by rw [List.getElem?_eq_getElem (by rw [← Go.Lib.size_eq]; exact hlt2)]; rfl
                have hoj : nx[j + 1]? = some false := hnx.out.2.2.2 (j + 1) (by omega) (by omega)
                have hcb := hbx.cell hbj
                have hnx' := Lib.hid (show ∀ v : Bool, v = (b && Gl.one q s[j]) → (nx.set (j + 1) v).length = s.size + 1 ∧ (nx.set (j + 1) v)[0]? = some false ∧ (∀ (m : Nat) (b : Bool) (c : UInt8), m < j + 1 → nb[m]? = some b → s.data.toList[m]? = some c → (nx.set (j + 1) v)[m + 1]? = some (b && Gl.one q c)) ∧ ∀ m, j + 1 < m → m ≤ s.size → (nx.set (j + 1) v)[m]? = some false from fun v hv => by
                  obtain ⟨n1, n2, n3, n4⟩ := hnx.out
                  refine ⟨by simp [n1], by rw [List.getElem?_set_ne (by omega)]; exact n2, fun m b' c' hm h1 h2 => ?_, fun m h1 h2 => by rw [List.getElem?_set_ne (by omega)]; exact n4 m (by omega) h2⟩
                  by_cases e : m = j
                  · subst e
                    rw [hbj] at h1; injection h1 with h1
                    rw [hsj] at h2; injection h2 with h2
                    rw [List.getElem?_set_self (by rw [n1]; omega), hv, h1, h2]
                  · rw [List.getElem?_set_ne (by omega)]; exact n3 m b' c' (by omega) h1 h2)
                cases b with
                | false =>
                  have hnx2 := Lib.hid (show nx.set (j + 1) false = nx from by
                    apply List.ext_getElem?; intro m
                    by_cases e : j + 1 = m
                    · subst e; rw [List.getElem?_set_self (by rw [hnx.out.1]; omega), hoj]
                    · rw [List.getElem?_set_ne e])
                  clear hbj hoj hsj
                  go_wp2
                  exact ⟨⟨j + 1, nx, by omega, by go_num, hbx, hxx, (by have := hnx'.out false rfl; rw [hnx2.out] at this; exact this), hBx⟩, by simp [intOf]; omega⟩
                | true =>
                  have hgx := hxx.lt
                  have hco := hxx.cell hoj
                  have hfr := hxx.frozen (j + 1)
                  have l0 := (hBx.cell (p := ⟨gp, k * 4 + 0, none⟩) hgp).trans hk0
                  rw [Nat.add_zero] at l0
                  have l1 := (hBx.cell (p := ⟨gp, k * 4 + 1, none⟩) hgp).trans hk1c
                  have l2 := (hBx.cell (p := ⟨gp, k * 4 + 2, none⟩) hgp).trans hk2c
                  have l3 := (hBx.cell (p := ⟨gp, k * 4 + 3, none⟩) hgp).trans hk3c
                  clear hbj hoj hsj hk0 hk1c hk2c hk3c
                  have y0 : (0 : Int) ≤ (j : Int) + 1 := by omega
                  have y1 : (j : Int) + 1 < ((s.size + 1 : Nat) : Int) := by omega
                  have y3 : (0 : Int) ≤ (k : Int) := by omega
                  have y4 : (k : Int) < (n : Int) := by omega
                  have y5 : (j : Int) < (s.size : Int) := by omega
                  have y6 : IntKind.i64.wrap ((j : Int) + 1) = (j : Int) + 1 := IntWalk.i64_in _ (by omega)
                  have y2 : ((j : Int) + 1).toNat = j + 1 := by omega
                  go_wp2_with fail
                  go_region_with ((go_at_call 35; refine (rone_calls' q _ s[j] _ hpc'.out hfq.out hnst.out).mono ?_; rintro e w3 ⟨rfl, hb3⟩; have f1 := (hb3.cell (p := ⟨g2, j + 1, none⟩) hgx).trans hco; have f2 := (hb3.frozen (p := ⟨g2, j + 1, none⟩) hgx).trans hfr))
                  all_goals
                    clear y2 y6
                    go_wp2
                    exact ⟨⟨j + 1, _, by omega, by go_num, (BoolsAt.keep hb3 hbx).other hne _ _, (BoolsAt.keep hb3 hxx).set (j + 1) _, hnx'.out _ (by simp), (hb3.mono' hBx.drew).setCell (p := ⟨g2, j + 1, none⟩) hgc2 _⟩, by simp [intOf]; omega⟩
              · have e : j = s.size := by omega
                have hdone := Lib.hid (step_done (q := q) (s := s.data.toList) (nb := nb) (nx := nx) (by rw [hnl.out, Go.Lib.size_eq]) (by rw [hnx.out.1, Go.Lib.size_eq]) hnx.out.2.1 (fun m b c h1 h2 => hnx.out.2.2.1 m b c (by have := (List.getElem?_eq_some_iff.1 h2).1; rw [← Go.Lib.size_eq] at this; omega) h1 h2))
                have hfin := Lib.hid (show Gl.mt (Gl.parts p.data.toList) s.data.toList = reach nx ((Gl.parts p.data.toList).drop (k + 1)) s.data.toList by
                  rw [hrel.out, hd.out, hdone.out, reach_step hnst.out (by rw [hnl.out, Go.Lib.size_eq])])
                have hnl2 := Lib.hid hnx.out.1
                clear e hk0 hk1c hk2c hk3c
                go_wp2
                exact ⟨⟨k + 1, g2, nx, by omega, by go_num, rfl, hgc2, hxx, hnl2, hBx, hfin⟩, by simp [intOf]; omega⟩
        · have hbe := reach_end nb s.data.toList (by rw [hnl.out, Go.Lib.size_eq])
          have hcell := hb.cell hbe
          rw [← Go.Lib.size_eq] at hcell
          have hend := Lib.hid (show Gl.mt (Gl.parts p.data.toList) s.data.toList = reach nb [] s.data.toList by rw [hrel.out, List.drop_of_length_le (by rw [← hn.out]; omega)])
          clear hbe hb
          go_wp2
          go_ret
          exact ⟨by rw [hres.out, hend.out]; rfl, hB1.mono' hB⟩
end Go.Proofs.Ytfnmncghgmnaaaa
