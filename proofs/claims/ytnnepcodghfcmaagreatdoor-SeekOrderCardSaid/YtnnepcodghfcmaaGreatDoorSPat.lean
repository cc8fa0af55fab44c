/-
  Patterns with one %: of, match, Match; Join of two paths. Conditions: texts of at most 2^39 bytes.
-/
import Derived.Test.YtnnepcodghfcmaaGreatDoorVClean
import Derived.Test.YtnnepcodghfcmaaGreatDoorShelf
namespace Go.Proofs.YtnnepcodghfcmaaGreatDoor
open Go.RowKit

def pctAt (p : ByteArray) : Int := Lib.indexByte p.data.toList 37
/-- What stands ahead of a pattern's %, behind it, and has it one. -/
structure Pt where make ::
  head : ByteArray
  tail : ByteArray
  opn : Bool
def ptOf (p : ByteArray) : Pt := if pctAt p < 0 then ⟨p, ⟨#[]⟩, false⟩ else ⟨p.extract 0 (pctAt p).toNat, p.extract ((pctAt p).toNat + 1) p.size, true⟩
def Pt.val (x : Pt) : Value := .agg #[.string x.head, .string x.tail, .bool x.opn]
def Pt.stem (x : Pt) (w : ByteArray) : Option ByteArray :=
  if x.opn = true then
    if w.size < x.head.size + x.tail.size ∨ Lib.hasPrefix w.data.toList x.head.data.toList = false ∨ Lib.hasSuffix w.data.toList x.tail.data.toList = false then none else some (w.extract x.head.size (w.size - x.tail.size))
  else if w = x.head then some ⟨#[]⟩ else none
def stemVal : Option ByteArray → Value
  | some s => .tuple #[.string s, .bool true]
  | none => .tuple #[.string ⟨#[]⟩, .bool false]
def matchS (p w : ByteArray) : Option ByteArray := (ptOf p).stem w
theorem pct_bd (p : ByteArray) : pctAt p < p.size := by
  unfold pctAt
  have h := Go.Lib.indexByte_piece p 0 p.size 37
  rw [ByteArray.extract_zero_size] at h
  rcases h with h | ⟨o, h, h2⟩ <;> omega
theorem pct_ge (p : ByteArray) : -1 ≤ pctAt p := Go.Lib.indexByte_ge _ _
theorem ptOf_size (p : ByteArray) : (ptOf p).head.size ≤ p.size ∧ (ptOf p).tail.size ≤ p.size := by
  unfold ptOf
  split
  · exact ⟨Nat.le_refl _, Nat.zero_le _⟩
  · simp only [ByteArray.size_extract]; omega
set_option maxRecDepth 100000 in
set_option maxHeartbeats 2000000 in
theorem of_calls (p : ByteArray) (w : World) (hp : p.size ≤ 549755813888) : Calls Tryz.prog 42 #[.string p] w fun e w' => e = .returned (ptOf p).val ∧ Below w.heap.size w w' := by
  have hI := Lib.hid (fun W => Tryz.strings_IndexByte p 37 W)
  have hge := pct_ge p
  have hlt := pct_bd p
  by_cases h0 : pctAt p < 0
  · have hv := Lib.hid (show ptOf p = ⟨p, ⟨#[]⟩, false⟩ by unfold ptOf; rw [if_pos h0])
    have hpc := Lib.hid (show Lib.indexByte p.data.toList ((37 : Int).toNat.toUInt8) = pctAt p from rfl)
    generalize pctAt p = at_ at *
    go_enter Tryz.func42, Tryz.ntmps42
    go_wp2_with (go_at_call 59; refine (hI.out _).mono ?_; rintro e w1 ⟨rfl, rfl⟩; rw [hpc.out])
    refine bodyPost_ret (v := .agg #[.string p, .string ⟨#[]⟩, .bool false]) (by simp [results, Tryz.results42, go_sem]) rfl ⟨by rw [hv.out]; rfl, below_al (Below.refl _ _)⟩
  · obtain ⟨k, hk⟩ : ∃ k : Nat, pctAt p = k := ⟨(pctAt p).toNat, by omega⟩
    have hv := Lib.hid (show ptOf p = ⟨p.extract 0 k, p.extract (k + 1) p.size, true⟩ by unfold ptOf; rw [if_neg h0, hk]; rfl)
    have hpc := Lib.hid (show Lib.indexByte p.data.toList ((37 : Int).toNat.toUInt8) = (k : Int) from hk)
    have y1 : IntKind.i64.wrap ((k : Int) + 1) = ((k + 1 : Nat) : Int) := by rw [IntWalk.i64_in _ (by omega)]; omega
    have y2 : ((k + 1 : Nat) : Int) ≤ (p.size : Int) := by omega
    have y3 : (k : Int) ≤ (p.size : Int) := by omega
    clear hk
    go_enter Tryz.func42, Tryz.ntmps42
    go_wp2_with (go_at_call 59; refine (hI.out _).mono ?_; rintro e w1 ⟨rfl, rfl⟩; rw [hpc.out])
    go_region
    go_wp2_with fail
    refine bodyPost_ret (v := .agg #[.string (p.extract 0 k), .string (p.extract (k + 1) p.size), .bool true]) (by simp [results, Tryz.results42, go_sem]) rfl ⟨by rw [hv.out]; rfl, below_drewN' (below_al (Below.refl _ _)) 1⟩
set_option maxRecDepth 100000 in
set_option maxHeartbeats 2000000 in
theorem pmatch_calls (x : Pt) (s : ByteArray) (w : World) (hs : s.size ≤ 549755813888) (h1 : x.head.size ≤ 549755813888) (h2 : x.tail.size ≤ 549755813888) : Calls Tryz.prog 43 #[x.val, .string s] w fun e w' => e = .returned (stemVal (x.stem s)) ∧ Below w.heap.size w w' := by
  obtain ⟨h, t, o⟩ := x
  dsimp only at h1 h2
  have hP := Lib.hid (fun W => Tryz.strings_HasPrefix s h W)
  have hS := Lib.hid (fun W => Tryz.strings_HasSuffix s t W (by omega))
  show Calls Tryz.prog 43 #[.agg #[.string h, .string t, .bool o], .string s] w _
  cases o with
  | false =>
    have hv := Lib.hid (show Pt.stem ⟨h, t, false⟩ s = if s = h then some ⟨#[]⟩ else none by unfold Pt.stem; simp)
    by_cases he : s = h
    · have f1 : (s.toList == h.toList) = true := by rw [he]; exact beq_self_eq_true _
      have hv2 := Lib.hid (show Pt.stem ⟨h, t, false⟩ s = some ⟨#[]⟩ by rw [hv.out, if_pos he])
      clear hv he
      go_enter Tryz.func43, Tryz.ntmps43
      go_wp2_with fail
      go_quiet (fail)
      go_wp2_with fail
      go_ret2
      exact ⟨by rw [hv2.out]; rfl, below_drewN' (below_al (Below.refl _ _)) nq⟩
    · have f1 := ba_ne he
      have hv2 := Lib.hid (show Pt.stem ⟨h, t, false⟩ s = none by rw [hv.out, if_neg he])
      clear hv he
      go_enter Tryz.func43, Tryz.ntmps43
      go_wp2_with fail
      go_quiet (fail)
      go_wp2_with fail
      go_ret2
      exact ⟨by rw [hv2.out]; rfl, below_drewN' (below_al (Below.refl _ _)) nq⟩
  | true =>
    have hv := Lib.hid (show Pt.stem ⟨h, t, true⟩ s = if s.size < h.size + t.size ∨ Lib.hasPrefix s.data.toList h.data.toList = false ∨ Lib.hasSuffix s.data.toList t.data.toList = false then none else some (s.extract h.size (s.size - t.size)) by unfold Pt.stem; simp)
    have y1 : IntKind.i64.wrap ((h.size : Int) + (t.size : Int)) = ((h.size + t.size : Nat) : Int) := by rw [IntWalk.i64_in _ (by omega)]; omega
    by_cases hl : s.size < h.size + t.size
    · have hv2 := Lib.hid (show Pt.stem ⟨h, t, true⟩ s = none by rw [hv.out, if_pos (Or.inl hl)])
      have y2 : (s.size : Int) < ((h.size + t.size : Nat) : Int) := by omega
      clear hv
      go_enter Tryz.func43, Tryz.ntmps43
      go_wp2_with fail
      go_ret2
      exact ⟨by rw [hv2.out]; rfl, below_al (Below.refl _ _)⟩
    · have y2 : ¬ (s.size : Int) < ((h.size + t.size : Nat) : Int) := by omega
      cases hp : Lib.hasPrefix s.data.toList h.data.toList with
      | false =>
        have hv2 := Lib.hid (show Pt.stem ⟨h, t, true⟩ s = none by rw [hv.out, if_pos (Or.inr (Or.inl hp))])
        have kp := Lib.hid hp
        clear hv hp
        go_enter Tryz.func43, Tryz.ntmps43
        go_wp2_with (go_at_call 60; refine (hP.out _).mono ?_; rintro e w1 ⟨rfl, rfl⟩; rw [kp.out])
        go_ret2
        exact ⟨by rw [hv2.out]; rfl, below_al (Below.refl _ _)⟩
      | true =>
        have kp := Lib.hid hp
        cases hsf : Lib.hasSuffix s.data.toList t.data.toList with
        | false =>
          have hv2 := Lib.hid (show Pt.stem ⟨h, t, true⟩ s = none by rw [hv.out, if_pos (Or.inr (Or.inr hsf))])
          have ks := Lib.hid hsf
          clear hv hp hsf
          go_enter Tryz.func43, Tryz.ntmps43
          go_wp2_with (first | (go_at_call 60; refine (hP.out _).mono ?_; rintro e w1 ⟨rfl, rfl⟩; rw [kp.out]) | (go_at_call 20; refine (hS.out _).mono ?_; rintro e w1 ⟨rfl, rfl⟩; rw [ks.out]))
          go_ret2
          exact ⟨by rw [hv2.out]; rfl, below_al (Below.refl _ _)⟩
        | true =>
          have hv2 := Lib.hid (show Pt.stem ⟨h, t, true⟩ s = some (s.extract h.size (s.size - t.size)) by rw [hv.out, if_neg (by simp [hp, hsf]; omega)])
          have ks := Lib.hid hsf
          have y3 : IntKind.i64.wrap ((s.size : Int) - (t.size : Int)) = ((s.size - t.size : Nat) : Int) := by rw [IntWalk.i64_in _ (by omega)]; omega
          have y4 : (h.size : Int) ≤ ((s.size - t.size : Nat) : Int) := by omega
          have y5 : ((s.size - t.size : Nat) : Int) ≤ (s.size : Int) := by omega
          clear hv hp hsf
          go_enter Tryz.func43, Tryz.ntmps43
          go_wp2_with (first | (go_at_call 60; refine (hP.out _).mono ?_; rintro e w1 ⟨rfl, rfl⟩; rw [kp.out]) | (go_at_call 20; refine (hS.out _).mono ?_; rintro e w1 ⟨rfl, rfl⟩; rw [ks.out]))
          go_ret2
          exact ⟨by rw [hv2.out]; rfl, below_al (Below.refl _ _)⟩
theorem match_calls (p s : ByteArray) (w : World) (hp : p.size ≤ 549755813888) (hs : s.size ≤ 549755813888) : Calls Tryz.prog 27 #[.string p, .string s] w fun e w' => e = .returned (stemVal (matchS p s)) ∧ Below w.heap.size w w' := by
  have hO := Lib.hid (fun W => of_calls p W hp)
  have hz := ptOf_size p
  have hM := Lib.hid (fun W => pmatch_calls (ptOf p) s W hs (by omega) (by omega))
  have hv := Lib.hid (show matchS p s = (ptOf p).stem s from rfl)
  generalize ptOf p = x at *
  cases hx : x.stem s with
  | none =>
    rw [hx] at hM hv
    go_enter Tryz.func27, Tryz.ntmps27
    go_wp2_with (first | (go_at_call 42; refine (hO.out _).mono ?_; rintro e w1 ⟨rfl, hb⟩; have kb := Lib.hid hb; clear hb) | (go_at_call 43; refine (hM.out _).mono ?_; rintro e w2 ⟨rfl, hb⟩; have kb2 := Lib.hid (kb.out.trans (hb.mono kb.out.size)); clear hb; dsimp only [stemVal]))
    go_ret2
    exact ⟨by rw [hv.out]; rfl, kb2.out⟩
  | some st =>
    rw [hx] at hM hv
    go_enter Tryz.func27, Tryz.ntmps27
    go_wp2_with (first | (go_at_call 42; refine (hO.out _).mono ?_; rintro e w1 ⟨rfl, hb⟩; have kb := Lib.hid hb; clear hb) | (go_at_call 43; refine (hM.out _).mono ?_; rintro e w2 ⟨rfl, hb⟩; have kb2 := Lib.hid (kb.out.trans (hb.mono kb.out.size)); clear hb; dsimp only [stemVal]))
    go_ret2
    exact ⟨by rw [hv.out]; rfl, kb2.out⟩
theorem pjoin_calls (a b : ByteArray) (w : World) (ha : a.size ≤ 274877906944) (hb : b.size ≤ 274877906944) : Calls Tryz.prog 29 #[.string a, .string b] w fun e w' => e = .returned (.string (mk (clean (a.data.toList ++ 47 :: b.data.toList)))) ∧ Below w.heap.size w w' := by
  have hC := Lib.hid (fun W => clean_calls (a ++ ⟨#[47]⟩ ++ b) W (by simp only [ByteArray.size_append]; show a.size + 1 + b.size ≤ _; omega))
  have he := Lib.hid (show (a ++ ⟨#[47]⟩ ++ b : ByteArray).data.toList = a.data.toList ++ 47 :: b.data.toList by rw [ba_append, ba_append, List.append_assoc]; rfl)
  rw [he.out] at hC
  go_enter Tryz.func29, Tryz.ntmps29
  go_wp2_with (go_at_call 23; refine (hC.out _).mono ?_; rintro e w1 ⟨rfl, hb⟩; have kb := Lib.hid hb; clear hb)
  go_ret
  exact ⟨rfl, kb.out⟩
end Go.Proofs.YtnnepcodghfcmaaGreatDoor
