/-
  glob.whole (function 33) answers whether a whole name matches. Condition: pattern and name have at most 1,000,000 bytes each.
-/
import Derived.Test.YtfnmncghgmnaaaaGlob3
import Derived.WalkMore
import Derived.ScopeJumps
import Derived.StillTailTactics
import Derived.RegionTactic
import Derived.Deep.RegionWith
namespace Go.Proofs.Ytfnmncghgmnaaaa
open Go.RowKit

theorem PartRep.three {w : World} {q : Gl.Part} {vs : List Value} (h : PartRep w q vs) : ∃ kd a f, vs = [.int .u8 kd, .int .u8 a, f] := by
  cases h <;> exact ⟨_, _, _, rfl⟩
theorem PartRep.kind {w : World} {q : Gl.Part} {kd : Int} {a f : Value} (h : PartRep w q [.int .u8 kd, a, f]) : (q = .star → (kd == 42) = true) ∧ (q ≠ .star → (kd == 42) = false) := by
  cases h <;> exact ⟨fun h => by cases h; try rfl, fun h => by first | rfl | exact absurd rfl h⟩

theorem Reps.at {w : World} : ∀ {qs : List Gl.Part} {cs : List Value}, Reps w qs cs → ∀ (k : Nat) (q : Gl.Part), qs[k]? = some q → ∃ kd a f, PartRep w q [.int .u8 kd, .int .u8 a, f] ∧ cs[k * 3]? = some (.int .u8 kd) ∧ cs[k * 3 + 1]? = some (.int .u8 a) ∧ cs[k * 3 + 2]? = some f := by
  intro qs cs h
  induction h with
  | nil => intro k q h; simp at h
  | cons hq _ ih =>
    obtain ⟨kd, a, f, rfl⟩ := hq.three
    intro k q h
    cases k with
    | zero => simp at h; subst h; exact ⟨kd, a, f, hq, rfl, rfl, rfl⟩
    | succ k =>
      simp at h
      obtain ⟨kd', a', f', h1, h2, h3, h4⟩ := ih k q h
      refine ⟨kd', a', f', h1, ?_, ?_, ?_⟩
      · rw [show (k + 1) * 3 = k * 3 + 3 by omega]; simpa using h2
      · rw [show (k + 1) * 3 + 1 = k * 3 + 1 + 3 by omega]; simpa using h3
      · rw [show (k + 1) * 3 + 2 = k * 3 + 2 + 3 by omega]; simpa using h4

theorem PartsAt.view {w : World} {base : Nat} {v : Value} {qs : List Gl.Part} (h : PartsAt w base v qs) :
    (v = .slice none 0 0 ∧ qs = []) ∨ ∃ g cap, v = .slice (some ⟨g, 0, none⟩) qs.length cap ∧ base ≤ g ∧ g < w.heap.size ∧ qs.length ≤ cap ∧
      ∀ (k : Nat) (q : Gl.Part), qs[k]? = some q → ∃ kd a f, PartRep w q [.int .u8 kd, .int .u8 a, f] ∧ w.cell? ⟨g, k * 3, none⟩ = some (.int .u8 kd) ∧ w.cell? ⟨g, k * 3 + 1, none⟩ = some (.int .u8 a) ∧ w.cell? ⟨g, k * 3 + 2, none⟩ = some f := by
  obtain ⟨cs, hown, hr⟩ := h
  have hc := fun g => hown.cells (g := g)
  obtain ⟨hl, h⟩ := hown
  rcases h with ⟨rfl, hn⟩ | ⟨g, cap, cur, rfl, hb, hg, hn, _⟩
  · exact Or.inl ⟨rfl, List.length_eq_zero_iff.1 hn⟩
  · refine Or.inr ⟨g, cap, rfl, hb, heap_lt hg, hn, fun k q hk => ?_⟩
    obtain ⟨kd, a, f, h1, h2, h3, h4⟩ := hr.at k q hk
    have ad : ∀ j, (⟨g, 0, none⟩ : Addr).add j = ⟨g, j, none⟩ := fun j => by unfold Addr.add; split <;> simp_all
    have hc' := hc g rfl
    exact ⟨kd, a, f, h1, by rw [← ad]; exact hc' _ _ h2, by rw [← ad]; exact hc' _ _ h3, by rw [← ad]; exact hc' _ _ h4⟩

theorem _root_.Go.RowKit.Below.mono' {w w1 w2 : World} (h : Below w1.heap.size w1 w2) (hb : Below w.heap.size w w1) : Below w.heap.size w w2 := hb.trans (h.mono hb.size)

theorem below_drewN' {B : Nat} {a w : World} (h : Below B a w) (n : Nat) : Below B a (w.drewN n) := h.trans ⟨rfl, rfl, rfl, Nat.le_refl _, fun _ _ => rfl⟩

/-- A scope whose run comes to its label once from above, and back to it by jumps: one walk of what stands behind the label serves both. -/
theorem wp_scope_jumps2 {P : Program} {a : Act} {w : World} {Q : Exit → Act → World → Prop} {c rest : Code} (l : Nat) (J : Act → World → Prop) (μ : Act → World → Nat) (hf : findLabel c l = some (.seq .skip rest))
    (pass : ∀ a w, J a w → rest.wp P (Exit.jump l (fun a' w' => J a' w' ∧ μ a' w' < μ a w) Q) a w)
    (first : (∀ a w, J a w → rest.wp P (Exit.jump l J Q) a w) → c.wp P (Exit.jump l J Q) a w) : (Code.scope c).wp P Q a w := by
  refine wp_scope_jumps l J μ hf (first fun a w hJ => ?_) fun a w hJ => ?_
  · refine Code.wp_mono (fun e a' w' h => ?_) (pass a w hJ)
    cases e <;> first | exact h | exact ⟨h.1, h.2.1⟩
  · exact wp_seq (wp_skip (pass a w hJ))

def starInt : Option Nat → Int | none => -1 | some k => k
def Meas (n N : Nat) (at_ star fr : Int) : Nat := (((n : Int) + 1 - star).toNat * (N + 3) + ((N : Int) + 2 - fr).toNat) * (n + 3) + ((n : Int) + 2 - at_).toNat
theorem lex_lt {A A' B B' M : Nat} (h : A' < A) (hb : B' < M) : A' * M + B' < A * M + B := by
  have := Nat.mul_le_mul_right M (show A' + 1 ≤ A from h)
  rw [Nat.add_mul] at this
  omega
theorem meas_star {n N : Nat} {at_ star fr i : Int} (h1 : star < at_) (h2 : at_ ≤ n) (h3 : 0 ≤ i) (h4 : -1 ≤ star) : Meas n N (at_ + 1) at_ i < Meas n N at_ star fr := by
  unfold Meas
  exact lex_lt (lex_lt (by omega) (by omega)) (by omega)
theorem meas_next {n N : Nat} {at_ star fr : Int} (h2 : at_ ≤ n) : Meas n N (at_ + 1) star fr < Meas n N at_ star fr := by
  unfold Meas
  omega
theorem meas_back {n N : Nat} {at_ star fr at2 : Int} (h3 : fr < N) (h4 : 0 ≤ at2) : Meas n N at2 star (fr + 1) < Meas n N at_ star fr := by
  unfold Meas
  exact lex_lt (by omega) (by omega)
theorem Gl.Inv.star_lt {l : List Gl.Part} {s : List UInt8} {at_ i fr : Nat} {st : Option Nat} (h : Gl.Inv l s at_ i st fr) : starInt st < at_ ∧ -1 ≤ starInt st := by
  obtain ⟨_, _, _, h⟩ := h
  cases st with
  | none => exact ⟨by show (-1 : Int) < at_; omega, by decide⟩
  | some k => exact ⟨by have := h.1; simp only [starInt]; omega, by simp only [starInt]; omega⟩

theorem Gl.parts_length : ∀ (n : Nat) (l : List UInt8), l.length ≤ n → (Gl.parts l).length ≤ l.length := by
  intro n
  induction n with
  | zero => intro l h; have := List.length_eq_zero_iff.1 (Nat.le_zero.1 h); subst this; rw [Gl.parts_nil]; exact Nat.le_refl _
  | succ n ih =>
    intro l h
    match l with
    | [] => rw [Gl.parts_nil]; exact Nat.le_refl _
    | c :: t =>
      have ht : t.length ≤ n := by simpa using h
      by_cases h1 : c = 92
      · subst h1
        match t with
        | [] => rw [Gl.parts_esc1]; exact Nat.le_refl _
        | d :: t' => rw [Gl.parts_esc]; have := ih t' (by simp at ht; omega); simp; omega
      · by_cases h2 : c = 91
        · subst h2
          cases hs : Gl.setOf t with
          | none => rw [Gl.parts_open hs]; have := ih t ht; simp; omega
          | some x => obtain ⟨no, ms, rest⟩ := x; rw [Gl.parts_set hs]; have h3 := Gl.setOf_lt hs; have := ih rest (by omega); simp; omega
        · by_cases h3 : c = 42
          · subst h3; rw [Gl.parts_star]; have := ih t ht; simp; omega
          · by_cases h4 : c = 63
            · subst h4; rw [Gl.parts_any]; have := ih t ht; simp; omega
            · rw [Gl.parts_byte t h1 h2 h3 h4]; have := ih t ht; simp; omega

theorem whole_seen {pt : Bool} {p s : List UInt8} (h : (pt && Gl.hidden s && !Gl.points (Gl.parts p)) = false) : Gl.whole pt p s = Gl.mt (Gl.parts p) s := by
  unfold Gl.whole; rw [h]; rfl
theorem whole_hid {p s : List UInt8} (h : Gl.hidden s = true) (h' : Gl.points (Gl.parts p) = false) : Gl.whole true p s = false := by
  unfold Gl.whole; rw [h, h']; rfl
theorem hidden_no {s : ByteArray} (h0 : 0 < s.size) (h : ((s[0].toNat : Int) == 46) = false) : Gl.hidden s.data.toList = false := by
  have := drop_cons h0
  rw [List.drop_zero] at this
  rw [this]
  exact beq_eq_false_iff_ne.2 fun e => by rw [e] at h; exact absurd h (by decide)
theorem hidden_yes {s : ByteArray} (h0 : 0 < s.size) (h : (s[0].toNat : Int) = 46) : Gl.hidden s.data.toList = true := by
  have := drop_cons h0
  rw [List.drop_zero] at this
  rw [this]
  exact beq_iff_eq.2 (byte_eq h (by decide))

/-- What stays as it is while the search goes on. -/
def JFacts (p s : ByteArray) (pt : Bool) (g n cap : Nat) (qs : List Gl.Part) (w w1 : World) : Prop :=
  qs = Gl.parts p.data.toList ∧ n = qs.length ∧ n ≤ cap ∧
  (∀ (k : Nat) (q : Gl.Part), qs[k]? = some q → ∃ kd a f, PartRep w1 q [.int .u8 kd, .int .u8 a, f] ∧ w1.cell? ⟨g, k * 3, none⟩ = some (.int .u8 kd) ∧ w1.cell? ⟨g, k * 3 + 1, none⟩ = some (.int .u8 a) ∧ w1.cell? ⟨g, k * 3 + 2, none⟩ = some f) ∧
  Below w.heap.size w w1 ∧ g < w1.heap.size ∧ n ≤ 1000000 ∧ Gl.whole pt p.data.toList s.data.toList = Gl.mt qs s.data.toList

/-- What holds at each turn of the search. -/
def JJ (p s : ByteArray) (pt : Bool) (w : World) (a' : Act) (w' : World) : Prop :=
  ∃ (g n cap : Nat) (qs : List Gl.Part) (w1 : World) (at_ i fr : Nat) (st : Option Nat) (u : Nat → Value), a' = { tmps := #[.string p, .string s, .bool pt, u 3, u 4, u 5, u 6, .slice (some ⟨g, 0, none⟩) n cap, .int .i64 (at_ : Nat), .int .i64 (i : Nat), .int .i64 (starInt st), .int .i64 (fr : Nat), u 12, u 13, u 14, u 15, u 16, u 17, u 18, u 19, u 20, u 21, u 22, u 23, u 24, u 25, u 26, u 27, u 28, u 29, u 30, u 31, u 32, u 33, u 34, u 35, u 36, u 37, u 38, u 39, u 40, u 41, u 42, u 43, u 44, u 45, u 46, u 47, u 48, u 49, u 50, u 51, u 52, u 53, u 54, u 55, u 56, u 57, u 58, u 59, u 60, u 61, u 62, u 63, u 64, u 65, u 66, u 67, u 68, u 69, u 70, u 71, u 72, u 73, u 74, u 75, u 76, u 77, u 78, u 79, u 80, u 81, u 82, u 83, u 84, u 85, u 86, u 87, u 88, u 89, u 90, u 91, u 92, u 93, u 94, u 95, u 96, u 97, u 98, u 99, u 100, u 101, u 102, u 103, u 104, u 105, u 106, u 107, u 108, u 109], defers := [] } ∧ Gl.Inv qs s.data.toList at_ i st fr ∧ Below w1.heap.size w1 w' ∧ JFacts p s pt g n cap qs w w1
theorem JJ.elim {p s : ByteArray} {pt : Bool} {w : World} {motive : Act → World → Prop}
    (f : ∀ (g n cap : Nat) (qs : List Gl.Part) (w1 : World) (at_ i fr : Nat) (st : Option Nat) (u : Nat → Value) (w' : World), Gl.Inv qs s.data.toList at_ i st fr → Below w1.heap.size w1 w' → JFacts p s pt g n cap qs w w1 →
      motive { tmps := #[.string p, .string s, .bool pt, u 3, u 4, u 5, u 6, .slice (some ⟨g, 0, none⟩) n cap, .int .i64 (at_ : Nat), .int .i64 (i : Nat), .int .i64 (starInt st), .int .i64 (fr : Nat), u 12, u 13, u 14, u 15, u 16, u 17, u 18, u 19, u 20, u 21, u 22, u 23, u 24, u 25, u 26, u 27, u 28, u 29, u 30, u 31, u 32, u 33, u 34, u 35, u 36, u 37, u 38, u 39, u 40, u 41, u 42, u 43, u 44, u 45, u 46, u 47, u 48, u 49, u 50, u 51, u 52, u 53, u 54, u 55, u 56, u 57, u 58, u 59, u 60, u 61, u 62, u 63, u 64, u 65, u 66, u 67, u 68, u 69, u 70, u 71, u 72, u 73, u 74, u 75, u 76, u 77, u 78, u 79, u 80, u 81, u 82, u 83, u 84, u 85, u 86, u 87, u 88, u 89, u 90, u 91, u 92, u 93, u 94, u 95, u 96, u 97, u 98, u 99, u 100, u 101, u 102, u 103, u 104, u 105, u 106, u 107, u 108, u 109], defers := [] } w') : ∀ a' w', JJ p s pt w a' w' → motive a' w' := by
  rintro a' w' ⟨g, n, cap, qs, w1, at_, i, fr, st, u, rfl, h1, h2, h3⟩
  exact f _ _ _ _ _ _ _ _ _ u _ h1 h2 h3
set_option maxRecDepth 100000 in
theorem JJ.mk {p s : ByteArray} {pt : Bool} {w : World} {g n cap : Nat} {qs : List Gl.Part} {w1 : World} {at_ i fr : Nat} {st : Option Nat} {sv av iv fv : Int} {u3 u4 u5 u6 u12 u13 u14 u15 u16 u17 u18 u19 u20 u21 u22 u23 u24 u25 u26 u27 u28 u29 u30 u31 u32 u33 u34 u35 u36 u37 u38 u39 u40 u41 u42 u43 u44 u45 u46 u47 u48 u49 u50 u51 u52 u53 u54 u55 u56 u57 u58 u59 u60 u61 u62 u63 u64 u65 u66 u67 u68 u69 u70 u71 u72 u73 u74 u75 u76 u77 u78 u79 u80 u81 u82 u83 u84 u85 u86 u87 u88 u89 u90 u91 u92 u93 u94 u95 u96 u97 u98 u99 u100 u101 u102 u103 u104 u105 u106 u107 u108 u109 : Value} {w' : World} (h1 : Gl.Inv qs s.data.toList at_ i st fr) (h2 : Below w1.heap.size w1 w') (h3 : JFacts p s pt g n cap qs w w1)
    (ha : av = at_) (hi : iv = i) (hs : sv = starInt st) (hf : fv = fr) : JJ p s pt w { tmps := #[.string p, .string s, .bool pt, u3, u4, u5, u6, .slice (some ⟨g, 0, none⟩) n cap, .int .i64 av, .int .i64 iv, .int .i64 sv, .int .i64 fv, u12, u13, u14, u15, u16, u17, u18, u19, u20, u21, u22, u23, u24, u25, u26, u27, u28, u29, u30, u31, u32, u33, u34, u35, u36, u37, u38, u39, u40, u41, u42, u43, u44, u45, u46, u47, u48, u49, u50, u51, u52, u53, u54, u55, u56, u57, u58, u59, u60, u61, u62, u63, u64, u65, u66, u67, u68, u69, u70, u71, u72, u73, u74, u75, u76, u77, u78, u79, u80, u81, u82, u83, u84, u85, u86, u87, u88, u89, u90, u91, u92, u93, u94, u95, u96, u97, u98, u99, u100, u101, u102, u103, u104, u105, u106, u107, u108, u109], defers := [] } w' := by
  subst ha; subst hi; subst hs; subst hf
  exact ⟨g, n, cap, qs, w1, at_, i, fr, st, fun k => (#[.string p, .string s, .bool pt, u3, u4, u5, u6, .slice (some ⟨g, 0, none⟩) n cap, .int .i64 (at_ : Nat), .int .i64 (i : Nat), .int .i64 (starInt st), .int .i64 (fr : Nat), u12, u13, u14, u15, u16, u17, u18, u19, u20, u21, u22, u23, u24, u25, u26, u27, u28, u29, u30, u31, u32, u33, u34, u35, u36, u37, u38, u39, u40, u41, u42, u43, u44, u45, u46, u47, u48, u49, u50, u51, u52, u53, u54, u55, u56, u57, u58, u59, u60, u61, u62, u63, u64, u65, u66, u67, u68, u69, u70, u71, u72, u73, u74, u75, u76, u77, u78, u79, u80, u81, u82, u83, u84, u85, u86, u87, u88, u89, u90, u91, u92, u93, u94, u95, u96, u97, u98, u99, u100, u101, u102, u103, u104, u105, u106, u107, u108, u109] : Array Value).getD k undef, rfl, h1, h2, h3⟩

set_option maxRecDepth 100000 in
set_option maxHeartbeats 4000000 in
theorem whole_calls (p s : ByteArray) (pt : Bool) (w : World) (hp : p.size ≤ 1000000) (hs : s.size ≤ 1000000) :
    Calls Try.prog 33 #[.string p, .string s, .bool pt] w fun e w' => e = .returned (.bool (Gl.whole pt p.data.toList s.data.toList)) ∧ Below w.heap.size w w' := by
  go_enter Try.func33, Try.ntmps33
  go_wp2_with fail
  refine wp_scope_jumps2 0 (JJ p s pt w) (fun a' _ => Meas (Gl.parts p.data.toList).length s.size (intOf (a'.tmps.getD 8 undef)) (intOf (a'.tmps.getD 10 undef)) (intOf (a'.tmps.getD 11 undef))) rfl ?pass ?first
  case pass =>
    refine JJ.elim ?_
    intro g n cap qs w1 at_ i fr st u w' hinv hB1 hjf
    have hjf' := Lib.hid hjf
    obtain ⟨hqs0, hn0, hcap, hcells, hBw, hgl, hnm, hwm0⟩ := hjf
    have hwm := Lib.hid hwm0
    have hqs := Lib.hid hqs0; have hn := Lib.hid hn0
    have hnl : n ≤ qs.length := Nat.le_of_eq hn0
    have hln : qs.length ≤ n := Nat.le_of_eq hn0.symm
    clear hqs0 hn0 hwm0
    have hiv := Lib.hid hinv
    have hmn : (Gl.parts p.data.toList).length = n := by rw [← hqs.out, hn.out]
    obtain ⟨hs1, hs2⟩ := hinv.star_lt
    have hil : i ≤ s.size := by have := hinv.2.1; rw [← Go.Lib.size_eq] at this; exact this
    have hal : at_ ≤ n := by have := hinv.1; omega
    rw [hmn]
    clear hmn hinv
    by_cases hL : at_ < n
    · obtain ⟨q, hq⟩ : ∃ q, qs[at_]? = some q := ⟨_, List.getElem?_eq_getElem (by omega)⟩
      have hq' := Lib.hid hq
      obtain ⟨kd, a, f, hrep, hc1, hc2, hc3⟩ := hcells at_ q hq
      rw [← hB1.cell (p := ⟨g, at_ * 3, none⟩) hgl] at hc1
      rw [← hB1.cell (p := ⟨g, at_ * 3 + 1, none⟩) hgl] at hc2
      rw [← hB1.cell (p := ⟨g, at_ * 3 + 2, none⟩) hgl] at hc3
      clear hcells
      by_cases hst : q = .star
      · have hk := hrep.kind.1 hst
        have hstar := Lib.hid (hiv.out.star (hst ▸ hq))
        clear hq hrep hst
        go_wp2
        go_step3
        exact ⟨rfl, JJ.mk hstar.out hB1 hjf'.out (by omega) rfl rfl rfl, show Meas n s.size ((at_ : Int) + 1) at_ i < Meas n s.size at_ (starInt st) fr from meas_star hs1 (by omega) (by omega) hs2⟩
      · have hk := hrep.kind.2 hst
        have hrep' := Lib.hid (hrep.kept (w' := w') fun b v t _ h => hB1.block b (heap_lt h))
        clear hq hrep
        by_cases hi : i < s.size
        · go_wp2_with fail
          have hrep2 := Lib.hid (hrep'.out.kept (w' := w'.drew) fun b v t _ h => rfl)
          have hB2 := hB1.drew
          go_still_tail 18, (by kernel_rfl)
          change wpList _ _ _ _ _ w'.drew
          generalize w'.drew = w2 at hrep2 hB2 ⊢
          go_wp2_with fail
          refine (one_calls q [.int .u8 kd, .int .u8 a, f] s[i] w2 hrep2.out).mono ?_
          rintro e w3 ⟨rfl, hb3⟩
          cases ho : Gl.one q s[i] with
          | true =>
            have hnext := Lib.hid (hiv.out.next hq'.out (List.getElem?_eq_getElem hi) hst ho)
            clear ho
            go_wp2
            go_step3
            exact ⟨rfl, JJ.mk hnext.out (hB2.trans (hb3.mono hB2.size)) hjf'.out (by omega) (by omega) rfl rfl, show Meas n s.size ((at_ : Int) + 1) (starInt st) fr < Meas n s.size at_ (starInt st) fr from meas_next (by omega)⟩
          | false =>
            have hsk := Lib.hid (show Gl.Stuck qs s.data.toList at_ i from ⟨fun q' h => by rw [hq'.out] at h; injection h with h; exact h ▸ hst,
              fun q' c h hc => by rw [hq'.out] at h; injection h with h; subst h; rw [List.getElem?_eq_getElem (by rw [← Go.Lib.size_eq]; exact hi)] at hc; injection hc with hc; subst hc; exact ho,
              fun h => by have := h.1; have := hn.out; omega⟩)
            clear ho
            cases st with
            | none =>
              have e0 : starInt none = -1 := rfl
              have hno := Lib.hid (hwm.out.trans (hiv.out.none_no hsk.out))
              go_wp2
              simp only [Exit.jump]
              go_ret
              exact ⟨by rw [hno.out]; rfl, (hB2.trans (hb3.mono hB2.size)).mono' hBw⟩
            | some k =>
              have e0 : starInt (some k) = (k : Int) := rfl
              by_cases hf : fr < s.size
              · have hbk := Lib.hid (hiv.out.back hsk.out (by rw [← Go.Lib.size_eq]; exact hf))
                go_wp2
                go_step3
                exact ⟨rfl, JJ.mk hbk.out (hB2.trans (hb3.mono hB2.size)) hjf'.out (by omega) (by omega) rfl (by omega), show Meas n s.size ((k : Int) + 1) k ((fr : Int) + 1) < Meas n s.size at_ k fr from meas_back (by omega) (by omega)⟩
              · have hno := Lib.hid (hwm.out.trans (hiv.out.end_no hsk.out (by rw [← Go.Lib.size_eq]; omega)))
                go_wp2
                simp only [Exit.jump]
                go_ret
                exact ⟨by rw [hno.out]; rfl, (hB2.trans (hb3.mono hB2.size)).mono' hBw⟩
        · have hd : decide ((i : Int) < (s.size : Int)) = false := decide_eq_false (by omega)
          have hdn : decide (i < s.size) = false := decide_eq_false hi
          have hsk := Lib.hid (show Gl.Stuck qs s.data.toList at_ i from ⟨fun q' h => by rw [hq'.out] at h; injection h with h; exact h ▸ hst,
            fun q' c h hc => by have := (List.getElem?_eq_some_iff.1 hc).1; rw [← Go.Lib.size_eq] at this; exact absurd this hi,
            fun h => by have := h.1; have := hn.out; omega⟩)
          go_wp2_with fail
          have hB2 := fun n => below_drewN' hB1 n
          go_quiet (fail)
          cases st with
          | none =>
            have e0 : starInt none = -1 := rfl
            have hno := Lib.hid (hwm.out.trans (hiv.out.none_no hsk.out))
            go_wp2
            simp only [Exit.jump]
            go_ret
            exact ⟨by rw [hno.out]; rfl, (hB2 _).mono' hBw⟩
          | some k =>
            have e0 : starInt (some k) = (k : Int) := rfl
            by_cases hf : fr < s.size
            · have hbk := Lib.hid (hiv.out.back hsk.out (by rw [← Go.Lib.size_eq]; exact hf))
              go_wp2
              go_step3
              exact ⟨rfl, JJ.mk hbk.out (hB2 _) hjf'.out (by omega) (by omega) rfl (by omega), show Meas n s.size ((k : Int) + 1) k ((fr : Int) + 1) < Meas n s.size at_ k fr from meas_back (by omega) (by omega)⟩
            · have hno := Lib.hid (hwm.out.trans (hiv.out.end_no hsk.out (by rw [← Go.Lib.size_eq]; omega)))
              go_wp2
              simp only [Exit.jump]
              go_ret
              exact ⟨by rw [hno.out]; rfl, (hB2 _).mono' hBw⟩
    · have hd0 : decide ((at_ : Int) < (n : Int)) = false := decide_eq_false (by omega)
      have hd0n : decide (at_ < n) = false := decide_eq_false hL
      have hqn : ∀ q', qs[at_]? = some q' → False := fun q' h => by have := (List.getElem?_eq_some_iff.1 h).1; omega
      have hb0 : ((at_ : Int) == (n : Int)) = true := beq_iff_eq.2 (by omega)
      by_cases hi : i < s.size
      · have hb1 : ((i : Int) == (s.size : Int)) = false := beq_eq_false_iff_ne.2 (by omega)
        have hsk := Lib.hid (show Gl.Stuck qs s.data.toList at_ i from ⟨fun q' h => (hqn q' h).elim, fun q' c h _ => (hqn q' h).elim, fun h => by have := h.2; rw [← Go.Lib.size_eq] at this; omega⟩)
        clear hqn
        go_wp2_with fail
        have hB2 := fun n => below_drewN' hB1 n
        go_quiet (fail)
        cases st with
        | none =>
          have e0 : starInt none = -1 := rfl
          have hno := Lib.hid (hwm.out.trans (hiv.out.none_no hsk.out))
          go_wp2
          simp only [Exit.jump]
          go_ret
          exact ⟨by rw [hno.out]; rfl, (hB2 _).mono' hBw⟩
        | some k =>
          have e0 : starInt (some k) = (k : Int) := rfl
          by_cases hf : fr < s.size
          · have hbk := Lib.hid (hiv.out.back hsk.out (by rw [← Go.Lib.size_eq]; exact hf))
            go_wp2
            go_step3
            exact ⟨rfl, JJ.mk hbk.out (hB2 _) hjf'.out (by omega) (by omega) rfl (by omega), show Meas n s.size ((k : Int) + 1) k ((fr : Int) + 1) < Meas n s.size at_ k fr from meas_back (by omega) (by omega)⟩
          · have hno := Lib.hid (hwm.out.trans (hiv.out.end_no hsk.out (by rw [← Go.Lib.size_eq]; omega)))
            go_wp2
            simp only [Exit.jump]
            go_ret
            exact ⟨by rw [hno.out]; rfl, (hB2 _).mono' hBw⟩
      · have hb1 : ((i : Int) == (s.size : Int)) = true := beq_iff_eq.2 (by omega)
        have hyes := Lib.hid (hwm.out.trans (Gl.Inv.done (st := st) (fr := fr) (by
          have e1 : at_ = qs.length := by omega
          have e2 : i = s.data.toList.length := by rw [← Go.Lib.size_eq]; omega
          rw [← e1, ← e2]; exact hiv.out)))
        clear hqn
        go_wp2_with fail
        have hB2 := fun n => below_drewN' hB1 n
        go_quiet (fail)
        go_wp2
        simp only [Exit.jump]
        go_ret
        exact ⟨by rw [hyes.out]; rfl, (hB2 _).mono' hBw⟩
  case first =>
    intro hrest
    go_wp2_with fail
    refine (parts_calls p _ hp).mono ?_
    rintro e w1 ⟨v, rfl, hat, hB⟩
    have hplen : (Gl.parts p.data.toList).length ≤ 1000000 := Nat.le_trans (Gl.parts_length _ _ (Nat.le_refl _)) (by rw [← Go.Lib.size_eq]; exact hp)
    have hes : s.size = 0 → s.toList.isEmpty = true := fun h => by rw [Go.Lib.toList_data, List.isEmpty_iff_length_eq_zero, ← Go.Lib.size_eq]; exact h
    have hns : 0 < s.size → s.toList.isEmpty = false := fun h => by
      rw [Go.Lib.toList_data, Bool.eq_false_iff]
      intro e
      rw [List.isEmpty_iff_length_eq_zero, ← Go.Lib.size_eq] at e
      omega
    rcases hat.view with ⟨rfl, hq0⟩ | ⟨g, cap, rfl, hbg, hgl, hcap, hcells⟩
    · have hq := Lib.hid hq0
      clear hq0 hat
      clear hplen
      by_cases hs0 : 0 < s.size
      · have hie := hns hs0
        clear hes hns
        have hdn : decide (0 < s.size) = true := decide_eq_true hs0
        have hz : ((s.size : Int) == 0) = false := beq_eq_false_iff_ne.2 (by omega)
        have hz2 : ((0 : Int) == (s.size : Int)) = false := beq_eq_false_iff_ne.2 (by omega)
        have hno := Lib.hid (show Gl.whole pt p.data.toList s.data.toList = false by
          unfold Gl.whole; rw [hq.out, Gl.mt_nil]
          have : s.data.toList.isEmpty = false := by rw [← Go.Lib.toList_data]; exact hie
          rw [this, Bool.and_false])
        clear hrest
        cases pt with
        | false =>
          go_wp2_with fail
          go_step3
          go_wp2_with fail
          go_quiet (fail)
          go_wp2
          simp only [Exit.jump]
          go_ret
          exact ⟨by rw [hno.out]; rfl, below_drewN' hB _⟩
        | true =>
          by_cases hd : (s[0].toNat : Int) = 46
          · go_wp2
            simp only [Exit.jump]
            go_ret
            exact ⟨by rw [hno.out]; rfl, hB⟩
          · have hd' := beq_eq_false_iff_ne.2 hd
            clear hd
            go_wp2_with fail
            go_step3
            go_wp2_with fail
            go_quiet (fail)
            go_wp2
            simp only [Exit.jump]
            go_ret
            exact ⟨by rw [hno.out]; rfl, below_drewN' hB _⟩
      · have hie := hes (by omega)
        clear hes hns hrest
        have hnn : s.size = 0 := by omega
        have hz : ((s.size : Int) == 0) = true := beq_iff_eq.2 (by omega)
        have hz2 : ((0 : Int) == (s.size : Int)) = true := beq_iff_eq.2 (by omega)
        have hyes := Lib.hid (show Gl.whole pt p.data.toList s.data.toList = true by
          unfold Gl.whole; rw [hq.out, List.length_eq_zero_iff.1 (show s.data.toList.length = 0 by rw [← Go.Lib.size_eq]; exact hnn), Gl.mt_nil]
          cases pt <;> rfl)
        clear hnn
        cases pt with
        | false =>
          go_wp2_with fail
          go_step3
          go_wp2_with fail
          go_quiet (fail)
          go_wp2
          simp only [Exit.jump]
          go_ret
          exact ⟨by rw [hyes.out]; rfl, below_drewN' hB _⟩
        | true =>
          go_wp2_with fail
          go_step3
          go_wp2_with fail
          go_quiet (fail)
          go_wp2
          simp only [Exit.jump]
          go_ret
          exact ⟨by rw [hyes.out]; rfl, below_drewN' hB _⟩
    · have hm := Lib.hid hcells
      clear hat hcells
      have jmk : ∀ (n : Nat), n = (Gl.parts p.data.toList).length → Gl.whole pt p.data.toList s.data.toList = Gl.mt (Gl.parts p.data.toList) s.data.toList → JFacts p s pt g n cap (Gl.parts p.data.toList) w w1 :=
        fun n hn h => ⟨rfl, hn, hn ▸ hcap, hm.out, hB, hgl, hn ▸ hplen, h⟩
      have jm := Lib.hid jmk
      clear jmk
      obtain ⟨n, hn0⟩ : ∃ n, n = (Gl.parts p.data.toList).length := ⟨_, rfl⟩
      rw [← hn0] at hcap hplen ⊢
      have hn := Lib.hid hn0
      clear hn0
      cases pt with
      | false =>
        go_wp2_with fail
        go_step3
        rename_i hK
        exact hK _ _ (hrest _ _ (JJ.mk (Gl.Inv.start _ _) (Below.refl _ _) (jm.out n hn.out (whole_seen rfl)) rfl rfl rfl rfl))
      | true =>
        by_cases hs0 : 0 < s.size
        · have hie := hns hs0
          clear hes hns
          by_cases hd : (s[0].toNat : Int) = 46
          · have hhid := Lib.hid (hidden_yes hs0 hd)
            by_cases hn1 : 0 < n
            · obtain ⟨q, hq⟩ : ∃ q, (Gl.parts p.data.toList)[0]? = some q := ⟨_, List.getElem?_eq_getElem (by rw [← hn.out]; exact hn1)⟩
              obtain ⟨kd, a, f, hrep, hc1, hc2, hc3⟩ := hm.out 0 q hq
              obtain ⟨l, hl⟩ : ∃ l, Gl.parts p.data.toList = q :: l := by
                cases h : Gl.parts p.data.toList with
                | nil => rw [h] at hq; cases hq
                | cons x l => rw [h] at hq; injection hq with hq; exact ⟨l, by rw [hq]⟩
              have hnz : ((n : Int) == 0) = false := beq_eq_false_iff_ne.2 (by omega)
              rw [Nat.zero_mul] at hc1 hc2 hc3
              rw [Nat.zero_add] at hc2 hc3
              clear hq
              by_cases hpt : Gl.points (Gl.parts p.data.toList) = true
              · have hseen := Lib.hid (whole_seen (pt := true) (p := p.data.toList) (s := s.data.toList) (by rw [hpt]; simp))
                rw [hl] at hpt
                have hl' := Lib.hid hl
                clear hl
                cases hrep with
                | byte c =>
                  have hcc : c = 46 := by simpa [Gl.points] using hpt
                  subst hcc
                  clear hpt
                  have e46 : (((46 : UInt8).toNat : Nat) : Int) = 46 := rfl
                  rw [e46] at hc2
                  clear e46
                  go_wp2_with fail
                  go_step3
                  rename_i hK
                  exact hK _ _ (hrest _ _ (JJ.mk (Gl.Inv.start _ _) (Below.refl _ _) (jm.out n hn.out hseen.out) rfl rfl rfl rfl))
                | star => cases hpt
                | any => cases hpt
                | set _ _ _ _ _ _ _ => cases hpt
              · have hpt' := Bool.eq_false_iff.2 hpt
                have hno := Lib.hid (whole_hid (p := p.data.toList) hhid.out hpt')
                rw [hl] at hpt'
                have hl' := Lib.hid hl
                clear hl hpt
                cases hrep with
                | byte c =>
                  have hcc : c ≠ 46 := by simpa [Gl.points] using hpt'
                  have hcb : ((c.toNat : Int) == 46) = false := beq_eq_false_iff_ne.2 fun e => hcc (byte_eq e (by decide))
                  have hcb2 : ((c.toNat : Int) != 46) = true := by rw [bne, hcb]; rfl
                  clear hpt' hcc
                  go_wp2
                  simp only [Exit.jump]
                  go_ret
                  exact ⟨by rw [hno.out]; rfl, hB⟩
                | star =>
                  clear hpt'
                  go_wp2
                  simp only [Exit.jump]
                  go_ret
                  exact ⟨by rw [hno.out]; rfl, hB⟩
                | any =>
                  clear hpt'
                  go_wp2
                  simp only [Exit.jump]
                  go_ret
                  exact ⟨by rw [hno.out]; rfl, hB⟩
                | set _ _ _ _ _ g1 g2 =>
                  clear hpt' g1 g2
                  go_wp2
                  simp only [Exit.jump]
                  go_ret
                  exact ⟨by rw [hno.out]; rfl, hB⟩
            · have hnz : ((n : Int) == 0) = true := beq_iff_eq.2 (by omega)
              have hno := Lib.hid (whole_hid (p := p.data.toList) hhid.out (by rw [List.length_eq_zero_iff.1 (show (Gl.parts p.data.toList).length = 0 by rw [← hn.out]; omega)]; rfl))
              go_wp2
              simp only [Exit.jump]
              go_ret
              exact ⟨by rw [hno.out]; rfl, hB⟩
          · have hd' := beq_eq_false_iff_ne.2 hd
            have hseen := Lib.hid (whole_seen (pt := true) (p := p.data.toList) (s := s.data.toList) (by rw [hidden_no hs0 hd']; rfl))
            clear hd
            go_wp2_with fail
            go_step3
            rename_i hK
            exact hK _ _ (hrest _ _ (JJ.mk (Gl.Inv.start _ _) (Below.refl _ _) (jm.out n hn.out hseen.out) rfl rfl rfl rfl))
        · have hie := hes (by omega)
          clear hes hns
          have hseen := Lib.hid (whole_seen (pt := true) (p := p.data.toList) (s := s.data.toList) (by
            rw [List.length_eq_zero_iff.1 (show s.data.toList.length = 0 by rw [← Go.Lib.size_eq]; omega)]; rfl))
          go_wp2_with fail
          go_step3
          rename_i hK
          exact hK _ _ (hrest _ _ (JJ.mk (Gl.Inv.start _ _) (Below.refl _ _) (jm.out n hn.out hseen.out) rfl rfl rfl rfl))
end Go.Proofs.Ytfnmncghgmnaaaa
