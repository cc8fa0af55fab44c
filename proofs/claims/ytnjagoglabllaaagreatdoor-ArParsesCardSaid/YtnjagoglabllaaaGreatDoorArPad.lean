/-
  padded: texts with blanks behind. Conditions: at most a hundred texts of at most 2^20 bytes.
-/
import Derived.Test.YtnjagoglabllaaaGreatDoorArSize
import Derived.Test.YtnjagoglabllaaaGreatDoorShelf
namespace Go.Proofs.YtnjagoglabllaaaGreatDoor
open Go.RowKit

theorem mk_append (a b : Bs) : mk a ++ mk b = mk (a ++ b) := ba_ext (by rw [ba_append, mk_list, mk_list, mk_list])
def padL : List (Bs × Nat) → Bs
  | [] => []
  | (s, n) :: r => padB s n ++ padL r
theorem padL_app : ∀ (a b : List (Bs × Nat)), padL (a ++ b) = padL a ++ padL b
  | [], b => rfl
  | x :: a, b => by rw [List.cons_append, padL, padL, padL_app a b]; simp
/-- A slice of texts and lengths, in memory. -/
def AnysAt (w : World) (v : Value) (l : List (Bs × Nat)) : Prop :=
  ∃ b c, v = .slice (some ⟨b, 0, none⟩) (2 * l.length) c ∧ b < w.heap.size ∧ ∀ (k : Nat) (x : Bs × Nat), l[k]? = some x → w.cell? ⟨b, 2 * k, none⟩ = some (.iface 9 (.string (mk x.1))) ∧ w.cell? ⟨b, 2 * k + 1, none⟩ = some (.iface 3 (.int .i64 x.2))
theorem repeat_blank (c : Nat) : Go.Lib.repeatL [32] c = List.replicate c 32 := by
  have := Go.Lib.repeatL_replicate 32 1 c
  rwa [Nat.mul_one] at this
theorem padL_len : ∀ (l : List (Bs × Nat)), (∀ x ∈ l, x.1.length ≤ 1048576 ∧ x.2 ≤ 1000) → l.length ≤ 100 → (padL l).length ≤ 110000000 := by
  have : ∀ (l : List (Bs × Nat)), (∀ x ∈ l, x.1.length ≤ 1048576 ∧ x.2 ≤ 1000) → (padL l).length ≤ l.length * 1050000 := by
    intro l
    induction l with
    | nil => simp [padL]
    | cons x r ih =>
      intro h
      have h1 := h x (by simp)
      have h2 := ih (fun y hy => h y (by simp [hy]))
      obtain ⟨s, n⟩ := x
      rw [padL, List.length_append]
      have h3 : (padB s n).length ≤ 1050000 := by unfold padB; rw [List.length_append, List.length_replicate]; dsimp only at h1; omega
      rw [List.length_cons]
      omega
  intro l h1 h2
  have := this l h1
  omega
theorem rep_calls (c : Nat) (w : World) (hc : c ≤ 1000) : Calls Tryz.prog 54 #[.string ⟨#[32]⟩, .int .i64 c] w fun e w' => e = .returned (.string (mk (List.replicate c 32))) ∧ Below w.heap.size w w' := by
  have := Tryz.strings_Repeat ⟨#[32]⟩ c w (by omega) (by show 1 * c ≤ _; omega)
  refine this.mono ?_
  rintro e w' ⟨rfl, h⟩
  refine ⟨?_, h⟩
  exact congrArg (fun x : Bs => Ending.returned (.string (mk x))) (repeat_blank c)
theorem isStr (v : Value) (xT : TypeId) (w : World) : (Instr.typeAssert (.iface 9 v) xT 9 false).run Tryz.prog w = .ok v w := by
  simp [Instr.typeAssert, run_underlying Tryz.underlying9, go_sem, Result.andThen]
theorem isInt (v : Value) (xT : TypeId) (w : World) : (Instr.typeAssert (.iface 3 v) xT 3 false).run Tryz.prog w = .ok v w := by
  simp [Instr.typeAssert, run_underlying Tryz.underlying3, go_sem, Result.andThen]
set_option maxRecDepth 100000 in
set_option maxHeartbeats 4000000 in
theorem padded_calls {w : World} {v : Value} {l : List (Bs × Nat)} (h : AnysAt w v l) (hs : ∀ x ∈ l, x.1.length ≤ 1048576 ∧ x.2 ≤ 1000) (hl : l.length ≤ 100) :
    Calls Tryz.prog 42 #[v] w fun e w' => e = .returned (.string (mk (padL l))) ∧ Below w.heap.size w w' := by
  obtain ⟨b, c, rfl, hbl, hc⟩ := h
  obtain ⟨n2, hn2⟩ : ∃ n2, n2 = 2 * l.length := ⟨_, rfl⟩
  rw [← hn2]
  have kc := Lib.hid hc
  have ks := Lib.hid hs
  clear hc hs
  go_enter Tryz.func42, Tryz.ntmps42
  go_wp2
  go_loopw [3, 4, 5, 6] (fun ov iv _ _ wr => ∃ k i : Nat, k ≤ l.length ∧ i = 2 * k ∧ iv = .int .i64 i ∧ ov = .string (mk (padL (l.take k))) ∧ Below w.heap.size w wr) (fun _ iv _ _ _ => n2 - (intOf iv).toNat)
  case atStart => exact ⟨0, 0, Nat.zero_le _, rfl, rfl, rfl, Below.refl _ _⟩
  case round =>
    obtain ⟨k, i, hk, hik, rfl, rfl, hB⟩ := hrel
    have kB := Lib.hid hB
    clear hB
    by_cases hlt : k < l.length
    · obtain ⟨x, hx⟩ : ∃ x, l[k]? = some x := ⟨_, List.getElem?_eq_getElem hlt⟩
      obtain ⟨s, n⟩ := x
      obtain ⟨h0, h1⟩ := kc.out k _ hx
      have hxs := ks.out _ (List.mem_of_getElem? hx)
      dsimp only at h0 h1 hxs
      rw [← hik] at h0 h1
      have hc0 : wr.cell? ⟨b, i, none⟩ = some (.iface 9 (.string (mk s))) := (kB.out.cell (p := ⟨b, i, none⟩) hbl).trans h0
      have hc1 : wr.cell? ⟨b, i + 1, none⟩ = some (.iface 3 (.int .i64 n)) := (kB.out.cell (p := ⟨b, i + 1, none⟩) hbl).trans h1
      have hbl2 : b < wr.heap.size := Nat.lt_of_lt_of_le hbl kB.out.size
      obtain ⟨i1, hi1⟩ : ∃ i1 : Nat, i + 1 = i1 := ⟨_, rfl⟩
      obtain ⟨i2, hi2⟩ : ∃ i2 : Nat, i + 2 = i2 := ⟨_, rfl⟩
      rw [hi1] at hc1
      have e1 : IntKind.i64.wrap ((i : Int) + 1) = (i1 : Int) := by rw [IntWalk.i64_in _ (by omega)]; omega
      have e2 : IntKind.i64.wrap ((i : Int) + 2) = (i2 : Int) := by rw [IntWalk.i64_in _ (by omega)]; omega
      have y1 : (i1 : Int) < (n2 : Int) := by omega
      have y2 : (i : Int) < (n2 : Int) := by omega
      have y3 : (0 : Int) ≤ (i : Int) := by omega
      have y4 : (0 : Int) ≤ (i1 : Int) := by omega
      have z1 : i ≤ 300 := by omega
      have z2 : n2 ≤ 300 := by omega
      have z3 : i1 ≤ 300 := by omega
      have z4 : i2 ≤ 300 := by omega
      have z5 : i1 < n2 := by omega
      have z6 : i < n2 := by omega
      have z7 : n ≤ 1000 := by omega
      have z8 : s.length ≤ 1048576 := by omega
      have kik := Lib.hid (show i = 2 * k ∧ i2 = i + 2 by omega)
      have kn2 := Lib.hid hn2
      have klt := Lib.hid hlt
      clear h0 h1 hik hn2 hlt hk hi1 hi2 kc
      have nS := isStr
      have nI := isInt
      go_wp2_with fail
      go_quiet (fail)
      have hms : (mk s).size = s.length := mk_size s
      obtain ⟨c0, hc0⟩ : ∃ c0 : Nat, c0 = n - s.length := ⟨_, rfl⟩
      have e3 : IntKind.i64.wrap ((n : Int) - (s.length : Int)) = (n : Int) - (s.length : Int) := IntWalk.i64_in _ (by omega)
      have z9 : c0 ≤ 1000 := by omega
      have e4 : max (0 : Int) ((n : Int) - (s.length : Int)) = (c0 : Int) := by omega
      have hrep := Lib.hid (fun w => rep_calls c0 w z9)
      have hrs : (mk (List.replicate c0 32)).size = c0 := by rw [mk_size, List.length_replicate]
      have hts : (mk (padL (l.take k))).size = (padL (l.take k)).length := mk_size _
      have htl : (padL (l.take k)).length ≤ 110000000 := padL_len _ (fun x hx => ks.out x (List.mem_of_mem_take hx)) (by rw [List.length_take]; omega)
      have has : (mk s ++ mk (List.replicate c0 32)).size = s.length + c0 := by rw [ByteArray.size_append, hms, hrs]
      have khc0 := Lib.hid hc0
      generalize hG : padL (l.take k) = G at *
      clear hc0
      go_wp2_with (go_at_call 54; refine (hrep.out _).mono ?_; rintro e w2 ⟨rfl, hb⟩; have kb := Lib.hid hb; clear hb)
      obtain ⟨hk, hi2⟩ := kik.out
      have hkn := kn2.out
      have hlt := klt.out
      have hb := below_drewN' kB.out nq
      subst hG
      refine ⟨⟨k + 1, i2, by omega, by omega, rfl, ?_, hb.trans (kb.out.mono hb.size)⟩, by simp [intOf]; omega⟩
      rw [take_more hx, padL_app, ← mk_append, mk_append s]
      simp only [padL, padB, khc0.out, List.append_nil]
    · have hke : k = l.length := by omega
      have y1 : (i : Int) ≤ 300 := by omega
      obtain ⟨i1, hi1⟩ : ∃ i1 : Nat, i + 1 = i1 := ⟨_, rfl⟩
      have e1 : IntKind.i64.wrap ((i : Int) + 1) = (i1 : Int) := by rw [IntWalk.i64_in _ (by omega)]; omega
      have y2 : ¬ (i1 : Int) < (n2 : Int) := by omega
      have kke := Lib.hid hke
      clear hke hik hi1 hn2 hlt
      go_wp2_with fail
      go_ret
      rw [kke.out, List.take_length]
      exact ⟨rfl, kB.out⟩
end Go.Proofs.YtnjagoglabllaaaGreatDoor
