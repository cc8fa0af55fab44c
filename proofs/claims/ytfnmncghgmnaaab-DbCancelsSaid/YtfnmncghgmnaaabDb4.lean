/-
  Lists of numbers: sameInts (14) at two equal lists. Conditions: none.
-/
import Derived.Test.YtfnmncghgmnaaabDb3
namespace Go.Proofs.Ytfnmncghgmnaaab
open Go.RowKit

/-- A slice of numbers that reads as a list. -/
def IntsAt (w : World) (v : Value) (l : List Int) : Prop :=
  ∃ (a : Option Addr) (n c : Nat), v = .slice a n c ∧ n = l.length ∧ n ≤ c ∧ c ≤ maxLen ∧
    (0 < n → ∃ b off, a = some ⟨b, off, none⟩ ∧ b < w.heap.size ∧ ∀ (k : Nat) (s : Int), l[k]? = some s → w.cell? ⟨b, off + k, none⟩ = some (.int .i64 s)) ∧ (a = none → c = 0)
theorem IntsAt.below {w w' : World} {v : Value} {l : List Int} (h : IntsAt w v l) (hb : Below w.heap.size w w') : IntsAt w' v l := by
  obtain ⟨a, n, c, h1, h2, h3, h3', h4, h5⟩ := h
  refine ⟨a, n, c, h1, h2, h3, h3', fun hn => ?_, h5⟩
  obtain ⟨b, off, ha, hl, hc⟩ := h4 hn
  exact ⟨b, off, ha, Nat.lt_of_lt_of_le hl hb.size, fun k s hk => (hb.cell (p := ⟨b, off + k, none⟩) hl).trans (hc k s hk)⟩
set_option maxHeartbeats 400000 in
theorem sameInts_calls (v u : Value) (l : List Int) (w : World) (h : IntsAt w v l) (h' : IntsAt w u l) :
    Calls Try.prog 14 #[v, u] w fun e w' => e = .returned (.bool true) ∧ Below w.heap.size w w' := by
  obtain ⟨a, n, c, rfl, hn0, hc, hm, hcell, _⟩ := h
  obtain ⟨a', n', c', rfl, hn0', hc', hm', hcell', _⟩ := h'
  obtain rfl : n = n' := by omega
  unfold maxLen at hm hm'
  have hn := Lib.hid hn0
  have hce := Lib.hid hcell
  have hce' := Lib.hid hcell'
  clear hn0 hn0' hcell hcell'
  go_enter Try.func14, Try.ntmps14
  go_wp2_with fail
  go_loopw [5] (fun i wr => ∃ k : Nat, k ≤ n ∧ i = .int .i64 k ∧ Below w.heap.size w wr) (fun i _ => n - (intOf i).toNat)
  case atStart => exact ⟨0, Nat.zero_le _, rfl, Below.refl _ _⟩
  case round =>
    obtain ⟨k, hk, rfl, hB⟩ := hrel
    by_cases hlt : k < n
    · obtain ⟨s, hs⟩ : ∃ s, l[k]? = some s := ⟨_, List.getElem?_eq_getElem (by rw [← hn.out]; exact hlt)⟩
      obtain ⟨b, off, rfl, hb, hcells⟩ := hce.out (by omega)
      obtain ⟨b', off', rfl, hb', hcells'⟩ := hce'.out (by omega)
      have hck := (hB.cell (p := ⟨b, off + k, none⟩) hb).trans (hcells k s hs)
      have hck' := (hB.cell (p := ⟨b', off' + k, none⟩) hb').trans (hcells' k s hs)
      have y1 : (0 : Int) ≤ (k : Int) := by omega
      have y2 : (k : Int) < (n : Int) := by omega
      clear hcells hcells' hs
      go_wp2_with fail
      go_quiet (fail)
      go_wp2
      exact ⟨⟨k + 1, by omega, by go_num, below_drewN' hB _⟩, by simp [intOf]; omega⟩
    · go_wp2
      go_ret
      exact ⟨rfl, hB⟩
end Go.Proofs.Ytfnmncghgmnaaab
