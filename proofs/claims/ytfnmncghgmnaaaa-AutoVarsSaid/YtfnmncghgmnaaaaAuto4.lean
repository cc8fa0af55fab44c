/-
  The reference's Index, Member and Join (functions 42, 29, 32); are two lists the same (28). Conditions: strings of the model; lists of at most 1,000,000 strings; what is joined has at most a million bytes.
-/
import Derived.Test.YtfnmncghgmnaaaaAuto3
namespace Go.Proofs.Ytfnmncghgmnaaaa
open Go.RowKit

def idxInt (c : UInt8) (l : List UInt8) : Int := match Gl.idx c l with | some n => (n : Int) | none => -1

set_option maxHeartbeats 400000 in
theorem index_calls (s : ByteArray) (c : UInt8) (w : World) (hs : s.size ≤ 9223372036854775807) :
    Calls Try.prog 42 #[.string s, .int .u8 c.toNat] w fun e w' => e = .returned (.int .i64 (idxInt c s.data.toList)) ∧ w = w' := by
  go_enter Try.func42, Try.ntmps42
  go_wp2_with fail
  go_loop [5] (fun i => ∃ k : Nat, k ≤ s.size ∧ i = .int .i64 k ∧ Hid (Gl.idx c s.data.toList = (Gl.idx c (s.data.toList.drop k)).map (· + k))) (fun i => s.size - (intOf i).toNat)
  case atStart => exact ⟨0, Nat.zero_le _, rfl, by show _ = _; simp⟩
  case round =>
    obtain ⟨k, hk, rfl, hrel⟩ := hrel
    by_cases hlt : k < s.size
    · by_cases hc : s[k] = c
      · have hv := Lib.hid (show idxInt c s.data.toList = k by unfold idxInt; rw [hrel.out, drop_cons hlt, hc]; simp [Gl.idx])
        have d : ((s[k].toNat : Int) == (c.toNat : Int)) = true := by rw [hc]; simp
        clear hc
        go_wp2
        go_ret
        exact ⟨by rw [hv.out]; rfl, rfl⟩
      · have hi := Lib.hid (show Gl.idx c s.data.toList = (Gl.idx c (s.data.toList.drop (k + 1))).map (· + (k + 1)) by
          rw [hrel.out, drop_cons hlt]
          simp only [Gl.idx, if_neg hc]
          cases Gl.idx c (s.data.toList.drop (k + 1)) with
          | none => rfl
          | some m => simp; omega)
        have d : ((s[k].toNat : Int) == (c.toNat : Int)) = false := beq_eq_false_iff_ne.2 (fun e => hc (UInt8.toNat_inj.1 (by omega)))
        clear hc
        go_wp2
        exact ⟨⟨k + 1, by omega, by go_num, hi⟩, by simp [intOf]; omega⟩
    · have hv := Lib.hid (show idxInt c s.data.toList = -1 by unfold idxInt; rw [hrel.out, List.drop_of_length_le (by rw [← Lib.size_eq]; omega)]; rfl)
      go_wp2
      go_ret
      exact ⟨by rw [hv.out]; rfl, rfl⟩

set_option maxHeartbeats 1000000 in
theorem member_split (s : ByteArray) (w : World) (hs : s.size ≤ 9223372036854775807) :
    Calls Try.prog 29 #[.string s] w fun e w' => e = .returned (splitVal s) ∧ Below w.heap.size w w' := by
  have hcall := Lib.hid (index_calls s 40 w hs)
  cases hi0 : Gl.idx 40 s.data.toList with
  | none =>
    have hv := Lib.hid (show splitVal s = .tuple #[.string ⟨#[]⟩, .string ⟨#[]⟩, .bool false] by unfold splitVal splitOf; rw [hi0])
    have hi := Lib.hid (show idxInt 40 s.data.toList = -1 by unfold idxInt; rw [hi0])
    clear hi0
    go_enter Try.func29, Try.ntmps29
    go_wp2_with fail
    refine (hcall.out).mono ?_
    rintro e w' ⟨rfl, rfl⟩
    rw [hi.out]
    go_wp2
    go_ret3
    exact ⟨by rw [hv.out]; rfl, Below.refl _ _⟩
  | some k =>
    have hkl := Gl.idx_lt hi0
    rw [← Lib.size_eq] at hkl
    have hi := Lib.hid (show idxInt 40 s.data.toList = k by unfold idxInt; rw [hi0])
    cases k with
    | zero =>
      have hv := Lib.hid (show splitVal s = .tuple #[.string ⟨#[]⟩, .string ⟨#[]⟩, .bool false] by unfold splitVal splitOf; rw [hi0])
      clear hi0
      go_enter Try.func29, Try.ntmps29
      go_wp2_with fail
      refine (hcall.out).mono ?_
      rintro e w' ⟨rfl, rfl⟩
      rw [hi.out]
      go_wp2
      go_ret3
      exact ⟨by rw [hv.out]; rfl, Below.refl _ _⟩
    | succ k =>
      have hlast := shutB_last (s := s) (by omega)
      cases hb : shutB s with
      | false =>
        have hv := Lib.hid (show splitVal s = .tuple #[.string ⟨#[]⟩, .string ⟨#[]⟩, .bool false] by unfold splitVal splitOf; rw [hi0]; simp [hb])
        rw [hb] at hlast
        have hl2 := hlast.symm
        have hl3 : ((s[s.size - 1].toNat : Int) != 41) = true := by rw [bne, hl2]; rfl
        clear hi0 hb hlast
        go_enter Try.func29, Try.ntmps29
        go_wp2_with fail
        refine (hcall.out).mono ?_
        rintro e w' ⟨rfl, rfl⟩
        rw [hi.out]
        go_wp2
        go_ret3
        exact ⟨by rw [hv.out]; rfl, Below.refl _ _⟩
      | true =>
        obtain ⟨g1, g2⟩ := split_end hi0 hb
        have hv := Lib.hid (show splitVal s = .tuple #[.string (s.extract 0 (k + 1)), .string (s.extract (k + 1 + 1) (s.size - 1)), .bool true] by unfold splitVal splitOf; rw [hi0]; simp [hb])
        rw [hb] at hlast
        have hl2 := hlast.symm
        have hl3 : ((s[s.size - 1].toNat : Int) != 41) = false := by rw [bne, hl2]; rfl
        clear hi0 hb hlast
        go_enter Try.func29, Try.ntmps29
        go_wp2_with fail
        refine (hcall.out).mono ?_
        rintro e w' ⟨rfl, rfl⟩
        rw [hi.out]
        have y1 : IntKind.i64.wrap (((k + 1 : Nat) : Int) + 1) = ((k + 1 : Nat) : Int) + 1 := IntWalk.i64_in _ (by omega)
        have y2 : IntKind.i64.wrap ((s.size : Int) - 1) = (s.size : Int) - 1 := IntWalk.i64_in _ (by omega)
        have y3 : (((k + 1 : Nat) : Int) + 1).toNat = k + 1 + 1 := by omega
        have y4 : ((s.size : Int) - 1).toNat = s.size - 1 := by omega
        have y5 : (0 : Int) ≤ ((k + 1 : Nat) : Int) + 1 := by omega
        have y6 : ((k + 1 : Nat) : Int) + 1 ≤ (s.size : Int) - 1 := by omega
        have y7 : (s.size : Int) - 1 ≤ (s.size : Int) := by omega
        go_wp2_with fail
        go_quiet (fail)
        clear y1 y2 y3
        go_wp2
        go_ret3
        exact ⟨by rw [hv.out]; rfl, below_drewN' (Below.refl _ _) _⟩

/-- Are two lists the same? -/
def sameL : List ByteArray → List ByteArray → Bool
  | [], [] => true
  | a :: l, b :: m => decide (a = b) && sameL l m
  | _, _ => false
theorem sameL_self : ∀ l, sameL l l = true
  | [] => rfl
  | a :: l => by simp [sameL, sameL_self l]
theorem sameL_len : ∀ {l m : List ByteArray}, sameL l m = true → l.length = m.length
  | [], [], _ => rfl
  | a :: l, b :: m, h => by simp only [sameL, Bool.and_eq_true] at h; simp [sameL_len h.2]
  | [], _ :: _, h => by simp [sameL] at h
  | _ :: _, [], h => by simp [sameL] at h

set_option maxHeartbeats 1000000 in
theorem same_calls (v u : Value) (l : List ByteArray) (w : World) (h : StrsAt w v l) (h' : StrsAt w u l) :
    Calls Try.prog 28 #[v, u] w fun e w' => e = .returned (.bool true) ∧ Below w.heap.size w w' := by
  obtain ⟨a, n, c, rfl, hn0, hc, hm, hcell, _⟩ := h
  obtain ⟨a', n', c', rfl, hn0', hc', hm', hcell', _⟩ := h'
  obtain rfl : n = n' := by omega
  unfold maxLen at hm hm'
  have hn := Lib.hid hn0
  have hce := Lib.hid hcell
  have hce' := Lib.hid hcell'
  clear hn0 hn0' hcell hcell'
  go_enter Try.func28, Try.ntmps28
  go_wp2_with fail
  go_loopw [5] (fun i wr => ∃ k : Nat, k ≤ n ∧ i = .int .i64 k ∧ Below w.heap.size w wr) (fun i _ => n - (intOf i).toNat)
  case atStart => exact ⟨0, Nat.zero_le _, rfl, Below.refl _ _⟩
  case round =>
    obtain ⟨k, hk, rfl, hB⟩ := hrel
    by_cases hlt : k < n
    · obtain ⟨s, hs⟩ : ∃ s, l[k]? = some s := ⟨_, List.getElem?_eq_getElem (by rw [← hn.out]; exact hlt)⟩
      obtain ⟨b, off, rfl, hb, hcells⟩ := hce.out (by omega)
      obtain ⟨b', off', rfl, hb', hcells'⟩ := hce'.out (by omega)
      have hck := (hB.cell (p := ⟨b, off + k, none⟩) hb).trans (hcells k s hs)
      have hck' := (hB.cell (p := ⟨b', off' + k, none⟩) hb').trans (hcells' k s hs)
      have y1 : (0 : Int) ≤ (k : Int) := by omega
      have y2 : (k : Int) < (n : Int) := by omega
      clear hcells hcells' hs
      go_wp2_with fail
      go_quiet (fail)
      go_wp2
      exact ⟨⟨k + 1, by omega, by go_num, below_drewN' hB _⟩, by simp [intOf]; omega⟩
    · go_wp2
      go_ret
      exact ⟨rfl, hB⟩
end Go.Proofs.Ytfnmncghgmnaaaa
