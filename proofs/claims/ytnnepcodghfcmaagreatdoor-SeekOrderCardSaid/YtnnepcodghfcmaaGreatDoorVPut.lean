/-
  A node is laid at a path: what the file system is then. Conditions: none.
-/
import Derived.Test.YtnnepcodghfcmaaGreatDoorVOps
namespace Go.Proofs.YtnnepcodghfcmaaGreatDoor
open Go.RowKit

/-- The file system's own blocks, and those that are new. -/
def Plus (S : Nat → Prop) (a b : Nat) : Nat → Prop := fun k => S k ∨ (a ≤ k ∧ k < b)
section
variable {f mb : Nat} {N : Bs → Nat} {S : Nat → Prop} {st : St} {clock clock' room : Int}
theorem FsIn.ne_map {w : World} (h : FsIn w f mb N S st clock room) : f ≠ mb := by
  intro e; obtain ⟨D, ⟨es, cl, hb, _⟩, _⟩ := h.map
  rw [← e, h.cells] at hb; cases hb
theorem FsIn.node_ne {w : World} (h : FsIn w f mb N S st clock room) {p : Bs} {nd : PN} (hf : find st p = some nd) : N p ≠ f ∧ N p ≠ mb := by
  obtain ⟨_, _, v, h3, _⟩ := h.node p nd hf
  refine ⟨fun e => ?_, fun e => ?_⟩
  · rw [e, h.cells] at h3; simp at h3
  · obtain ⟨D, ⟨es, cl, hb, _⟩, _⟩ := h.map
    rw [e, hb] at h3; cases h3
/-- The rows of a node's bytes are neither the struct nor the map. -/
theorem FsIn.bytes_far {w w' : World} (h : FsIn w f mb N S st clock room) {v : Value} {d : Bs} (hb : BytesAt w v d S) (hg : ∀ k, S k → k ≠ f → k ≠ mb → w'.heap[k]? = w.heap[k]?) {S' : Nat → Prop} (hS : ∀ k, S k → S' k) (hsz : w.heap.size ≤ w'.heap.size) : BytesAt w' v d S' := by
  obtain ⟨a, c, g1, g2, g3, g4, g5⟩ := hb
  refine ⟨a, c, g1, g2, g3, g4, fun h0 => ?_⟩
  obtain ⟨b, off, e1, e2, e3, e4⟩ := g5 h0
  obtain ⟨x, hx⟩ : ∃ x, d[0]? = some x := ⟨_, List.getElem?_eq_getElem h0⟩
  have h1 := e4 0 x hx
  have hbf : b ≠ f := by
    intro e
    rw [e] at h1
    obtain ⟨c0, c1, c2, c3, _⟩ := cells4 h.cells
    match off, h1 with
    | 0, h1 => rw [c0] at h1; simp at h1
    | 1, h1 => rw [c1] at h1; simp at h1
    | 2, h1 => rw [c2] at h1; simp at h1
    | 3, h1 => rw [c3] at h1; simp at h1
    | off + 4, h1 => simp [World.cell?, h.cells] at h1
  have hbm : b ≠ mb := by
    intro e
    obtain ⟨D, ⟨es, cl, hb, _⟩, _⟩ := h.map
    rw [e] at h1; simp [World.cell?, hb] at h1
  exact ⟨b, off, e1, hS _ e2, Nat.lt_of_lt_of_le e3 hsz, fun k x hk => (World.cell?_of_block (a := ⟨b, off + k, none⟩) (hg b e2 hbf hbm)).trans (e4 k x hk)⟩

theorem FsIn.put {w W2 w6 w7 : World} {nb lo : Nat} {nd : PN} {q : Bs} (h : FsIn w f mb N S st clock room) (hq : q.length ≤ 1000) (hW : Below w.heap.size w W2) (hlo : lo ≤ w.heap.size) (hnb : w.heap.size ≤ nb) (hnode : NodeAt W2 nb nd (Plus S lo W2.heap.size)) (hnbl : nb < W2.heap.size)
    (hm : MapAt w6 mb (fun p => if p = q then nb else N p) (putSt st q nd)) (hg6 : W2.grownBy w6 (some mb)) (hg7 : w6.grownBy w7 (some f)) (hc : w7.heap[f]? = some (.cells #[.map (some mb), .int .i64 clock', .int .i64 room, .int .i64 (wt (putSt st q nd))] 52 (0, 0))) :
    FsIn w7 f mb (fun p => if p = q then nb else N p) (Plus S lo W2.heap.size) (putSt st q nd) clock' room ∧ Kept S w w7 := by
  have hsm := h.lt mb h.sm
  have hsf := h.lt f h.sf
  have hne := h.ne_map
  have far : ∀ k, k < W2.heap.size → k ≠ f → k ≠ mb → w7.heap[k]? = W2.heap[k]? := fun k hk h1 h2 =>
    (hg7.block k (Nat.lt_of_lt_of_le hk hg6.size) (fun e => h1 (by injection e))).trans (hg6.block k hk (fun e => h2 (by injection e)))
  have old : ∀ k, k < w.heap.size → k ≠ f → k ≠ mb → w7.heap[k]? = w.heap[k]? := fun k hk h1 h2 => (far k (Nat.lt_of_lt_of_le hk hW.size) h1 h2).trans (hW.block k hk)
  have hsz : W2.heap.size ≤ w7.heap.size := Nat.le_trans hg6.size hg7.size
  refine ⟨⟨hc, Or.inl h.sf, Or.inl h.sm, hm.of_heap (hg7.block mb (by have := hg6.size; have := hW.size; omega) (fun e => hne (by injection e with e; exact e.symm))), rising_put q nd h.rising, fun p nd' hf => ?_, fun p p' hp hp' he => ?_, fun b hb => ?_⟩, ⟨?_, ?_, ?_, Nat.le_trans hW.size hsz, fun k hk hn => old k hk (fun e => hn (e ▸ h.sf)) (fun e => hn (e ▸ h.sm))⟩⟩
  · rw [find_put] at hf
    by_cases e : p = q
    · rw [if_pos e] at hf
      injection hf with hf
      subst hf
      subst e
      simp only [if_true]
      obtain ⟨v, h3, h4⟩ := hnode
      refine ⟨hq, Or.inr ⟨Nat.le_trans hlo hnb, hnbl⟩, v, (far nb hnbl (by omega) (by omega)).trans h3, ?_⟩
      obtain ⟨a, c, g1, g2, g3, g4, g5⟩ := h4
      refine ⟨a, c, g1, g2, g3, g4, fun h0 => ?_⟩
      obtain ⟨b, off, e1, e2, e3, e4⟩ := g5 h0
      obtain ⟨x, hx⟩ : ∃ x, nd.data[0]? = some x := ⟨_, List.getElem?_eq_getElem h0⟩
      have h1 := e4 0 x hx
      have hbf : b ≠ f := by
        intro e
        rw [e] at h1
        obtain ⟨c0, c1, c2, c3, _⟩ := cells4 ((hW.block f hsf).trans h.cells)
        match off, h1 with
        | 0, h1 => rw [c0] at h1; simp at h1
        | 1, h1 => rw [c1] at h1; simp at h1
        | 2, h1 => rw [c2] at h1; simp at h1
        | 3, h1 => rw [c3] at h1; simp at h1
        | off + 4, h1 => simp [World.cell?, (hW.block f hsf).trans h.cells] at h1
      have hbm : b ≠ mb := by
        intro e
        obtain ⟨D, ⟨es, cl, hb, _⟩, _⟩ := h.map
        rw [e] at h1; simp [World.cell?, (hW.block mb hsm).trans hb] at h1
      exact ⟨b, off, e1, e2, Nat.lt_of_lt_of_le e3 hsz, fun k x hk => (World.cell?_of_block (a := ⟨b, off + k, none⟩) (far b e3 hbf hbm)).trans (e4 k x hk)⟩
    · rw [if_neg e] at hf
      simp only [if_neg e]
      obtain ⟨h1, h2, v, h3, h4⟩ := h.node p nd' hf
      obtain ⟨n1, n2⟩ := h.node_ne hf
      exact ⟨h1, Or.inl h2, v, (old _ (h.lt _ h2) n1 n2).trans h3, h.bytes_far h4 (fun k hk h1 h2 => old k (h.lt k hk) h1 h2) (fun k hk => Or.inl hk) (Nat.le_trans hW.size hsz)⟩
  · rw [find_put] at hp hp'
    have nlt : ∀ x, (find st x).isSome = true → N x < w.heap.size := fun x hx => by
      obtain ⟨y, hy⟩ := Option.isSome_iff_exists.1 hx
      exact h.lt _ (h.node x y hy).2.1
    by_cases e : p = q
    · by_cases e' : p' = q
      · rw [e, e']
      · rw [if_pos e, if_neg e'] at he
        rw [if_neg e'] at hp'
        have := nlt p' hp'; omega
    · rw [if_neg e] at hp
      by_cases e' : p' = q
      · rw [if_neg e, if_pos e'] at he
        have := nlt p hp; omega
      · rw [if_neg e'] at hp'
        rw [if_neg e, if_neg e'] at he
        exact h.inj p p' hp hp' he
  · rcases hb with hb | hb
    · have := h.lt b hb; have := hW.size; omega
    · omega
  · exact hg7.os.trans (hg6.os.trans hW.os)
  · exact hg7.tape.trans (hg6.tape.trans hW.tape)
  · exact hg7.output.trans (hg6.output.trans hW.output)
end
end Go.Proofs.YtnnepcodghfcmaaGreatDoor
