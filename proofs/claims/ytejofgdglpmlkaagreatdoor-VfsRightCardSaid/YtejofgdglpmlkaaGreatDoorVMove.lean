/-
  A file system in memory whose node gets a new time, or a new path. Conditions: none.
-/
import Derived.Test.YtejofgdglpmlkaaGreatDoorVTouch
namespace Go.Proofs.YtejofgdglpmlkaaGreatDoor
open Go.RowKit

section
variable {f mb : Nat} {N : Bs → Nat} {S : Nat → Prop} {st : St} {clock clock' room : Int}
/-- A node's block is none of the rows of bytes. -/
theorem bytes_ne_node {w w' : World} {nb : Nat} {x : Bool} {t : Int} {v : Value} (hb : w.heap[nb]? = some (.cells #[.bool x, .int .i64 t, v] 61 (0, 0))) (hv : ∃ a n c, v = .slice a n c) {u : Value} {d : Bs} (h : BytesAt w u d S) (hsame : ∀ k, S k → k ≠ nb → w'.heap[k]? = w.heap[k]?) (hsz : w.heap.size ≤ w'.heap.size) : BytesAt w' u d S := by
  obtain ⟨a, c, g1, g2, g3, g4, g5⟩ := h
  refine ⟨a, c, g1, g2, g3, g4, fun h0 => ?_⟩
  obtain ⟨b, off, e1, e2, e3, e4⟩ := g5 h0
  obtain ⟨y, hy⟩ : ∃ y, d[0]? = some y := ⟨_, List.getElem?_eq_getElem h0⟩
  have h1 := e4 0 y hy
  have hbn : b ≠ nb := by
    intro e
    rw [e] at h1
    obtain ⟨c0, c1, c2, _⟩ := cells3 hb
    obtain ⟨a', n', c', rfl⟩ := hv
    match off, h1 with
    | 0, h1 => rw [c0] at h1; simp at h1
    | 1, h1 => rw [c1] at h1; simp at h1
    | 2, h1 => rw [c2] at h1; simp at h1
    | off + 3, h1 => simp [World.cell?, hb] at h1
  exact ⟨b, off, e1, e2, Nat.lt_of_lt_of_le e3 hsz, fun k x hk => (World.cell?_of_block (a := ⟨b, off + k, none⟩) (hsame b e2 hbn)).trans (e4 k x hk)⟩
theorem touch_wt {q : Bs} {n : PN} {t : Int} (hr : Rising st) (hf : find st q = some n) : wt (putSt st q ⟨n.dir, t, n.data⟩) = wt st := by
  have := wt_put q ⟨n.dir, t, n.data⟩ hr
  rw [hf] at this
  simp [own1] at this
  omega
theorem touch_len {q : Bs} {n : PN} {t : Int} (hr : Rising st) (hf : find st q = some n) : (putSt st q ⟨n.dir, t, n.data⟩).length = st.length := by
  have := len_put q ⟨n.dir, t, n.data⟩ hr
  rw [hf] at this
  simpa using this
/-- A node gets a new time. -/
theorem FsIn.touch {w : World} {q : Bs} {n : PN} {t : Int} (h : FsIn w f mb N S st clock room) (hf : find st q = some n) : FsIn (w.setCell ⟨N q, 1, none⟩ (.int .i64 t)) f mb N S (putSt st q ⟨n.dir, t, n.data⟩) clock room := by
  obtain ⟨n1, n2⟩ := h.node_ne hf
  obtain ⟨hql, hSq, v, hnb, hnv⟩ := h.node q n hf
  have hvf : ∃ a k c, v = .slice a k c := by obtain ⟨a, c, e⟩ := hnv.form; exact ⟨a, _, c, e⟩
  have hg := set_grown w (N q) 1 (.int .i64 t)
  have far : ∀ k, k < w.heap.size → k ≠ N q → (w.setCell ⟨N q, 1, none⟩ (.int .i64 t)).heap[k]? = w.heap[k]? := fun k hk hne => hg.block k hk (fun e => hne (by injection e))
  have hby : ∀ {u : Value} {d : Bs}, BytesAt w u d S → BytesAt (w.setCell ⟨N q, 1, none⟩ (.int .i64 t)) u d S := fun hu => bytes_ne_node hnb hvf hu (fun k hk hne => far k (h.lt k hk) hne) hg.size
  have hsome : ∀ p, (find (putSt st q ⟨n.dir, t, n.data⟩) p).isSome = (find st p).isSome := fun p => by
    rw [find_put]
    by_cases e : p = q
    · rw [if_pos e, e, hf]; rfl
    · rw [if_neg e]
  refine ⟨?_, h.sf, h.sm, ?_, rising_put _ _ h.rising, fun p nd hp => ?_, fun p p' hp hp' e => h.inj p p' (by rw [← hsome]; exact hp) (by rw [← hsome]; exact hp') e, fun b hb => Nat.lt_of_lt_of_le (h.lt b hb) hg.size⟩
  · rw [touch_wt h.rising hf]
    exact (far f (h.lt f h.sf) (fun e => n1 e.symm)).trans h.cells
  · obtain ⟨D, ho, hs, hall⟩ := h.map.of_heap (w' := w.setCell ⟨N q, 1, none⟩ (.int .i64 t)) (far mb (h.lt mb h.sm) (fun e => n2 e.symm))
    refine ⟨D, ho, hs.trans (touch_len h.rising hf).symm, fun p hp => ?_⟩
    obtain ⟨e1, e2⟩ := hall p hp
    refine ⟨e1.trans ?_, e2.trans (hsome p).symm⟩
    have := hsome p
    unfold datAt
    cases h1 : find st p with
    | none =>
      rw [h1] at this
      cases h2 : find (putSt st q ⟨n.dir, t, n.data⟩) p with
      | none => rfl
      | some m => rw [h2] at this; cases this
    | some m =>
      rw [h1] at this
      cases h2 : find (putSt st q ⟨n.dir, t, n.data⟩) p with
      | none => rw [h2] at this; cases this
      | some m => rfl
  · rw [find_put] at hp
    by_cases e : p = q
    · rw [if_pos e] at hp
      injection hp with hp
      subst hp e
      refine ⟨hql, hSq, v, ?_, hby hnv⟩
      have := set_heap hnb 1 (.int .i64 t)
      simpa using this
    · rw [if_neg e] at hp
      obtain ⟨g1, g2, v', g3, g4⟩ := h.node p nd hp
      refine ⟨g1, g2, v', (far _ (h.lt _ g2) (fun e' => e (h.inj p q (by rw [hp]; rfl) (by rw [hf]; rfl) e'))).trans g3, hby g4⟩
/-- A node gets another path. -/
theorem FsIn.move {w w8 : World} {p q : Bs} {n : PN} (h : FsIn w f mb N S st clock room) (hf : find st p = some n) (hne : p ≠ q) (hql : q.length ≤ 1000) (hm : MapAt w8 mb (fun x => if x = q then N p else N x) (delSt (putSt st q n) p)) (far : ∀ k, k < w.heap.size → k ≠ f → k ≠ mb → w8.heap[k]? = w.heap[k]?) (hsz : w.heap.size ≤ w8.heap.size)
    (hc : w8.heap[f]? = some (.cells #[.map (some mb), .int .i64 clock', .int .i64 room, .int .i64 (wt (delSt (putSt st q n) p))] 58 (0, 0))) : FsIn w8 f mb (fun x => if x = q then N p else N x) S (delSt (putSt st q n) p) clock' room := by
  have hfind : ∀ r, find (delSt (putSt st q n) p) r = if r = p then Option.none else if r = q then some n else find st r := fun r => by rw [find_del, find_put]
  have hN : ∀ r nd, find (delSt (putSt st q n) p) r = some nd → ∃ r0, find st r0 = some nd ∧ (if r = q then N p else N r) = N r0 ∧ (r = q → r0 = p) ∧ (r ≠ q → r0 = r ∧ r ≠ p) := fun r nd hr => by
    rw [hfind] at hr
    split at hr
    · cases hr
    · rename_i e1
      split at hr
      · rename_i e2
        injection hr with hr
        subst hr
        exact ⟨p, hf, by rw [if_pos e2], fun _ => rfl, fun e => absurd e2 e⟩
      · rename_i e2
        exact ⟨r, hr, by rw [if_neg e2], fun e => absurd e e2, fun _ => ⟨rfl, e1⟩⟩
  refine ⟨hc, h.sf, h.sm, hm, rising_del p (rising_put q n h.rising), fun r nd hr => ?_, fun r r' hr hr' e => ?_, fun b hb => Nat.lt_of_lt_of_le (h.lt b hb) hsz⟩
  · obtain ⟨r0, g0, g1, g2, g3⟩ := hN r nd hr
    obtain ⟨k1, k2, v, k3, k4⟩ := h.node r0 nd g0
    obtain ⟨m1, m2⟩ := h.node_ne g0
    show r.length ≤ 1000 ∧ S (if r = q then N p else N r) ∧ NodeAt w8 (if r = q then N p else N r) nd S
    rw [g1]
    refine ⟨?_, k2, v, (far _ (h.lt _ k2) m1 m2).trans k3, h.bytes_far k4 (fun k hk => far k (h.lt k hk)) (fun _ h => h) hsz⟩
    by_cases e : r = q
    · rw [e]; exact hql
    · rw [(g3 e).1] at k1; exact k1
  · obtain ⟨nd, hnd⟩ := Option.isSome_iff_exists.1 hr
    obtain ⟨nd', hnd'⟩ := Option.isSome_iff_exists.1 hr'
    obtain ⟨r0, g0, g1, g2, g3⟩ := hN r nd hnd
    obtain ⟨r1, g0', g1', g2', g3'⟩ := hN r' nd' hnd'
    have e' : N r0 = N r1 := by rw [← g1, ← g1']; exact e
    have e2 : r0 = r1 := h.inj r0 r1 (by rw [g0]; rfl) (by rw [g0']; rfl) e'
    by_cases h1 : r = q
    · by_cases h2 : r' = q
      · rw [h1, h2]
      · have := (g3' h2).2
        rw [← (g3' h2).1, ← e2, g2 h1] at this
        exact absurd rfl this
    · by_cases h2 : r' = q
      · have := (g3 h1).2
        rw [← (g3 h1).1, e2, g2' h2] at this
        exact absurd rfl this
      · rw [← (g3 h1).1, ← (g3' h2).1, e2]
end
end Go.Proofs.YtejofgdglpmlkaaGreatDoor
