/-
  New of a good tree. Conditions: paths of at most 2^31 bytes, data of at most 2^40 bytes.
-/
import Derived.Test.YtnnepcodghfcmaaGreatDoorVRight
import Derived.Test.YtnnepcodghfcmaaGreatDoorVWrite
namespace Go.Proofs.YtnnepcodghfcmaaGreatDoor
open Go.RowKit
attribute [local go_sem ↓] Go.wp_at_zero Go.wp_at_succ

/-- A file system that is being made: its weight is not yet what it will be. -/
structure NIn (w : World) (f mb : Nat) (N : Bs → Nat) (S : Nat → Prop) (st : St) (clock room : Int) (W : Int) : Prop where make ::
  cells : w.heap[f]? = some (.cells #[.map (some mb), .int .i64 clock, .int .i64 room, .int .i64 W] 52 (0, 0))
  sf : S f
  sm : S mb
  map : MapAt w mb N st
  rising : Rising st
  node : ∀ p nd, find st p = some nd → p.length ≤ 1000 ∧ S (N p) ∧ NodeAt w (N p) nd S
  inj : ∀ p q, (find st p).isSome → (find st q).isSome → N p = N q → p = q
  lt : ∀ b, S b → b < w.heap.size
section
variable {f mb : Nat} {N : Bs → Nat} {S : Nat → Prop} {st : St} {clock room W : Int}
theorem NIn.of_heap {w w' : World} (h : NIn w f mb N S st clock room W) (he : ∀ k, S k → w'.heap[k]? = w.heap[k]?) : NIn w' f mb N S st clock room W :=
  ⟨(he f h.sf).trans h.cells, h.sf, h.sm, h.map.of_heap (he mb h.sm), h.rising, fun p nd hf => ⟨(h.node p nd hf).1, (h.node p nd hf).2.1, (h.node p nd hf).2.2.of_heap (h.node p nd hf).2.1 he fun _ h => h⟩, h.inj, fun b hb => lt_of_heap (h.lt b hb) (he b hb)⟩
theorem NIn.below {w w' : World} (h : NIn w f mb N S st clock room W) (hb : Below w.heap.size w w') : NIn w' f mb N S st clock room W := h.of_heap fun k hk => hb.block k (h.lt k hk)
theorem NIn.fs {w : World} (h : NIn w f mb N S st clock room W) (hW : W = wt st) : FsIn w f mb N S st clock room := ⟨hW ▸ h.cells, h.sf, h.sm, h.map, h.rising, h.node, h.inj, h.lt⟩
theorem NIn.ne_map {w : World} (h : NIn w f mb N S st clock room W) : f ≠ mb := by
  intro e; obtain ⟨D, ⟨es, cl, hb, _⟩, _⟩ := h.map
  rw [← e, h.cells] at hb; cases hb
theorem NIn.node_ne {w : World} (h : NIn w f mb N S st clock room W) {p : Bs} {nd : PN} (hf : find st p = some nd) : N p ≠ f ∧ N p ≠ mb := by
  obtain ⟨_, _, v, h3, _⟩ := h.node p nd hf
  refine ⟨fun e => ?_, fun e => ?_⟩
  · rw [e, h.cells] at h3; simp at h3
  · obtain ⟨D, ⟨es, cl, hb, _⟩, _⟩ := h.map
    rw [e, hb] at h3; cases h3
theorem NIn.bytes_far {w w' : World} (h : NIn w f mb N S st clock room W) {v : Value} {d : Bs} (hb : BytesAt w v d S) (hg : ∀ k, S k → k ≠ f → k ≠ mb → w'.heap[k]? = w.heap[k]?) {S' : Nat → Prop} (hS : ∀ k, S k → S' k) (hsz : w.heap.size ≤ w'.heap.size) : BytesAt w' v d S' := by
  obtain ⟨a, c, g1, g2, g3, g4, g5⟩ := hb
  refine ⟨a, c, g1, g2, g3, g4, fun h0 => ?_⟩
  obtain ⟨b, off, e1, e2, e3, e4⟩ := g5 h0
  obtain ⟨x, hx⟩ : ∃ x, d[0]? = some x := ⟨_, List.getElem?_eq_getElem h0⟩
  have h1 := e4 0 x hx
  have hbf : b ≠ f := by
    intro e
    rw [e] at h1
    obtain ⟨c0, c1, c2, c3, _⟩ := cells4 h.cells
    match off, h1 with
    | 0, h1 => rw [c0] at h1; simp at h1
    | 1, h1 => rw [c1] at h1; simp at h1
    | 2, h1 => rw [c2] at h1; simp at h1
    | 3, h1 => rw [c3] at h1; simp at h1
    | off + 4, h1 => simp [World.cell?, h.cells] at h1
  have hbm : b ≠ mb := by
    intro e
    obtain ⟨D, ⟨es, cl, hb, _⟩, _⟩ := h.map
    rw [e] at h1; simp [World.cell?, hb] at h1
  exact ⟨b, off, e1, hS _ e2, Nat.lt_of_lt_of_le e3 hsz, fun k x hk => (World.cell?_of_block (a := ⟨b, off + k, none⟩) (hg b e2 hbf hbm)).trans (e4 k x hk)⟩
theorem NIn.put {w W2 w6 w7 : World} {nb lo : Nat} {nd : PN} {q : Bs} {V : Int} (h : NIn w f mb N S st clock room W) (hq : q.length ≤ 1000) (hW : Below w.heap.size w W2) (hlo : lo ≤ w.heap.size) (hnb : w.heap.size ≤ nb) (hnode : NodeAt W2 nb nd (Plus S lo W2.heap.size)) (hnbl : nb < W2.heap.size)
    (hm : MapAt w6 mb (fun p => if p = q then nb else N p) (putSt st q nd)) (hg6 : W2.grownBy w6 (some mb)) (hg7 : w6.grownBy w7 (some f)) (hc : w7.heap[f]? = some (.cells #[.map (some mb), .int .i64 clock, .int .i64 room, .int .i64 V] 52 (0, 0))) :
    NIn w7 f mb (fun p => if p = q then nb else N p) (Plus S lo W2.heap.size) (putSt st q nd) clock room V ∧ Kept S w w7 := by
  have hsm := h.lt mb h.sm
  have hsf := h.lt f h.sf
  have hne := h.ne_map
  have far : ∀ k, k < W2.heap.size → k ≠ f → k ≠ mb → w7.heap[k]? = W2.heap[k]? := fun k hk h1 h2 =>
    (hg7.block k (Nat.lt_of_lt_of_le hk hg6.size) (fun e => h1 (by injection e))).trans (hg6.block k hk (fun e => h2 (by injection e)))
  have old : ∀ k, k < w.heap.size → k ≠ f → k ≠ mb → w7.heap[k]? = w.heap[k]? := fun k hk h1 h2 => (far k (Nat.lt_of_lt_of_le hk hW.size) h1 h2).trans (hW.block k hk)
  have hsz : W2.heap.size ≤ w7.heap.size := Nat.le_trans hg6.size hg7.size
  refine ⟨⟨hc, Or.inl h.sf, Or.inl h.sm, hm.of_heap (hg7.block mb (by have := hg6.size; have := hW.size; omega) (fun e => hne (by injection e with e; exact e.symm))), rising_put q nd h.rising, fun p nd' hf => ?_, fun p p' hp hp' he => ?_, fun b hb => ?_⟩, ⟨?_, ?_, ?_, Nat.le_trans hW.size hsz, fun k hk hn => old k hk (fun e => hn (e ▸ h.sf)) (fun e => hn (e ▸ h.sm))⟩⟩
  · rw [find_put] at hf
    by_cases e : p = q
    · rw [if_pos e] at hf
      injection hf with hf
      subst hf
      subst e
      simp only [if_true]
      obtain ⟨v, h3, h4⟩ := hnode
      refine ⟨hq, Or.inr ⟨Nat.le_trans hlo hnb, hnbl⟩, v, (far nb hnbl (by omega) (by omega)).trans h3, ?_⟩
      obtain ⟨a, c, g1, g2, g3, g4, g5⟩ := h4
      refine ⟨a, c, g1, g2, g3, g4, fun h0 => ?_⟩
      obtain ⟨b, off, e1, e2, e3, e4⟩ := g5 h0
      obtain ⟨x, hx⟩ : ∃ x, nd.data[0]? = some x := ⟨_, List.getElem?_eq_getElem h0⟩
      have h1 := e4 0 x hx
      have hbf : b ≠ f := by
        intro e
        rw [e] at h1
        obtain ⟨c0, c1, c2, c3, _⟩ := cells4 ((hW.block f hsf).trans h.cells)
        match off, h1 with
        | 0, h1 => rw [c0] at h1; simp at h1
        | 1, h1 => rw [c1] at h1; simp at h1
        | 2, h1 => rw [c2] at h1; simp at h1
        | 3, h1 => rw [c3] at h1; simp at h1
        | off + 4, h1 => simp [World.cell?, (hW.block f hsf).trans h.cells] at h1
      have hbm : b ≠ mb := by
        intro e
        obtain ⟨D, ⟨es, cl, hb, _⟩, _⟩ := h.map
        rw [e] at h1; simp [World.cell?, (hW.block mb hsm).trans hb] at h1
      exact ⟨b, off, e1, e2, Nat.lt_of_lt_of_le e3 hsz, fun k x hk => (World.cell?_of_block (a := ⟨b, off + k, none⟩) (far b e3 hbf hbm)).trans (e4 k x hk)⟩
    · rw [if_neg e] at hf
      simp only [if_neg e]
      obtain ⟨h1, h2, v, h3, h4⟩ := h.node p nd' hf
      obtain ⟨n1, n2⟩ := h.node_ne hf
      exact ⟨h1, Or.inl h2, v, (old _ (h.lt _ h2) n1 n2).trans h3, h.bytes_far h4 (fun k hk h1 h2 => old k (h.lt k hk) h1 h2) (fun k hk => Or.inl hk) (Nat.le_trans hW.size hsz)⟩
  · rw [find_put] at hp hp'
    have nlt : ∀ x, (find st x).isSome = true → N x < w.heap.size := fun x hx => by
      obtain ⟨y, hy⟩ := Option.isSome_iff_exists.1 hx
      exact h.lt _ (h.node x y hy).2.1
    by_cases e : p = q
    · by_cases e' : p' = q
      · rw [e, e']
      · rw [if_pos e, if_neg e'] at he
        rw [if_neg e'] at hp'
        have := nlt p' hp'; omega
    · rw [if_neg e] at hp
      by_cases e' : p' = q
      · rw [if_neg e, if_pos e'] at he
        have := nlt p hp; omega
      · rw [if_neg e'] at hp'
        rw [if_neg e, if_neg e'] at he
        exact h.inj p p' hp hp' he
  · rcases hb with hb | hb
    · have := h.lt b hb; have := hW.size; omega
    · omega
  · exact hg7.os.trans (hg6.os.trans hW.os)
  · exact hg7.tape.trans (hg6.tape.trans hW.tape)
  · exact hg7.output.trans (hg6.output.trans hW.output)
/-- Behind the append: the new node, the map. -/
structure NMid (w w4 : World) (f mb : Nat) (N : Bs → Nat) (S : Nat → Prop) (st : St) (clock room W : Int) (row : Value) (q : Bs) (nd : PN) (w6 : World) : Prop where
  below : Below w.heap.size w w4
  node : NodeAt (w4.alloc (.cells #[.bool nd.dir, .int .i64 nd.time, row] 57)) w4.heap.size nd (Plus S w.heap.size (w4.heap.size + 1))
  map : MapAt w6 mb (fun p => if p = q then w4.heap.size else N p) (putSt st q nd)
  grown : (w4.alloc (.cells #[.bool nd.dir, .int .i64 nd.time, row] 57)).grownBy w6 (some mb)
set_option maxRecDepth 100000 in
theorem nin_mid {w w4 : World} {q : Bs} {nd : PN} {row : Value} (h : NIn w f mb N S st clock room W) (hb : Below w.heap.size w w4) (ho : w4.ownsRow w.heap.size 5 1 row ([] ++ nd.data).length (ucells ([] ++ nd.data))) (hq : q.length ≤ 1000) (hl : st.length < 100000) :
    ∃ w6, (Instr.mapUpdate 50 (.map (some mb)) (.string (mk q)) (.pointer (some ⟨w4.heap.size, 0, none⟩))).run Tryz.prog (w4.alloc (.cells #[.bool nd.dir, .int .i64 nd.time, row] 57)) = .ok () w6 ∧ NMid w w4 f mb N S st clock room W row q nd w6 := by
  have hs : (mk q).size ≤ maxLen := by rw [mk_size]; unfold maxLen; omega
  have hn : st.length < maxLen := by unfold maxLen; omega
  have hm4 := (h.map.of_heap (w' := w4) (hb.block _ h.map.lt)).of_heap (w' := w4.alloc (.cells #[.bool nd.dir, .int .i64 nd.time, row] 57)) (heap_alloc_old _ _ (Nat.lt_of_lt_of_le h.map.lt hb.size))
  obtain ⟨w6, hrun, hm, hg, hsz⟩ := hm4.put (nb := w4.heap.size) h.rising (mk q) hs hn nd
  rw [mk_list] at hm
  refine ⟨w6, hrun, hb, ⟨row, heap_alloc_new _ _, ?_⟩, hm, hg⟩
  exact (bytes_own ho).of_heap (fun k hk => heap_alloc_old _ _ hk.2) (fun k hk => Or.inr ⟨hk.1, by omega⟩)
theorem NMid.cells {w w4 w6 : World} {q : Bs} {nd : PN} {row : Value} (h : NIn w f mb N S st clock room W) (hM : NMid w w4 f mb N S st clock room W row q nd w6) : w6.heap[f]? = some (.cells #[.map (some mb), .int .i64 clock, .int .i64 room, .int .i64 W] 52 (0, 0)) := by
  have hf := h.lt f h.sf
  have := hM.below.size
  exact (hM.grown.block f (by simp; omega) (fun e => h.ne_map (by injection e))).trans ((heap_alloc_old _ _ (by omega)).trans ((hM.below.block f hf).trans h.cells))
theorem NMid.other {w w4 w6 : World} {q : Bs} {nd : PN} {row : Value} (hM : NMid w w4 f mb N S st clock room W row q nd w6) {b : Nat} {o : Obj} (hb : w.heap[b]? = some o) (hne : b ≠ mb) : w6.heap[b]? = some o := by
  have := hM.below.size
  have := heap_lt hb
  exact (hM.grown.block b (by simp; omega) (fun e => hne (by injection e))).trans ((heap_alloc_old _ _ (by omega)).trans ((hM.below.block b (heap_lt hb)).trans hb))
theorem NMid.done {w w4 w6 w7 : World} {q : Bs} {nd : PN} {row : Value} {V : Int} (h : NIn w f mb N S st clock room W) (hM : NMid w w4 f mb N S st clock room W row q nd w6) (hq : q.length ≤ 1000) (hg7 : w6.grownBy w7 (some f))
    (hc : w7.heap[f]? = some (.cells #[.map (some mb), .int .i64 clock, .int .i64 room, .int .i64 V] 52 (0, 0))) :
    NIn w7 f mb (fun p => if p = q then w4.heap.size else N p) (Plus S w.heap.size (w4.heap.size + 1)) (putSt st q nd) clock room V ∧ Kept S w w7 := by
  have := h.put (lo := w.heap.size) (nb := w4.heap.size) (nd := nd) (q := q) hq (below_al hM.below) (Nat.le_refl _) hM.below.size (by simpa using hM.node) (by simp) hM.map hM.grown hg7 hc
  simpa using this
end
theorem put_last : ∀ {st : St} {x : Bs × PN}, (∀ y ∈ st, y.1 < x.1) → putSt st x.1 x.2 = st ++ [x]
  | [], x, _ => rfl
  | (k, m) :: r, x, h => by
    have h1 : k < x.1 := h (k, m) (by simp)
    rw [putSt, if_neg (fun e => by rw [e] at h1; exact List.lt_irrefl _ h1), if_neg (fun e => List.lt_irrefl _ (List.lt_trans h1 e)), put_last (fun y hy => h y (List.mem_cons_of_mem _ hy))]
    rfl

section
variable {l : St} {clock room : Int} {nv : Value} {T : Nat → Prop} {w : World}
/-- What the loop of New keeps. -/
def NewInv (w : World) (f mb : Nat) (l : St) (clock room : Int) (k : Nat) (wr : World) : Prop :=
  Below w.heap.size w wr ∧ ∃ N S, NIn wr f mb N S (l.take k) clock room ((l.length + bytesOf (l.take k) : Nat) : Int) ∧ ∀ b, S b → w.heap.size ≤ b
theorem NewInv.next {f mb k : Nat} {x : Bs × PN} {wr w4 w6 w7 : World} {row : Value} {N : Bs → Nat} {S : Nat → Prop} (hB : Below w.heap.size w wr) (h : NIn wr f mb N S (l.take k) clock room ((l.length + bytesOf (l.take k) : Nat) : Int)) (hS : ∀ b, S b → w.heap.size ≤ b)
    (hx : l[k]? = some x) (hr : ∀ y ∈ l.take k, y.1 < x.1) (hq : x.1.length ≤ 1000) (hM : NMid wr w4 f mb N S (l.take k) clock room ((l.length + bytesOf (l.take k) : Nat) : Int) row x.1 x.2 w6) (hg7 : w6.grownBy w7 (some f))
    (hc : w7.heap[f]? = some (.cells #[.map (some mb), .int .i64 clock, .int .i64 room, .int .i64 (((l.length + bytesOf (l.take k) : Nat) : Int) + x.2.data.length)] 52 (0, 0))) : NewInv w f mb l clock room (k + 1) w7 := by
  have hbt := bytes_take hx
  have hc' : w7.heap[f]? = some (.cells #[.map (some mb), .int .i64 clock, .int .i64 room, .int .i64 ((l.length + bytesOf (l.take (k + 1)) : Nat) : Int)] 52 (0, 0)) := by
    rw [hbt]
    have e : ((l.length + (bytesOf (l.take k) + x.2.data.length) : Nat) : Int) = ((l.length + bytesOf (l.take k) : Nat) : Int) + x.2.data.length := by omega
    rw [e]; exact hc
  obtain ⟨h1, h2⟩ := hM.done h hq hg7 hc'
  rw [put_last hr, ← take_more hx] at h1
  have hsz := h2.size
  refine ⟨hB.trans ⟨h2.os, h2.tape, h2.output, hsz, fun j hj => h2.block j (Nat.lt_of_lt_of_le hj hB.size) (fun hs => by have := hS j hs; omega)⟩, _, _, h1, fun b hb => ?_⟩
  rcases hb with hb | hb
  · exact hS b hb
  · have := hB.size; omega
theorem MapAt.empty {w : World} {mb : Nat} (N : Bs → Nat) (h : w.heap[mb]? = some (.map #[] 0)) : MapAt w mb N [] := by
  refine ⟨.map [], ⟨#[], 0, h, ⟨by simp, Go.MapKept.stamped_empty 0, by simp⟩, Nat.le_refl _, rfl⟩, rfl, fun p hp => ⟨?_, rfl⟩⟩
  exact Go.WideAt.atKey_none _ (by simp)
theorem NewInv.start {w1 : World} (hB : Below w.heap.size w w1) : NewInv w (w1.heap.size + 1) w1.heap.size l clock room 0 ((w1.alloc (.map #[] 0)).alloc (.cells #[.map (some w1.heap.size), .int .i64 clock, .int .i64 room, .int .i64 (l.length : Nat)] 52 (0, 0))) := by
  refine ⟨below_al (below_al hB), fun _ => 0, fun k => k = w1.heap.size ∨ k = w1.heap.size + 1, ?_, fun b hb => by have := hB.size; omega⟩
  refine ⟨?_, Or.inr rfl, Or.inl rfl, MapAt.empty _ ?_, List.Pairwise.nil, fun p nd hf => by simp [find] at hf, fun p q hp => by simp [find] at hp, fun b hb => by simp; omega⟩
  · have := heap_alloc_new (w1.alloc (.map #[] 0)) (.cells #[.map (some w1.heap.size), .int .i64 clock, .int .i64 room, .int .i64 (l.length : Nat)] 52 (0, 0))
    simpa [bytesOf] using this
  · rw [heap_alloc_old _ _ (by simp)]
    exact heap_alloc_new _ _
theorem new_cells {f mb xb : Nat} {w' : World} {clock room W t : Int} {Q : ByteArray} {d : Bool} {v : Value} (hf : w'.heap[f]? = some (.cells #[.map (some mb), .int .i64 clock, .int .i64 room, .int .i64 W] 52 (0, 0))) (hx : w'.heap[xb]? = some (.cells #[.string Q, .bool d, .int .i64 t, v] 54 (0, 0))) :
    w'.cell? ⟨f, 0, none⟩ = some (.map (some mb)) ∧ w'.cell? ⟨xb, 0, none⟩ = some (.string Q) ∧ w'.cell? ⟨xb, 1, none⟩ = some (.bool d) ∧ w'.cell? ⟨xb, 2, none⟩ = some (.int .i64 t) ∧ w'.cell? ⟨xb, 3, none⟩ = some v := by
  obtain ⟨a0, _⟩ := cells4 hf
  obtain ⟨b0, b1, b2, b3, _⟩ := cells4 hx
  exact ⟨a0, b0, b1, b2, b3⟩
theorem right_ok_all (hok : okFrom clock [] l = true) : ∀ (k : Nat) (x : Bs × PN), l[k]? = some x → okNode clock (l.take k) x = true := by
  have key : ∀ k, k ≤ l.length → okFrom clock (l.take k) (l.drop k) = true := by
    intro k
    induction k with
    | zero => intro _; exact hok
    | succ k ih =>
      intro hk
      obtain ⟨x, hx⟩ : ∃ x, l[k]? = some x := ⟨_, List.getElem?_eq_getElem (by omega)⟩
      have := ih (by omega)
      rw [okFrom_drop hx, Bool.and_eq_true] at this
      exact this.2
  intro k x hx
  have := key k (by have := (List.getElem?_eq_some_iff.1 hx).1; omega)
  rw [okFrom_drop hx, Bool.and_eq_true] at this
  exact this.1
theorem right_rising (hok : okFrom clock [] l = true) : ∀ (k : Nat) (x : Bs × PN), l[k]? = some x → ∀ y ∈ l.take k, y.1 < x.1 := by
  intro k
  induction k with
  | zero => intro x _ y hy; simp at hy
  | succ k ih =>
    intro x hx y hy
    obtain ⟨z, hz⟩ : ∃ z, l[k]? = some z := ⟨_, List.getElem?_eq_getElem (by have := (List.getElem?_eq_some_iff.1 hx).1; omega)⟩
    have h1 := (okNode_parts (right_ok_all hok (k + 1) x hx)).2.2.1 z (by rw [last_take hz])
    rw [take_more hz] at hy
    rcases List.mem_append.1 hy with hy | hy
    · exact List.lt_trans (ih z hz y hy) h1
    · rw [List.mem_singleton] at hy; subst hy; exact h1
theorem rightP_zero (h : rightP l clock room = 0) : l.length ≤ 1000 ∧ l.any longN = false ∧ badArg clock room = false ∧ okFrom clock [] l = true ∧ (wt l : Int) ≤ room := by
  unfold rightP at h
  split at h
  · cases h
  · split at h
    · cases h
    · split at h
      · cases h
      · split at h
        · cases h
        · split at h
          · cases h
          · rename_i h1 h2 h3 h4 h5
            exact ⟨by omega, by simpa using h2, by simpa using h3, by simpa using h4, by omega⟩
theorem right_zero (ht : TreeAt w nv l T) (hT : ∀ k, T k → k < w.heap.size) (hp : ∀ x ∈ l, x.1.length ≤ 2147483647) (hd : ∀ x ∈ l, x.2.data.length ≤ 1099511627776) (h0 : rightP l clock room = 0) :
    Calls Tryz.prog 12 #[.agg #[nv, .int .i64 clock, .int .i64 room]] w fun e w' => e = .returned (.int .i64 0) ∧ Below w.heap.size w w' := by
  have := right_ok (rightP_zero h0).2.2.2.1 ht hT hp hd (room := room)
  rwa [h0] at this
set_option maxRecDepth 100000 in
set_option maxHeartbeats 8000000 in
theorem new_ok (ht : TreeAt w nv l T) (hT : ∀ k, T k → k < w.heap.size) (hp : ∀ x ∈ l, x.1.length ≤ 2147483647) (hd : ∀ x ∈ l, x.2.data.length ≤ 1099511627776) (h0 : rightP l clock room = 0) :
    Calls Tryz.prog 5 #[.agg #[nv, .int .i64 clock, .int .i64 room]] w fun e w' => ∃ f mb N S, e = .returned (.tuple #[.pointer (some ⟨f, 0, none⟩), .int .i64 0]) ∧ FsIn w' f mb N S l clock room ∧ (∀ b, S b → w.heap.size ≤ b) ∧ Below w.heap.size w w' := by
  obtain ⟨ta, tc, hnv⟩ := ht.form
  subst hnv
  have hbox : Below w.heap.size w (w.alloc (.cells #[.slice ta l.length tc, .int .i64 clock, .int .i64 room] 29 (0, 0))) := below_al (Below.refl _ _)
  have hR := Lib.hid (right_zero (ht.of_heap (w' := w.alloc (.cells #[.slice ta l.length tc, .int .i64 clock, .int .i64 room] 29 (0, 0))) (fun k hk => hbox.block k (hT k hk)) (fun _ h => h)) (fun k hk => by have := hT k hk; have := hbox.size; omega) hp hd h0)
  have kt := Lib.hid ht
  have kT := Lib.hid hT
  have kp := Lib.hid hp
  have kd := Lib.hid hd
  obtain ⟨hl, -, -, hok, -⟩ := rightP_zero h0
  have kok := Lib.hid hok
  clear ht hT hp hd h0 hbox hok
  go_enter Tryz.func5, Tryz.ntmps5
  have hmm := @run_makeMap Tryz.prog
  go_wp2_with (go_at_call 12; refine hR.out.mono ?_; rintro e w1 ⟨rfl, hb⟩; have kB := Lib.hid (show BoxT w w1 (.slice ta l.length tc) clock room from BoxT.below ⟨heap_alloc_new _ _, below_al (Below.refl _ _)⟩ hb); clear hb; obtain ⟨hb0, hb1, hb2⟩ := kB.out.cell; have hbl := heap_lt kB.out.1)
  have kI := Lib.hid (NewInv.start (l := l) (clock := clock) (room := room) kB.out.2)
  have hmf : w1.heap.size ≠ w1.heap.size + 1 := by omega
  generalize hf : w1.heap.size + 1 = f at *
  generalize w1.heap.size = mb at *
  clear hb0 hb1 hb2 hbl
  go_loopw [26] (fun kv wr => ∃ k : Nat, k ≤ l.length ∧ kv = .int .i64 k ∧ NewInv w f mb l clock room k wr) (fun kv _ => l.length - (intOf kv).toNat)
  case atStart => exact ⟨0, Nat.zero_le _, rfl, kI.out⟩
  case round =>
    obtain ⟨k, hk, rfl, hInv⟩ := hrel
    have kV := Lib.hid hInv
    clear hInv
    by_cases hlt : k < l.length
    · obtain ⟨x, hx⟩ : ∃ x, l[k]? = some x := ⟨_, List.getElem?_eq_getElem hlt⟩
      have kx := Lib.hid hx
      obtain ⟨hBw, N, S, hN, hS⟩ := kV.out
      have kBw := Lib.hid hBw
      have kN := Lib.hid hN
      have kS := Lib.hid hS
      clear hBw hN hS
      obtain ⟨b, off, dv, hta, hTb, hbl, hc0, hc1, hc2, hc3, hdv⟩ := (kt.out.of_heap (T' := T) (fun j hj => kBw.out.block j (kT.out j hj)) (fun _ h => h)).at hx
      obtain ⟨da, dc, hdf⟩ := hdv.form
      subst hta hdf
      have kdv := Lib.hid hdv
      clear hTb hdv hx
      have hdl := kd.out x (List.mem_of_getElem? kx.out)
      have hok1 := okNode_parts (right_ok_all kok.out k x kx.out)
      have kq := Lib.hid (valid_len hok1.1)
      clear hok1
      have hst : (l.take k).length < 100000 := by simp only [List.length_take]; omega
      have hbs := bytes_small (l := l.take k) (by simp only [List.length_take]; omega) (fun y hy => kd.out y (List.mem_of_mem_take hy))
      go_wp2
      have kX := Lib.hid (heap_alloc_new wr (.cells #[.string (mk x.1), .bool x.2.dir, .int .i64 x.2.time, .slice da x.2.data.length dc] 54 (0, 0)))
      have kN1 := Lib.hid (kN.out.below (below_al (o := .cells #[.string (mk x.1), .bool x.2.dir, .int .i64 x.2.time, .slice da x.2.data.length dc] 54 (0, 0)) (Below.refl _ _)))
      have kB1 := Lib.hid (below_al (o := .cells #[.string (mk x.1), .bool x.2.dir, .int .i64 x.2.time, .slice da x.2.data.length dc] 54 (0, 0)) kBw.out)
      have kd1 := Lib.hid (kdv.out.of_heap (w' := wr.alloc (.cells #[.string (mk x.1), .bool x.2.dir, .int .i64 x.2.time, .slice da x.2.data.length dc] 54 (0, 0))) (fun j hj => heap_alloc_old _ _ (Nat.lt_of_lt_of_le (kT.out j hj) kBw.out.size)) (fun _ h => h))
      have hxm : wr.heap.size ≠ mb := by have := kN.out.lt mb kN.out.sm; omega
      have hxf : wr.heap.size ≠ f := by have := kN.out.lt f kN.out.sf; omega
      clear hc0 hc1 hc2 hc3 hbl kN kBw kdv kV kB
      generalize wr.alloc (.cells #[.string (mk x.1), .bool x.2.dir, .int .i64 x.2.time, .slice da x.2.data.length dc] 54 (0, 0)) = W1 at *
      generalize wr.heap.size = xb at *
      obtain ⟨c0, c1, c2, c3, cf⟩ := cells4 kN1.out.cells
      obtain ⟨x0, x1, x2, x3, -⟩ := cells4 kX.out
      have hfl := heap_lt kN1.out.cells
      have hxl := heap_lt kX.out
      clear c1 c2 c3 cf
      go_region_held3 (fun w' => w'.cell? ⟨f, 0, none⟩ = some (.map (some mb)) ∧ w'.cell? ⟨xb, 0, none⟩ = some (.string (mk x.1)) ∧ w'.cell? ⟨xb, 1, none⟩ = some (.bool x.2.dir) ∧ w'.cell? ⟨xb, 2, none⟩ = some (.int .i64 x.2.time) ∧ w'.cell? ⟨xb, 3, none⟩ = some (.slice da x.2.data.length dc))
        (first | exact k6.out | exact k4.out | go_keep)
        ((refine step_append_bytes (by rfl) _ _ (by rfl) W1.drew.heap.size (.slice none 0 0) [] (by rfl) (World.ownsRow_nil _ _ _ _) (.slice da x.2.data.length dc) x.2.data T (by rfl) (kd1.out.of_heap (fun _ _ => rfl) (fun _ h => h)) (by simp; omega) (Nat.le_refl _) ?_
          intro a1 m1 c1 w4 hm1 ho hg
          have kb4 := Lib.hid (show Below W1.drew.heap.size W1.drew w4 from ⟨hg.os, hg.tape, hg.output, hg.size, fun j hj => hg.block j hj (by simp [Value.ownBlock])⟩)
          have k4 := Lib.hid (new_cells (w' := w4) ((kb4.out.block f hfl).trans kN1.out.cells) ((kb4.out.block xb hxl).trans kX.out))
          obtain ⟨w6, hrun6, hmid⟩ := nin_mid (q := x.1) (nd := x.2) (kN1.out.of_heap (w' := W1.drew) (fun _ _ => rfl)) kb4.out ho kq.out hst
          have kM := Lib.hid hmid
          have k6 := Lib.hid (new_cells (w' := w6) (NMid.cells (kN1.out.of_heap (w' := W1.drew) (fun _ _ => rfl)) kM.out) (NMid.other kM.out (b := xb) kX.out hxm))
          clear hmid ho hg))
      obtain ⟨d0, e0, e1, e2, e3⟩ := k6.out
      have hcs := NMid.cells (kN1.out.of_heap (w' := W1.drew) (fun _ _ => rfl)) kM.out
      obtain ⟨-, -, -, d3, df⟩ := cells4 hcs
      have df3 := df 3
      have khcs := Lib.hid hcs
      clear hcs df c0 x0 x1 x2 x3 e0 e1 e2 d0
      go_wp2_with fail
      have hs2 : IntKind.i64.wrap ((l.length + bytesOf (l.take k) : Nat) + (x.2.data.length : Int)) = (l.length + bytesOf (l.take k) : Nat) + (x.2.data.length : Int) := IntWalk.i64_in _ (by omega)
      go_region
      go_wp2
      have hg7 : w6.grownBy (w6.setCell ⟨f, 3, none⟩ (.int .i64 ((l.length : Int) + bytesOf (l.take k) + x.2.data.length))).drew (some f) := ⟨rfl, rfl, rfl, by simp, (set_grown w6 f 3 _).block⟩
      have hn := NewInv.next (l := l) (wr := W1.drew) (w4 := w4) (w6 := w6) (w7 := (w6.setCell ⟨f, 3, none⟩ (.int .i64 ((l.length : Int) + bytesOf (l.take k) + x.2.data.length))).drew) (kB1.out.trans ⟨rfl, rfl, rfl, Nat.le_refl _, fun _ _ => rfl⟩) (kN1.out.of_heap (w' := W1.drew) (fun _ _ => rfl)) kS.out kx.out (right_rising kok.out k x kx.out) kq.out kM.out hg7 (set_heap khcs.out 3 (.int .i64 ((l.length : Int) + bytesOf (l.take k) + x.2.data.length)))
      exact ⟨⟨k + 1, by omega, by go_num, hn⟩, by simp [intOf]; omega⟩
    · have hkl : k = l.length := by omega
      subst hkl
      obtain ⟨hBw, N, S, hN, hS⟩ := kV.out
      rw [List.take_length] at hN
      have kN := Lib.hid (hN.fs (by unfold wt; rfl))
      have kS := Lib.hid hS
      have kBw := Lib.hid hBw
      clear hBw hN hS kV
      go_wp2
      go_ret2
      exact ⟨f, mb, N, S, rfl, kN.out, kS.out, kBw.out⟩
end
end Go.Proofs.YtnnepcodghfcmaaGreatDoor
