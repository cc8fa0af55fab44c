/-
  A node is laid at a path: what the file system is then. Conditions: none.
  Mkdir, Touch of what is not there. Conditions: texts of at most 2^31 bytes; a weight of at most 2^40; a clock of at most 2^62.
-/
import Derived.Test.YtejofgdglpmlkaaGreatDoorM06
namespace Go.Proofs.YtejofgdglpmlkaaGreatDoor
open Go.RowKit

/-- The file system's own blocks, and those that are new. -/
def Plus (S : Nat → Prop) (a b : Nat) : Nat → Prop := fun k => S k ∨ (a ≤ k ∧ k < b)
section
variable {f mb : Nat} {N : Bs → Nat} {S : Nat → Prop} {st : St} {clock clock' room : Int}
theorem FsIn.ne_map {w : World} (h : FsIn w f mb N S st clock room) : f ≠ mb := by
  intro e; obtain ⟨D, ⟨es, cl, hb, _⟩, _⟩ := h.map
  rw [← e, h.cells] at hb; cases hb
theorem FsIn.node_ne {w : World} (h : FsIn w f mb N S st clock room) {p : Bs} {nd : PN} (hf : find st p = some nd) : N p ≠ f ∧ N p ≠ mb := by
  obtain ⟨_, _, v, h3, _⟩ := h.node p nd hf
  refine ⟨fun e => ?_, fun e => ?_⟩
  · rw [e, h.cells] at h3; simp at h3
  · obtain ⟨D, ⟨es, cl, hb, _⟩, _⟩ := h.map
    rw [e, hb] at h3; cases h3
/-- The rows of a node's bytes are neither the struct nor the map. -/
theorem FsIn.bytes_far {w w' : World} (h : FsIn w f mb N S st clock room) {v : Value} {d : Bs} (hb : BytesAt w v d S) (hg : ∀ k, S k → k ≠ f → k ≠ mb → w'.heap[k]? = w.heap[k]?) {S' : Nat → Prop} (hS : ∀ k, S k → S' k) (hsz : w.heap.size ≤ w'.heap.size) : BytesAt w' v d S' := by
  obtain ⟨a, c, g1, g2, g3, g4, g5⟩ := hb
  refine ⟨a, c, g1, g2, g3, g4, fun h0 => ?_⟩
  obtain ⟨b, off, e1, e2, e3, e4⟩ := g5 h0
  obtain ⟨x, hx⟩ : ∃ x, d[0]? = some x := ⟨_, List.getElem?_eq_getElem h0⟩
  have h1 := e4 0 x hx
  have hbf : b ≠ f := by
    intro e
    rw [e] at h1
    obtain ⟨c0, c1, c2, c3, _⟩ := cells4 h.cells
    match off, h1 with
    | 0, h1 => rw [c0] at h1; simp at h1
    | 1, h1 => rw [c1] at h1; simp at h1
    | 2, h1 => rw [c2] at h1; simp at h1
    | 3, h1 => rw [c3] at h1; simp at h1
    | off + 4, h1 => simp [World.cell?, h.cells] at h1
  have hbm : b ≠ mb := by
    intro e
    obtain ⟨D, ⟨es, cl, hb, _⟩, _⟩ := h.map
    rw [e] at h1; simp [World.cell?, hb] at h1
  exact ⟨b, off, e1, hS _ e2, Nat.lt_of_lt_of_le e3 hsz, fun k x hk => (World.cell?_of_block (a := ⟨b, off + k, none⟩) (hg b e2 hbf hbm)).trans (e4 k x hk)⟩

theorem FsIn.put {w W2 w6 w7 : World} {nb lo : Nat} {nd : PN} {q : Bs} (h : FsIn w f mb N S st clock room) (hq : q.length ≤ 1000) (hW : Below w.heap.size w W2) (hlo : lo ≤ w.heap.size) (hnb : w.heap.size ≤ nb) (hnode : NodeAt W2 nb nd (Plus S lo W2.heap.size)) (hnbl : nb < W2.heap.size)
    (hm : MapAt w6 mb (fun p => if p = q then nb else N p) (putSt st q nd)) (hg6 : W2.grownBy w6 (some mb)) (hg7 : w6.grownBy w7 (some f)) (hc : w7.heap[f]? = some (.cells #[.map (some mb), .int .i64 clock', .int .i64 room, .int .i64 (wt (putSt st q nd))] 58 (0, 0))) :
    FsIn w7 f mb (fun p => if p = q then nb else N p) (Plus S lo W2.heap.size) (putSt st q nd) clock' room ∧ Kept S w w7 := by
  have hsm := h.lt mb h.sm
  have hsf := h.lt f h.sf
  have hne := h.ne_map
  have far : ∀ k, k < W2.heap.size → k ≠ f → k ≠ mb → w7.heap[k]? = W2.heap[k]? := fun k hk h1 h2 =>
    (hg7.block k (Nat.lt_of_lt_of_le hk hg6.size) (fun e => h1 (by injection e))).trans (hg6.block k hk (fun e => h2 (by injection e)))
  have old : ∀ k, k < w.heap.size → k ≠ f → k ≠ mb → w7.heap[k]? = w.heap[k]? := fun k hk h1 h2 => (far k (Nat.lt_of_lt_of_le hk hW.size) h1 h2).trans (hW.block k hk)
  have hsz : W2.heap.size ≤ w7.heap.size := Nat.le_trans hg6.size hg7.size
  refine ⟨⟨hc, Or.inl h.sf, Or.inl h.sm, hm.of_heap (hg7.block mb (by have := hg6.size; have := hW.size; omega) (fun e => hne (by injection e with e; exact e.symm))), rising_put q nd h.rising, fun p nd' hf => ?_, fun p p' hp hp' he => ?_, fun b hb => ?_⟩, ⟨?_, ?_, ?_, Nat.le_trans hW.size hsz, fun k hk hn => old k hk (fun e => hn (e ▸ h.sf)) (fun e => hn (e ▸ h.sm))⟩⟩
  · rw [find_put] at hf
    by_cases e : p = q
    · rw [if_pos e] at hf
      injection hf with hf
      subst hf
      subst e
      simp only [if_true]
      obtain ⟨v, h3, h4⟩ := hnode
      refine ⟨hq, Or.inr ⟨Nat.le_trans hlo hnb, hnbl⟩, v, (far nb hnbl (by omega) (by omega)).trans h3, ?_⟩
      obtain ⟨a, c, g1, g2, g3, g4, g5⟩ := h4
      refine ⟨a, c, g1, g2, g3, g4, fun h0 => ?_⟩
      obtain ⟨b, off, e1, e2, e3, e4⟩ := g5 h0
      obtain ⟨x, hx⟩ : ∃ x, nd.data[0]? = some x := ⟨_, List.getElem?_eq_getElem h0⟩
      have h1 := e4 0 x hx
      have hbf : b ≠ f := by
        intro e
        rw [e] at h1
        obtain ⟨c0, c1, c2, c3, _⟩ := cells4 ((hW.block f hsf).trans h.cells)
        match off, h1 with
        | 0, h1 => rw [c0] at h1; simp at h1
        | 1, h1 => rw [c1] at h1; simp at h1
        | 2, h1 => rw [c2] at h1; simp at h1
        | 3, h1 => rw [c3] at h1; simp at h1
        | off + 4, h1 => simp [World.cell?, (hW.block f hsf).trans h.cells] at h1
      have hbm : b ≠ mb := by
        intro e
        obtain ⟨D, ⟨es, cl, hb, _⟩, _⟩ := h.map
        rw [e] at h1; simp [World.cell?, (hW.block mb hsm).trans hb] at h1
      exact ⟨b, off, e1, e2, Nat.lt_of_lt_of_le e3 hsz, fun k x hk => (World.cell?_of_block (a := ⟨b, off + k, none⟩) (far b e3 hbf hbm)).trans (e4 k x hk)⟩
    · rw [if_neg e] at hf
      simp only [if_neg e]
      obtain ⟨h1, h2, v, h3, h4⟩ := h.node p nd' hf
      obtain ⟨n1, n2⟩ := h.node_ne hf
      exact ⟨h1, Or.inl h2, v, (old _ (h.lt _ h2) n1 n2).trans h3, h.bytes_far h4 (fun k hk h1 h2 => old k (h.lt k hk) h1 h2) (fun k hk => Or.inl hk) (Nat.le_trans hW.size hsz)⟩
  · rw [find_put] at hp hp'
    have nlt : ∀ x, (find st x).isSome = true → N x < w.heap.size := fun x hx => by
      obtain ⟨y, hy⟩ := Option.isSome_iff_exists.1 hx
      exact h.lt _ (h.node x y hy).2.1
    by_cases e : p = q
    · by_cases e' : p' = q
      · rw [e, e']
      · rw [if_pos e, if_neg e'] at he
        rw [if_neg e'] at hp'
        have := nlt p' hp'; omega
    · rw [if_neg e] at hp
      by_cases e' : p' = q
      · rw [if_neg e, if_pos e'] at he
        have := nlt p hp; omega
      · rw [if_neg e'] at hp'
        rw [if_neg e, if_neg e'] at he
        exact h.inj p p' hp hp' he
  · rcases hb with hb | hb
    · have := h.lt b hb; have := hW.size; omega
    · omega
  · exact hg7.os.trans (hg6.os.trans hW.os)
  · exact hg7.tape.trans (hg6.tape.trans hW.tape)
  · exact hg7.output.trans (hg6.output.trans hW.output)
end
end Go.Proofs.YtejofgdglpmlkaaGreatDoor
namespace Go.Proofs.YtejofgdglpmlkaaGreatDoor
open Go.RowKit

section
variable {f mb : Nat} {N : Bs → Nat} {S : Nat → Prop} {st : St} {clock room : Int}
theorem valid_len {q : Bs} (h : validB q = true) : q.length ≤ 1000 := (validB_iff.1 h).1
theorem lookQ_valid {q : Bs} (h : lookQ st q = .none ∨ ∃ n, lookQ st q = .node n) : validB q = true ∧ q ≠ [] ∧ chk st (ups q) = none := by
  cases hv : validB q with
  | false => rw [lookQ_bad hv] at h; rcases h with h | ⟨n, h⟩ <;> cases h
  | true =>
    by_cases hq : q = []
    · subst hq; rw [lookQ_root] at h; rcases h with h | ⟨n, h⟩ <;> cases h
    · refine ⟨rfl, hq, ?_⟩
      rw [lookQ_rest hv hq] at h
      cases hc : chk st (ups q) with
      | none => rfl
      | some e => rw [lookT_err hc] at h; rcases h with h | ⟨n, h⟩ <;> cases h
theorem lookQ_find {q : Bs} : (lookQ st q = .none → find st q = none) ∧ ∀ n, lookQ st q = .node n → find st q = some n := by
  constructor
  · intro h
    obtain ⟨hv, hq, hc⟩ := lookQ_valid (Or.inl h)
    rw [lookQ_rest hv hq] at h
    cases hf : find st q with
    | none => rfl
    | some n => rw [lookT_some hc hf] at h; cases h
  · intro n h
    obtain ⟨hv, hq, hc⟩ := lookQ_valid (Or.inr ⟨n, h⟩)
    rw [lookQ_rest hv hq] at h
    cases hf : find st q with
    | none => rw [lookT_none hc hf] at h; cases h
    | some m => rw [lookT_some hc hf] at h; injection h with h; rw [h]
theorem wt_new {q : Bs} {n : PN} (hr : Rising st) (hf : find st q = none) : wt (putSt st q n) = wt st + (1 + n.data.length) := by
  have := wt_put q n hr
  rw [hf] at this; simp only [own1] at this; omega

theorem put_cells {w w6 : World} {o : Obj} (h : FsIn w f mb N S st clock room) (hg : (w.alloc o).grownBy w6 (some mb)) : w6.heap[f]? = some (.cells #[.map (some mb), .int .i64 clock, .int .i64 room, .int .i64 (wt st)] 58 (0, 0)) := by
  have hl := h.lt f h.sf
  rw [hg.block f (by simp; omega) (fun e => h.ne_map (by injection e)), heap_alloc_old _ _ hl]
  exact h.cells
theorem fits_yes (nodes bytes : Int) (w : World) (h : FsIn w f mb N S st clock room) (hn : 0 ≤ nodes ∧ nodes ≤ 1) (hb : -1099511627776 ≤ bytes ∧ bytes ≤ 1099511627776) (hl : wt st ≤ 1099511627776) (hy : fitsB st room nodes bytes = true) :
    Calls Tryz.prog 36 #[.pointer (some ⟨f, 0, none⟩), .int .i64 nodes, .int .i64 bytes] w fun e w' => e = .returned (.bool true) ∧ ∃ n, w' = w.drewN n := by
  have := fits_calls nodes bytes w h hn hb hl
  rwa [hy] at this
theorem fits_no (nodes bytes : Int) (w : World) (h : FsIn w f mb N S st clock room) (hn : 0 ≤ nodes ∧ nodes ≤ 1) (hb : -1099511627776 ≤ bytes ∧ bytes ≤ 1099511627776) (hl : wt st ≤ 1099511627776) (hy : fitsB st room nodes bytes = false) :
    Calls Tryz.prog 36 #[.pointer (some ⟨f, 0, none⟩), .int .i64 nodes, .int .i64 bytes] w fun e w' => e = .returned (.bool false) ∧ ∃ n, w' = w.drewN n := by
  have := fits_calls nodes bytes w h hn hb hl
  rwa [hy] at this

set_option maxRecDepth 100000 in
set_option maxHeartbeats 4000000 in
theorem mkdir_new {p : ByteArray} {q : Bs} (w : World) (h : FsIn w f mb N S st clock room) (hp : p.size ≤ 2147483647) (hq : clean p.data.toList = q) (hr : lookQ st q = .none) (hl : wt st ≤ 1099511627776) (h0 : 0 ≤ clock) (h1 : clock ≤ 4611686018427387904) (hfit : fitsB st room 1 0 = true) :
    Calls Tryz.prog 18 #[.pointer (some ⟨f, 0, none⟩), .string p] w fun e w' => e = .returned (.int .i64 0) ∧ ∃ N' S', FsIn w' f mb N' S' (putSt st q ⟨true, clock + 1, []⟩) (clock + 1) room ∧ (∀ k, S' k → S k ∨ w.heap.size ≤ k) ∧ Kept S w w' := by
  have hL := Lib.hid (look_none w h hp hq hr)
  obtain ⟨hv, hq0, -⟩ := lookQ_valid (Or.inl hr)
  have hfind := Lib.hid (lookQ_find.1 hr)
  have hql := valid_len hv
  have hqs : (mk q).size ≤ maxLen := by rw [mk_size]; unfold maxLen; omega
  have hqe := mk_isEmpty hq0
  have kqs := Lib.hid hqs
  generalize hQ : mk q = Q at *
  have kQ := Lib.hid hQ
  have hQq : Q.data.toList = q := by rw [← hQ, mk_list]
  have kQq := Lib.hid hQq
  have kh := Lib.hid h
  have hll : st.length < maxLen := by have : st.length ≤ wt st := by unfold wt; omega
                                      unfold maxLen; omega
  have kll := Lib.hid hll
  clear hQ h hq hr hv hq0 hqs hQq hll
  go_enter Tryz.func18, Tryz.ntmps18
  go_wp2_with (go_at_call 34; refine hL.out.mono ?_; rintro e w1 ⟨rfl, hb⟩; have kb := Lib.hid hb; clear hb)
  have hF := Lib.hid (fits_yes 1 0 w1 (kh.out.below kb.out) (by omega) (by omega) hl hfit)
  clear hfit
  go_wp2_with (go_at_call 36; refine hF.out.mono ?_; rintro e w2 ⟨rfl, n2, rfl⟩)
  have kh2 := Lib.hid ((kh.out.below kb.out).of_heap (w' := w1.drewN n2) (fun _ _ => rfl))
  have kb2 := Lib.hid (below_drewN' kb.out n2)
  clear hF kb
  generalize w1.drewN n2 = w2 at *
  obtain ⟨hc0, hc1, hc2, hc3, hcf⟩ := cells4 kh2.out.cells
  have hfl := kh2.out.lt f kh2.out.sf
  clear hc1 hc2 hc3 hcf
  go_region_held3 (fun w' => w'.cell? ⟨f, 0, none⟩ = some (.map (some mb)))
    (first | exact hc6 | exact hc3 | go_keep)
    ((go_at_call 38
      refine (change_calls w2.drew (kh2.out.of_heap (fun _ _ => rfl)) h0 h1).mono ?_
      rintro e w3 ⟨rfl, hg3, hs3, hI3⟩
      obtain ⟨w6, hrun6, hm6, hg6, hs6⟩ := (hI3.map.of_heap (w' := w3.alloc (.cells #[.bool true, .int .i64 (clock + 1), .slice none 0 0] 61)) (heap_alloc_old _ _ hI3.map.lt)).put (nb := w3.heap.size) hI3.rising Q kqs.out kll.out ⟨true, clock + 1, []⟩
      have kI3 := Lib.hid hI3
      have kg3 := Lib.hid hg3
      have ks3 := Lib.hid hs3
      have km6 := Lib.hid hm6
      have kg6 := Lib.hid hg6
      have ks6 := Lib.hid hs6
      have hc3 := (cells4 kI3.out.cells).1
      clear hI3 hg3 hs3 hm6 hg6 hs6
      obtain ⟨hc6, hc16, hc26, hc36, hcf6⟩ := cells4 (put_cells kI3.out kg6.out)
      have hf36 := hcf6 3
      clear hc16 hc26 hcf6))
  go_wp2
  go_ret
  have e1 : wt (putSt st q ⟨true, clock + 1, []⟩) = wt st + 1 := by rw [wt_new kh2.out.rising hfind.out]; rfl
  have hput := kI3.out.put (q := q) (nd := ⟨true, clock + 1, []⟩) (nb := w3.heap.size) (clock' := clock + 1) hql (below_al (Below.refl _ _)) (Nat.le_refl _) (Nat.le_refl _) ⟨_, heap_alloc_new _ _, BytesAt.nil _ _⟩ (by simp) (by have := km6.out; rwa [kQq.out] at this) kg6.out (set_grown w6 f 3 (.int .i64 ((wt st : Int) + 1))) (by
    have := set_heap (put_cells kI3.out kg6.out) 3 (.int .i64 ((wt st : Int) + 1))
    rw [e1]; exact this)
  refine ⟨rfl, _, _, hput.1, fun k hk => hk.imp id (fun h => ?_), Below.kept (below_drewN' kb2.out 1) ((Kept.grown kg3.out (fun k e => by injection e with e; exact e ▸ kh2.out.sf)).trans hput.2 (fun k hk => Or.inl hk))⟩
  have := kb2.out.size
  have := kg3.out.size
  simp at this; omega
end
end Go.Proofs.YtejofgdglpmlkaaGreatDoor
