/-
  Mkdir, Touch of what is not there. Conditions: texts of at most 2^31 bytes; a weight of at most 2^40; a clock of at most 2^62.
-/
import Derived.Test.YtnnepcodghfcmaaGreatDoorVPut
namespace Go.Proofs.YtnnepcodghfcmaaGreatDoor
open Go.RowKit

section
variable {f mb : Nat} {N : Bs → Nat} {S : Nat → Prop} {st : St} {clock room : Int}
theorem valid_len {q : Bs} (h : validB q = true) : q.length ≤ 1000 := (validB_iff.1 h).1
theorem lookQ_valid {q : Bs} (h : lookQ st q = .none ∨ ∃ n, lookQ st q = .node n) : validB q = true ∧ q ≠ [] ∧ chk st (ups q) = none := by
  cases hv : validB q with
  | false => rw [lookQ_bad hv] at h; rcases h with h | ⟨n, h⟩ <;> cases h
  | true =>
    by_cases hq : q = []
    · subst hq; rw [lookQ_root] at h; rcases h with h | ⟨n, h⟩ <;> cases h
    · refine ⟨rfl, hq, ?_⟩
      rw [lookQ_rest hv hq] at h
      cases hc : chk st (ups q) with
      | none => rfl
      | some e => rw [lookT_err hc] at h; rcases h with h | ⟨n, h⟩ <;> cases h
theorem lookQ_find {q : Bs} : (lookQ st q = .none → find st q = none) ∧ ∀ n, lookQ st q = .node n → find st q = some n := by
  constructor
  · intro h
    obtain ⟨hv, hq, hc⟩ := lookQ_valid (Or.inl h)
    rw [lookQ_rest hv hq] at h
    cases hf : find st q with
    | none => rfl
    | some n => rw [lookT_some hc hf] at h; cases h
  · intro n h
    obtain ⟨hv, hq, hc⟩ := lookQ_valid (Or.inr ⟨n, h⟩)
    rw [lookQ_rest hv hq] at h
    cases hf : find st q with
    | none => rw [lookT_none hc hf] at h; cases h
    | some m => rw [lookT_some hc hf] at h; injection h with h; rw [h]
theorem wt_new {q : Bs} {n : PN} (hr : Rising st) (hf : find st q = none) : wt (putSt st q n) = wt st + (1 + n.data.length) := by
  have := wt_put q n hr
  rw [hf] at this; simp only [own1] at this; omega

theorem put_cells {w w6 : World} {o : Obj} (h : FsIn w f mb N S st clock room) (hg : (w.alloc o).grownBy w6 (some mb)) : w6.heap[f]? = some (.cells #[.map (some mb), .int .i64 clock, .int .i64 room, .int .i64 (wt st)] 52 (0, 0)) := by
  have hl := h.lt f h.sf
  rw [hg.block f (by simp; omega) (fun e => h.ne_map (by injection e)), heap_alloc_old _ _ hl]
  exact h.cells
theorem fits_yes (nodes bytes : Int) (w : World) (h : FsIn w f mb N S st clock room) (hn : 0 ≤ nodes ∧ nodes ≤ 1) (hb : -1099511627776 ≤ bytes ∧ bytes ≤ 1099511627776) (hl : wt st ≤ 1099511627776) (hy : fitsB st room nodes bytes = true) :
    Calls Tryz.prog 15 #[.pointer (some ⟨f, 0, none⟩), .int .i64 nodes, .int .i64 bytes] w fun e w' => e = .returned (.bool true) ∧ ∃ n, w' = w.drewN n := by
  have := fits_calls nodes bytes w h hn hb hl
  rwa [hy] at this
theorem fits_no (nodes bytes : Int) (w : World) (h : FsIn w f mb N S st clock room) (hn : 0 ≤ nodes ∧ nodes ≤ 1) (hb : -1099511627776 ≤ bytes ∧ bytes ≤ 1099511627776) (hl : wt st ≤ 1099511627776) (hy : fitsB st room nodes bytes = false) :
    Calls Tryz.prog 15 #[.pointer (some ⟨f, 0, none⟩), .int .i64 nodes, .int .i64 bytes] w fun e w' => e = .returned (.bool false) ∧ ∃ n, w' = w.drewN n := by
  have := fits_calls nodes bytes w h hn hb hl
  rwa [hy] at this

set_option maxRecDepth 100000 in
set_option maxHeartbeats 4000000 in
theorem mkdir_new {p : ByteArray} {q : Bs} (w : World) (h : FsIn w f mb N S st clock room) (hp : p.size ≤ 2147483647) (hq : clean p.data.toList = q) (hr : lookQ st q = .none) (hl : wt st ≤ 1099511627776) (h0 : 0 ≤ clock) (h1 : clock ≤ 4611686018427387904) (hfit : fitsB st room 1 0 = true) :
    Calls Tryz.prog 6 #[.pointer (some ⟨f, 0, none⟩), .string p] w fun e w' => e = .returned (.int .i64 0) ∧ ∃ N' S', FsIn w' f mb N' S' (putSt st q ⟨true, clock + 1, []⟩) (clock + 1) room ∧ (∀ k, S' k → S k ∨ w.heap.size ≤ k) ∧ Kept S w w' := by
  have hL := Lib.hid (look_none w h hp hq hr)
  obtain ⟨hv, hq0, -⟩ := lookQ_valid (Or.inl hr)
  have hfind := Lib.hid (lookQ_find.1 hr)
  have hql := valid_len hv
  have hqs : (mk q).size ≤ maxLen := by rw [mk_size]; unfold maxLen; omega
  have hqe := mk_isEmpty hq0
  have kqs := Lib.hid hqs
  generalize hQ : mk q = Q at *
  have kQ := Lib.hid hQ
  have hQq : Q.data.toList = q := by rw [← hQ, mk_list]
  have kQq := Lib.hid hQq
  have kh := Lib.hid h
  have hll : st.length < maxLen := by have : st.length ≤ wt st := by unfold wt; omega
                                      unfold maxLen; omega
  have kll := Lib.hid hll
  clear hQ h hq hr hv hq0 hqs hQq hll
  go_enter Tryz.func6, Tryz.ntmps6
  go_wp2_with (go_at_call 13; refine hL.out.mono ?_; rintro e w1 ⟨rfl, hb⟩; have kb := Lib.hid hb; clear hb)
  have hF := Lib.hid (fits_yes 1 0 w1 (kh.out.below kb.out) (by omega) (by omega) hl hfit)
  clear hfit
  go_wp2_with (go_at_call 15; refine hF.out.mono ?_; rintro e w2 ⟨rfl, n2, rfl⟩)
  have kh2 := Lib.hid ((kh.out.below kb.out).of_heap (w' := w1.drewN n2) (fun _ _ => rfl))
  have kb2 := Lib.hid (below_drewN' kb.out n2)
  clear hF kb
  generalize w1.drewN n2 = w2 at *
  obtain ⟨hc0, hc1, hc2, hc3, hcf⟩ := cells4 kh2.out.cells
  have hfl := kh2.out.lt f kh2.out.sf
  clear hc1 hc2 hc3 hcf
  go_region_held3 (fun w' => w'.cell? ⟨f, 0, none⟩ = some (.map (some mb)))
    (first | exact hc6 | exact hc3 | go_keep)
    ((go_at_call 16
      refine (change_calls w2.drew (kh2.out.of_heap (fun _ _ => rfl)) h0 h1).mono ?_
      rintro e w3 ⟨rfl, hg3, hs3, hI3⟩
      obtain ⟨w6, hrun6, hm6, hg6, hs6⟩ := (hI3.map.of_heap (w' := w3.alloc (.cells #[.bool true, .int .i64 (clock + 1), .slice none 0 0] 57)) (heap_alloc_old _ _ hI3.map.lt)).put (nb := w3.heap.size) hI3.rising Q kqs.out kll.out ⟨true, clock + 1, []⟩
      have kI3 := Lib.hid hI3
      have kg3 := Lib.hid hg3
      have ks3 := Lib.hid hs3
      have km6 := Lib.hid hm6
      have kg6 := Lib.hid hg6
      have ks6 := Lib.hid hs6
      have hc3 := (cells4 kI3.out.cells).1
      clear hI3 hg3 hs3 hm6 hg6 hs6
      obtain ⟨hc6, hc16, hc26, hc36, hcf6⟩ := cells4 (put_cells kI3.out kg6.out)
      have hf36 := hcf6 3
      clear hc16 hc26 hcf6))
  go_wp2
  go_ret
  have e1 : wt (putSt st q ⟨true, clock + 1, []⟩) = wt st + 1 := by rw [wt_new kh2.out.rising hfind.out]; rfl
  have hput := kI3.out.put (q := q) (nd := ⟨true, clock + 1, []⟩) (nb := w3.heap.size) (clock' := clock + 1) hql (below_al (Below.refl _ _)) (Nat.le_refl _) (Nat.le_refl _) ⟨_, heap_alloc_new _ _, BytesAt.nil _ _⟩ (by simp) (by have := km6.out; rwa [kQq.out] at this) kg6.out (set_grown w6 f 3 (.int .i64 ((wt st : Int) + 1))) (by
    have := set_heap (put_cells kI3.out kg6.out) 3 (.int .i64 ((wt st : Int) + 1))
    rw [e1]; exact this)
  refine ⟨rfl, _, _, hput.1, fun k hk => hk.imp id (fun h => ?_), Below.kept (below_drewN' kb2.out 1) ((Kept.grown kg3.out (fun k e => by injection e with e; exact e ▸ kh2.out.sf)).trans hput.2 (fun k hk => Or.inl hk))⟩
  have := kb2.out.size
  have := kg3.out.size
  simp at this; omega
end
end Go.Proofs.YtnnepcodghfcmaaGreatDoor
