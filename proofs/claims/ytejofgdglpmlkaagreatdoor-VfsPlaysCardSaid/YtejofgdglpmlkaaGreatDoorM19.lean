/-
  Mkdir and Touch at a path where nothing is; Touch of what is there. Conditions: a weight of at most 2^40.
  A file system in memory whose node gets a new time, or a new path. Conditions: none.
  number of a failure: errors.As at a concrete target, through one Unwrap. (After the kit's ToyasAs.) Conditions: the library's variable errorType is laid.
-/
import Derived.Test.YtejofgdglpmlkaaGreatDoorM12
import Derived.Test.YtejofgdglpmlkaaGreatDoorM05
import Derived.LaidEql
import Derived.Stop.Asserts
import Derived.RowKitTokens
namespace Go.Proofs.YtejofgdglpmlkaaGreatDoor
open Go.RowKit

section
variable {f mb : Nat} {N : Bs → Nat} {S : Nat → Prop} {st : St} {clock room : Int}
theorem OpPost.fsin {w w' : World} {e : Ending} {r : Res} {c : Int} {st' : St} {clock' : Int} {mb' : Nat} {N' : Bs → Nat} {S' : Nat → Prop} (hr : r = (c, st', clock')) (he : e = .returned (.int .i64 c)) (h1 : FsIn w' f mb' N' S' st' clock' room) (h2 : ∀ k, S' k → S k ∨ w.heap.size ≤ k) (h3 : Kept S w w') : OpPost w f S room r e w' := by
  subst hr
  exact ⟨he, S', ⟨mb', N', h1⟩, h2, h3⟩
set_option maxRecDepth 100000 in
set_option maxHeartbeats 4000000 in
theorem mkdir_full {p : ByteArray} {q : Bs} (w : World) (h : FsIn w f mb N S st clock room) (hp : p.size ≤ 2147483647) (hq : clean p.data.toList = q) (hr : lookQ st q = .none) (hl : wt st ≤ 1099511627776) (hfit : fitsB st room 1 0 = false) :
    Calls Tryz.prog 18 #[.pointer (some ⟨f, 0, none⟩), .string p] w fun e w' => e = .returned (.int .i64 15) ∧ Below w.heap.size w w' := by
  have hL := Lib.hid (look_none w h hp hq hr)
  obtain ⟨hv, hq0, -⟩ := lookQ_valid (Or.inl hr)
  have hqe := mk_isEmpty hq0
  have kh := Lib.hid h
  generalize mk q = Q at *
  clear h hq hr hv hq0
  go_enter Tryz.func18, Tryz.ntmps18
  go_wp2_with (go_at_call 34; refine hL.out.mono ?_; rintro e w1 ⟨rfl, hb⟩; have kb := Lib.hid hb; clear hb)
  have hF := Lib.hid (fits_no 1 0 w1 (kh.out.below kb.out) (by omega) (by omega) hl hfit)
  clear hfit
  go_wp2_with (go_at_call 36; refine hF.out.mono ?_; rintro e w2 ⟨rfl, n2, rfl⟩)
  go_ret
  exact ⟨rfl, below_drewN' kb.out n2⟩
theorem mkdir_at {p : ByteArray} {q : Bs} (w : World) (h : FsIn w f mb N S st clock room) (hp : p.size ≤ 2147483647) (hq : clean p.data.toList = q) (hr : lookQ st q = .none) (hl : wt st ≤ 1099511627776) (h0 : 0 ≤ clock) (h1 : clock ≤ 4611686018427387904) :
    Calls Tryz.prog 18 #[.pointer (some ⟨f, 0, none⟩), .string p] w fun e w' => OpPost w f S room (newP st clock room q true) e w' := by
  cases hfit : fitsB st room 1 0 with
  | true =>
    refine (mkdir_new w h hp hq hr hl h0 h1 hfit).mono ?_
    rintro e w' ⟨he, N', S', g1, g2, g3⟩
    exact OpPost.fsin (by unfold newP; rw [if_neg (by simp [hfit])]) he g1 g2 g3
  | false =>
    refine (mkdir_full w h hp hq hr hl hfit).mono ?_
    rintro e w' ⟨he, hb⟩
    exact OpPost.same h (by unfold newP; rw [if_pos hfit]) he hb
set_option maxRecDepth 100000 in
set_option maxHeartbeats 4000000 in
theorem touch_new {p : ByteArray} {q : Bs} (w : World) (h : FsIn w f mb N S st clock room) (hp : p.size ≤ 2147483647) (hq : clean p.data.toList = q) (hr : lookQ st q = .none) (hl : wt st ≤ 1099511627776) (h0 : 0 ≤ clock) (h1 : clock ≤ 4611686018427387904) (hfit : fitsB st room 1 0 = true) :
    Calls Tryz.prog 21 #[.pointer (some ⟨f, 0, none⟩), .string p] w fun e w' => e = .returned (.int .i64 0) ∧ ∃ N' S', FsIn w' f mb N' S' (putSt st q ⟨false, clock + 1, []⟩) (clock + 1) room ∧ (∀ k, S' k → S k ∨ w.heap.size ≤ k) ∧ Kept S w w' := by
  have hL := Lib.hid (look_none w h hp hq hr)
  obtain ⟨hv, hq0, -⟩ := lookQ_valid (Or.inl hr)
  have hfind := Lib.hid (lookQ_find.1 hr)
  have hql := valid_len hv
  have hqs : (mk q).size ≤ maxLen := by rw [mk_size]; unfold maxLen; omega
  have hqe := mk_isEmpty hq0
  have kqs := Lib.hid hqs
  generalize hQ : mk q = Q at *
  have kQ := Lib.hid hQ
  have hQq : Q.data.toList = q := by rw [← hQ, mk_list]
  have kQq := Lib.hid hQq
  have kh := Lib.hid h
  have hll : st.length < maxLen := by have : st.length ≤ wt st := by unfold wt; omega
                                      unfold maxLen; omega
  have kll := Lib.hid hll
  clear hQ h hq hr hv hq0 hqs hQq hll
  go_enter Tryz.func21, Tryz.ntmps21
  go_wp2_with (go_at_call 34; refine hL.out.mono ?_; rintro e w1 ⟨rfl, hb⟩; have kb := Lib.hid hb; clear hb)
  have hF := Lib.hid (fits_yes 1 0 w1 (kh.out.below kb.out) (by omega) (by omega) hl hfit)
  clear hfit
  go_wp2_with (go_at_call 36; refine hF.out.mono ?_; rintro e w2 ⟨rfl, n2, rfl⟩)
  have kh2 := Lib.hid ((kh.out.below kb.out).of_heap (w' := w1.drewN n2) (fun _ _ => rfl))
  have kb2 := Lib.hid (below_drewN' kb.out n2)
  clear hF kb
  generalize w1.drewN n2 = w2 at *
  obtain ⟨hc0, hc1, hc2, hc3, hcf⟩ := cells4 kh2.out.cells
  have hfl := kh2.out.lt f kh2.out.sf
  clear hc1 hc2 hc3 hcf
  go_region_held3 (fun w' => w'.cell? ⟨f, 0, none⟩ = some (.map (some mb)))
    (first | exact hc6 | exact hc3 | go_keep)
    ((go_at_call 38
      refine (change_calls w2.drew (kh2.out.of_heap (fun _ _ => rfl)) h0 h1).mono ?_
      rintro e w3 ⟨rfl, hg3, hs3, hI3⟩
      obtain ⟨w6, hrun6, hm6, hg6, hs6⟩ := (hI3.map.of_heap (w' := w3.alloc (.cells #[.bool false, .int .i64 (clock + 1), .slice none 0 0] 61)) (heap_alloc_old _ _ hI3.map.lt)).put (nb := w3.heap.size) hI3.rising Q kqs.out kll.out ⟨false, clock + 1, []⟩
      have kI3 := Lib.hid hI3
      have kg3 := Lib.hid hg3
      have ks3 := Lib.hid hs3
      have km6 := Lib.hid hm6
      have kg6 := Lib.hid hg6
      have ks6 := Lib.hid hs6
      have hc3 := (cells4 kI3.out.cells).1
      clear hI3 hg3 hs3 hm6 hg6 hs6
      obtain ⟨hc6, hc16, hc26, hc36, hcf6⟩ := cells4 (put_cells kI3.out kg6.out)
      have hf36 := hcf6 3
      clear hc16 hc26 hcf6))
  go_wp2
  go_ret
  have e1 : wt (putSt st q ⟨false, clock + 1, []⟩) = wt st + 1 := by rw [wt_new kh2.out.rising hfind.out]; rfl
  have hput := kI3.out.put (q := q) (nd := ⟨false, clock + 1, []⟩) (nb := w3.heap.size) (clock' := clock + 1) hql (below_al (Below.refl _ _)) (Nat.le_refl _) (Nat.le_refl _) ⟨_, heap_alloc_new _ _, BytesAt.nil _ _⟩ (by simp) (by have := km6.out; rwa [kQq.out] at this) kg6.out (set_grown w6 f 3 (.int .i64 ((wt st : Int) + 1))) (by
    have := set_heap (put_cells kI3.out kg6.out) 3 (.int .i64 ((wt st : Int) + 1))
    rw [e1]; exact this)
  refine ⟨rfl, _, _, hput.1, fun k hk => hk.imp id (fun h => ?_), Below.kept (below_drewN' kb2.out 1) ((Kept.grown kg3.out (fun k e => by injection e with e; exact e ▸ kh2.out.sf)).trans hput.2 (fun k hk => Or.inl hk))⟩
  have := kb2.out.size
  have := kg3.out.size
  simp at this; omega
set_option maxRecDepth 100000 in
set_option maxHeartbeats 4000000 in
theorem touch_full {p : ByteArray} {q : Bs} (w : World) (h : FsIn w f mb N S st clock room) (hp : p.size ≤ 2147483647) (hq : clean p.data.toList = q) (hr : lookQ st q = .none) (hl : wt st ≤ 1099511627776) (hfit : fitsB st room 1 0 = false) :
    Calls Tryz.prog 21 #[.pointer (some ⟨f, 0, none⟩), .string p] w fun e w' => e = .returned (.int .i64 15) ∧ Below w.heap.size w w' := by
  have hL := Lib.hid (look_none w h hp hq hr)
  obtain ⟨hv, hq0, -⟩ := lookQ_valid (Or.inl hr)
  have hqe := mk_isEmpty hq0
  have kh := Lib.hid h
  generalize mk q = Q at *
  clear h hq hr hv hq0
  go_enter Tryz.func21, Tryz.ntmps21
  go_wp2_with (go_at_call 34; refine hL.out.mono ?_; rintro e w1 ⟨rfl, hb⟩; have kb := Lib.hid hb; clear hb)
  have hF := Lib.hid (fits_no 1 0 w1 (kh.out.below kb.out) (by omega) (by omega) hl hfit)
  clear hfit
  go_wp2_with (go_at_call 36; refine hF.out.mono ?_; rintro e w2 ⟨rfl, n2, rfl⟩)
  go_ret
  exact ⟨rfl, below_drewN' kb.out n2⟩
theorem touch_none {p : ByteArray} {q : Bs} (w : World) (h : FsIn w f mb N S st clock room) (hp : p.size ≤ 2147483647) (hq : clean p.data.toList = q) (hr : lookQ st q = .none) (hl : wt st ≤ 1099511627776) (h0 : 0 ≤ clock) (h1 : clock ≤ 4611686018427387904) :
    Calls Tryz.prog 21 #[.pointer (some ⟨f, 0, none⟩), .string p] w fun e w' => OpPost w f S room (newP st clock room q false) e w' := by
  cases hfit : fitsB st room 1 0 with
  | true =>
    refine (touch_new w h hp hq hr hl h0 h1 hfit).mono ?_
    rintro e w' ⟨he, N', S', g1, g2, g3⟩
    exact OpPost.fsin (by unfold newP; rw [if_neg (by simp [hfit])]) he g1 g2 g3
  | false =>
    refine (touch_full w h hp hq hr hl hfit).mono ?_
    rintro e w' ⟨he, hb⟩
    exact OpPost.same h (by unfold newP; rw [if_pos hfit]) he hb
end
end Go.Proofs.YtejofgdglpmlkaaGreatDoor
namespace Go.Proofs.YtejofgdglpmlkaaGreatDoor
open Go.RowKit

section
variable {f mb : Nat} {N : Bs → Nat} {S : Nat → Prop} {st : St} {clock clock' room : Int}
/-- A node's block is none of the rows of bytes. -/
theorem bytes_ne_node {w w' : World} {nb : Nat} {x : Bool} {t : Int} {v : Value} (hb : w.heap[nb]? = some (.cells #[.bool x, .int .i64 t, v] 61 (0, 0))) (hv : ∃ a n c, v = .slice a n c) {u : Value} {d : Bs} (h : BytesAt w u d S) (hsame : ∀ k, S k → k ≠ nb → w'.heap[k]? = w.heap[k]?) (hsz : w.heap.size ≤ w'.heap.size) : BytesAt w' u d S := by
  obtain ⟨a, c, g1, g2, g3, g4, g5⟩ := h
  refine ⟨a, c, g1, g2, g3, g4, fun h0 => ?_⟩
  obtain ⟨b, off, e1, e2, e3, e4⟩ := g5 h0
  obtain ⟨y, hy⟩ : ∃ y, d[0]? = some y := ⟨_, List.getElem?_eq_getElem h0⟩
  have h1 := e4 0 y hy
  have hbn : b ≠ nb := by
    intro e
    rw [e] at h1
    obtain ⟨c0, c1, c2, _⟩ := cells3 hb
    obtain ⟨a', n', c', rfl⟩ := hv
    match off, h1 with
    | 0, h1 => rw [c0] at h1; simp at h1
    | 1, h1 => rw [c1] at h1; simp at h1
    | 2, h1 => rw [c2] at h1; simp at h1
    | off + 3, h1 => simp [World.cell?, hb] at h1
  exact ⟨b, off, e1, e2, Nat.lt_of_lt_of_le e3 hsz, fun k x hk => (World.cell?_of_block (a := ⟨b, off + k, none⟩) (hsame b e2 hbn)).trans (e4 k x hk)⟩
theorem touch_wt {q : Bs} {n : PN} {t : Int} (hr : Rising st) (hf : find st q = some n) : wt (putSt st q ⟨n.dir, t, n.data⟩) = wt st := by
  have := wt_put q ⟨n.dir, t, n.data⟩ hr
  rw [hf] at this
  simp [own1] at this
  omega
theorem touch_len {q : Bs} {n : PN} {t : Int} (hr : Rising st) (hf : find st q = some n) : (putSt st q ⟨n.dir, t, n.data⟩).length = st.length := by
  have := len_put q ⟨n.dir, t, n.data⟩ hr
  rw [hf] at this
  simpa using this
/-- A node gets a new time. -/
theorem FsIn.touch {w : World} {q : Bs} {n : PN} {t : Int} (h : FsIn w f mb N S st clock room) (hf : find st q = some n) : FsIn (w.setCell ⟨N q, 1, none⟩ (.int .i64 t)) f mb N S (putSt st q ⟨n.dir, t, n.data⟩) clock room := by
  obtain ⟨n1, n2⟩ := h.node_ne hf
  obtain ⟨hql, hSq, v, hnb, hnv⟩ := h.node q n hf
  have hvf : ∃ a k c, v = .slice a k c := by obtain ⟨a, c, e⟩ := hnv.form; exact ⟨a, _, c, e⟩
  have hg := set_grown w (N q) 1 (.int .i64 t)
  have far : ∀ k, k < w.heap.size → k ≠ N q → (w.setCell ⟨N q, 1, none⟩ (.int .i64 t)).heap[k]? = w.heap[k]? := fun k hk hne => hg.block k hk (fun e => hne (by injection e))
  have hby : ∀ {u : Value} {d : Bs}, BytesAt w u d S → BytesAt (w.setCell ⟨N q, 1, none⟩ (.int .i64 t)) u d S := fun hu => bytes_ne_node hnb hvf hu (fun k hk hne => far k (h.lt k hk) hne) hg.size
  have hsome : ∀ p, (find (putSt st q ⟨n.dir, t, n.data⟩) p).isSome = (find st p).isSome := fun p => by
    rw [find_put]
    by_cases e : p = q
    · rw [if_pos e, e, hf]; rfl
    · rw [if_neg e]
  refine ⟨?_, h.sf, h.sm, ?_, rising_put _ _ h.rising, fun p nd hp => ?_, fun p p' hp hp' e => h.inj p p' (by rw [← hsome]; exact hp) (by rw [← hsome]; exact hp') e, fun b hb => Nat.lt_of_lt_of_le (h.lt b hb) hg.size⟩
  · rw [touch_wt h.rising hf]
    exact (far f (h.lt f h.sf) (fun e => n1 e.symm)).trans h.cells
  · obtain ⟨D, ho, hs, hall⟩ := h.map.of_heap (w' := w.setCell ⟨N q, 1, none⟩ (.int .i64 t)) (far mb (h.lt mb h.sm) (fun e => n2 e.symm))
    refine ⟨D, ho, hs.trans (touch_len h.rising hf).symm, fun p hp => ?_⟩
    obtain ⟨e1, e2⟩ := hall p hp
    refine ⟨e1.trans ?_, e2.trans (hsome p).symm⟩
    have := hsome p
    unfold datAt
    cases h1 : find st p with
    | none =>
      rw [h1] at this
      cases h2 : find (putSt st q ⟨n.dir, t, n.data⟩) p with
      | none => rfl
      | some m => rw [h2] at this; cases this
    | some m =>
      rw [h1] at this
      cases h2 : find (putSt st q ⟨n.dir, t, n.data⟩) p with
      | none => rw [h2] at this; cases this
      | some m => rfl
  · rw [find_put] at hp
    by_cases e : p = q
    · rw [if_pos e] at hp
      injection hp with hp
      subst hp e
      refine ⟨hql, hSq, v, ?_, hby hnv⟩
      have := set_heap hnb 1 (.int .i64 t)
      simpa using this
    · rw [if_neg e] at hp
      obtain ⟨g1, g2, v', g3, g4⟩ := h.node p nd hp
      refine ⟨g1, g2, v', (far _ (h.lt _ g2) (fun e' => e (h.inj p q (by rw [hp]; rfl) (by rw [hf]; rfl) e'))).trans g3, hby g4⟩
/-- A node gets another path. -/
theorem FsIn.move {w w8 : World} {p q : Bs} {n : PN} (h : FsIn w f mb N S st clock room) (hf : find st p = some n) (hne : p ≠ q) (hql : q.length ≤ 1000) (hm : MapAt w8 mb (fun x => if x = q then N p else N x) (delSt (putSt st q n) p)) (far : ∀ k, k < w.heap.size → k ≠ f → k ≠ mb → w8.heap[k]? = w.heap[k]?) (hsz : w.heap.size ≤ w8.heap.size)
    (hc : w8.heap[f]? = some (.cells #[.map (some mb), .int .i64 clock', .int .i64 room, .int .i64 (wt (delSt (putSt st q n) p))] 58 (0, 0))) : FsIn w8 f mb (fun x => if x = q then N p else N x) S (delSt (putSt st q n) p) clock' room := by
  have hfind : ∀ r, find (delSt (putSt st q n) p) r = if r = p then Option.none else if r = q then some n else find st r := fun r => by rw [find_del, find_put]
  have hN : ∀ r nd, find (delSt (putSt st q n) p) r = some nd → ∃ r0, find st r0 = some nd ∧ (if r = q then N p else N r) = N r0 ∧ (r = q → r0 = p) ∧ (r ≠ q → r0 = r ∧ r ≠ p) := fun r nd hr => by
    rw [hfind] at hr
    split at hr
    · cases hr
    · rename_i e1
      split at hr
      · rename_i e2
        injection hr with hr
        subst hr
        exact ⟨p, hf, by rw [if_pos e2], fun _ => rfl, fun e => absurd e2 e⟩
      · rename_i e2
        exact ⟨r, hr, by rw [if_neg e2], fun e => absurd e e2, fun _ => ⟨rfl, e1⟩⟩
  refine ⟨hc, h.sf, h.sm, hm, rising_del p (rising_put q n h.rising), fun r nd hr => ?_, fun r r' hr hr' e => ?_, fun b hb => Nat.lt_of_lt_of_le (h.lt b hb) hsz⟩
  · obtain ⟨r0, g0, g1, g2, g3⟩ := hN r nd hr
    obtain ⟨k1, k2, v, k3, k4⟩ := h.node r0 nd g0
    obtain ⟨m1, m2⟩ := h.node_ne g0
    show r.length ≤ 1000 ∧ S (if r = q then N p else N r) ∧ NodeAt w8 (if r = q then N p else N r) nd S
    rw [g1]
    refine ⟨?_, k2, v, (far _ (h.lt _ k2) m1 m2).trans k3, h.bytes_far k4 (fun k hk => far k (h.lt k hk)) (fun _ h => h) hsz⟩
    by_cases e : r = q
    · rw [e]; exact hql
    · rw [(g3 e).1] at k1; exact k1
  · obtain ⟨nd, hnd⟩ := Option.isSome_iff_exists.1 hr
    obtain ⟨nd', hnd'⟩ := Option.isSome_iff_exists.1 hr'
    obtain ⟨r0, g0, g1, g2, g3⟩ := hN r nd hnd
    obtain ⟨r1, g0', g1', g2', g3'⟩ := hN r' nd' hnd'
    have e' : N r0 = N r1 := by rw [← g1, ← g1']; exact e
    have e2 : r0 = r1 := h.inj r0 r1 (by rw [g0]; rfl) (by rw [g0']; rfl) e'
    by_cases h1 : r = q
    · by_cases h2 : r' = q
      · rw [h1, h2]
      · have := (g3' h2).2
        rw [← (g3' h2).1, ← e2, g2 h1] at this
        exact absurd rfl this
    · by_cases h2 : r' = q
      · have := (g3 h1).2
        rw [← (g3 h1).1, e2, g2' h2] at this
        exact absurd rfl this
      · rw [← (g3 h1).1, ← (g3' h2).1, e2]
end
end Go.Proofs.YtejofgdglpmlkaaGreatDoor
namespace Go.Proofs.YtejofgdglpmlkaaGreatDoor
open Go.RowKit Go.Extern.Stop Go.Stop Go.Extern

/-- The library's variable is laid. -/
def Laid (w : World) : Prop := w.cell? ⟨0, 0, none⟩ = some (.iface 122 (.agg #[.pointer (some ⟨2, 70, none⟩)]))
theorem Laid.lt {w : World} (h : Laid w) : 0 < w.heap.size := World.block_lt_of_cell? w _ h
theorem Laid.below {w w' : World} {B : Nat} (h : Laid w) (hB : 0 < B) (hb : Below B w w') : Laid w' := (hb.cell (p := ⟨0, 0, none⟩) hB).trans h

theorem valueOfT (t : Addr) (w : World) : (ReflectliteValue.unpack (.iface 97 (.pointer (some t)))).run Tryz.prog w
    = .ok (.agg #[.pointer (some ⟨2, 97, none⟩), .pointer (some ⟨w.heap.size, 0, none⟩), .int .u64 150]) (w.alloc (.cells #[.pointer (some t)] 97)) := by kernel_rfl
theorem typeT (a : Addr) (w : World) : (ReflectliteValue.methodAny (ReflectliteValue.valueError "reflectlite.Value.Type" 0) (fun t _ _ _ => ReflectliteType.toType t) #[.agg #[.pointer (some ⟨2, 97, none⟩), .pointer (some a), .int .u64 150]]).run Tryz.prog w
    = .ok (.iface 122 (.agg #[.pointer (some ⟨2, 97, none⟩)])) w := by kernel_rfl
theorem methodKind (h : Value) (w : World) : (Go.method 304 122 (.agg #[h]) "Kind").run Tryz.prog w = .ok (134, h) w := by kernel_rfl
theorem kindT (w : World) : ((ReflectliteType.abiMethod fun t => (fun a : Nat => Value.int IntKind.u8 (a : Int)) <$> Rtype.kind t) #[.pointer (some ⟨2, 97, none⟩)]).run Tryz.prog w = .ok (.int .u8 22) w := by kernel_rfl
theorem kindE (w : World) : ((ReflectliteType.abiMethod fun t => (fun a : Nat => Value.int IntKind.u8 (a : Int)) <$> Rtype.kind t) #[.pointer (some ⟨2, 29, none⟩)]).run Tryz.prog w = .ok (.int .u8 2) w := by kernel_rfl
theorem partsT (a : Addr) (w : World) : (ReflectliteValue.parts (.agg #[.pointer (some ⟨2, 97, none⟩), .pointer (some a), .int .u64 150])).run Tryz.prog w = .ok (some (97, a, 150)) w := by kernel_rfl
theorem isNilT (a p : Addr) (W : World) (ha : W.cell? a = some (.pointer (some p))) :
    (ReflectliteValue.method (ReflectliteValue.valueError "reflectlite.Value.IsNil" 0) ReflectliteValue.isNil #[.agg #[.pointer (some ⟨2, 97, none⟩), .pointer (some a), .int .u64 150]]).run Tryz.prog W = .ok (.bool false) W := by
  change (Bind.bind (ReflectliteValue.parts _) _ : Sem Value).run Tryz.prog W = _
  simp only [Array.getLit, Sem.run_bind, List.getElem_toArray, List.getElem_cons_zero, partsT, Result.andThen]
  simp [ReflectliteValue.isNil, loadVar, isAgg, underlying, Tryz.underlying97, ha, Result.andThen]
theorem methodElem (h : Value) (w : World) : (Go.method 304 122 (.agg #[h]) "Elem").run Tryz.prog w = .ok (146, .agg #[h]) w := by kernel_rfl
theorem methodImplements (h : Value) (w : World) : (Go.method 304 122 (.agg #[h]) "Implements").run Tryz.prog w = .ok (147, .agg #[h]) w := by kernel_rfl
theorem methodAssignableTo (h : Value) (w : World) : (Go.method 304 122 (.agg #[h]) "AssignableTo").run Tryz.prog w = .ok (144, .agg #[h]) w := by kernel_rfl
theorem methodUnwrap (p : ByteArray) (v : Value) (w : World) : (Go.method 304 94 (.agg #[.string p, v]) "Unwrap").run Tryz.prog w = .ok (139, .agg #[.string p, v]) w := by kernel_rfl
theorem elemT (w : World) : (ReflectliteType.method ReflectliteType.elem #[.agg #[.pointer (some ⟨2, 97, none⟩)]]).run Tryz.prog w = .ok (.iface 122 (.agg #[.pointer (some ⟨2, 29, none⟩)])) w := by kernel_rfl
theorem implementsE (w : World) : (ReflectliteType.relation "Implements" ReflectliteType.implements_ #[.agg #[.pointer (some ⟨2, 29, none⟩)], .iface 122 (.agg #[.pointer (some ⟨2, 70, none⟩)])]).run Tryz.prog w = .ok (.bool true) w := by kernel_rfl
theorem typeOfE (v : Value) (w : World) : (ReflectliteType.typeOf #[.iface 29 v]).run Tryz.prog w = .ok (.iface 122 (.agg #[.pointer (some ⟨2, 29, none⟩)])) w := by kernel_rfl
theorem typeOfF (v : Value) (w : World) : (ReflectliteType.typeOf #[.iface 94 v]).run Tryz.prog w = .ok (.iface 122 (.agg #[.pointer (some ⟨2, 94, none⟩)])) w := by kernel_rfl
theorem assignableE (w : World) : (ReflectliteType.relation "AssignableTo" ReflectliteType.assignableTo #[.agg #[.pointer (some ⟨2, 29, none⟩)], .iface 122 (.agg #[.pointer (some ⟨2, 29, none⟩)])]).run Tryz.prog w = .ok (.bool true) w := by kernel_rfl
theorem assignableF (w : World) : (ReflectliteType.relation "AssignableTo" ReflectliteType.assignableTo #[.agg #[.pointer (some ⟨2, 94, none⟩)], .iface 122 (.agg #[.pointer (some ⟨2, 29, none⟩)])]).run Tryz.prog w = .ok (.bool false) w := by kernel_rfl
theorem valueOfE (e : Int) (w : World) : (ReflectliteValue.unpack (.iface 29 (.int .i64 e))).run Tryz.prog w
    = .ok (.agg #[.pointer (some ⟨2, 29, none⟩), .pointer (some ⟨w.heap.size, 0, none⟩), .int .u64 130]) (w.alloc (.cells #[.int .i64 e] 29)) := by kernel_rfl
theorem elemOfT (w : World) : (Rtype.elem? 97).run Tryz.prog w = .ok (some 29) w := by kernel_rfl
theorem mkE (p : Addr) (w : World) : (ReflectliteValue.mk 29 p ReflectliteValue.flagAddr).run Tryz.prog w = .ok (.agg #[.pointer (some ⟨2, 29, none⟩), .pointer (some p), .int .u64 386]) w := by kernel_rfl
theorem elemV (a p : Addr) (W : World) (ha : W.cell? a = some (.pointer (some p))) :
    (ReflectliteValue.method (ReflectliteValue.valueError "reflectlite.Value.Elem" 0) ReflectliteValue.elem #[.agg #[.pointer (some ⟨2, 97, none⟩), .pointer (some a), .int .u64 150]]).run Tryz.prog W
      = .ok (.agg #[.pointer (some ⟨2, 29, none⟩), .pointer (some p), .int .u64 386]) W := by
  change (Bind.bind (ReflectliteValue.parts _) _ : Sem Value).run Tryz.prog W = _
  simp only [Array.getLit, Sem.run_bind, List.getElem_toArray, List.getElem_cons_zero, partsT, Result.andThen]
  simp [ReflectliteValue.elem, loadVar, isAgg, underlying, Tryz.underlying97, ha, Result.andThen, elemOfT, mkE]
theorem partsEa (a : Addr) (w : World) : (ReflectliteValue.parts (.agg #[.pointer (some ⟨2, 29, none⟩), .pointer (some a), .int .u64 386])).run Tryz.prog w = .ok (some (29, a, 386)) w := by kernel_rfl
theorem partsE (a : Addr) (w : World) : (ReflectliteValue.parts (.agg #[.pointer (some ⟨2, 29, none⟩), .pointer (some a), .int .u64 130])).run Tryz.prog w = .ok (some (29, a, 130)) w := by kernel_rfl
theorem directE (w : World) : (Rtype.directlyAssignable 29 29).run Tryz.prog w = .ok true w := by kernel_rfl
theorem setE (ta b : Addr) (e : Int) (old : Value) (W : World) (hb : W.cell? b = some (.int .i64 e)) (ht : W.cell? ta = some old) (hf : W.frozen? ta = false) :
    (ReflectliteValue.set #[.agg #[.pointer (some ⟨2, 29, none⟩), .pointer (some ta), .int .u64 386], .agg #[.pointer (some ⟨2, 29, none⟩), .pointer (some b), .int .u64 130]]).run Tryz.prog W
      = .ok (.tuple #[]) (W.setCell ta (.int .i64 e)) := by
  change (Bind.bind (ReflectliteValue.parts _) _ : Sem Value).run Tryz.prog W = _
  simp only [Array.getLit, Sem.run_bind, List.getElem_toArray, List.getElem_cons_zero, List.getElem_cons_succ, partsEa, partsE, Result.andThen]
  simp [ReflectliteValue.flagAddr, loadVar, isAgg, underlying, Tryz.underlying29, hb, Result.andThen, directE, storeVar, Value.cells, storeCells, Addr.add]
  rw [run_store Tryz.prog W ta _ _ (by rfl)]
  simp [ht, hf]
theorem noAsF (v : Value) (xT : TypeId) (w : World) : (Instr.typeAssert (.iface 94 v) xT 153 true).run Tryz.prog w = .ok (.tuple #[.nilIface, .bool false]) w := run_typeAssert_lacksB Tryz.underlying153 (by kernel_rfl) (by kernel_rfl) v xT w
theorem hasUnwrapF (v : Value) (xT : TypeId) (w : World) : (Instr.typeAssert (.iface 94 v) xT 127 true).run Tryz.prog w = .ok (.tuple #[.iface 94 v, .bool true]) w := run_typeAssert_hasB Tryz.underlying127 (by kernel_rfl) v xT w
end Go.Proofs.YtejofgdglpmlkaaGreatDoor
