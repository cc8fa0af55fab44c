/-
  The reference's Mkdir, Remove, Touch's first half. Conditions: a tree that is right, texts of at most 2^31 bytes.
  Plain laws: what is below a directory, what a write leaves, names within a directory. Plain Lean. Conditions: a tree that is right.
  The reference's Remove. Conditions: a tree that is right, texts of at most 2^31 bytes.
  The reference's file system: a cell of a node turns; Touch at a node. Conditions: a tree that is right, texts of at most 2^31 bytes.
  The reference's Touch at a node. Conditions: a tree that is right, texts of at most 2^31 bytes.
-/
import Derived.Test.YtejofgdglpmlkaaGreatDoorM18
import Derived.Test.YtejofgdglpmlkaaGreatDoorM22
import Derived.Test.YtejofgdglpmlkaaGreatDoorM14
namespace Go.Proofs.YtejofgdglpmlkaaGreatDoor
open Go.RowKit

section
variable {w w' w1 : World} {fb : Nat} {fv fv' : Value} {L L' : List NV} {R R' : Nat → Prop} {l l' : St} {clock clock' room : Int} {p : ByteArray} {q : Bs}
theorem RefIn.mono (h : RefIn w fb fv L R l clock room) (hR : ∀ k, R k → R' k) (hlt : ∀ k, R' k → k < w.heap.size) : RefIn w fb fv L R' l clock room := h.of_heap (fun _ _ => rfl) hR hlt
/-- The clock goes on. -/
theorem RefIn.tick (h : RefIn w fb fv L R l clock room) (hg : w.grownBy w' (some fb)) (hc : w'.heap[fb]? = some (.cells #[fv, .int .i64 clock', .int .i64 room] 62 (0, 0))) : RefIn w' fb fv L R l clock' room :=
  have he : ∀ k, R k → k ≠ fb → w'.heap[k]? = w.heap[k]? := fun k hk hne => hg.block k (h.lt k hk) (fun e => hne (by injection e))
  ⟨hc, h.rf, h.eq, h.row.kept hg (by
    by_cases hn : fv.ownBlock = none
    · exact Or.inl hn
    · exact Or.inr (fun e => (h.own fb e).2 rfl)), h.own, fun x hx => (h.data x hx).of_heap (fun k hk => he k hk.1 hk.2.1) (fun _ hk => hk), fun b hb => Nat.lt_of_lt_of_le (h.lt b hb) hg.size⟩
theorem RefIn.ticked (h : RefIn w fb fv L R l clock room) (n : Nat) (c : Int) : RefIn ((w.drewN n).setCell ⟨fb, 1, none⟩ (.int .i64 c)) fb fv L R l c room ∧ Kept R w ((w.drewN n).setCell ⟨fb, 1, none⟩ (.int .i64 c)) := by
  have hd := below_drewN' (Below.refl w.heap.size w) n
  have h1 := h.below hd
  have hg := set_grown (w.drewN n) fb 1 (.int .i64 c)
  exact ⟨h1.tick hg (by simpa using set_heap h1.hc 1 (.int .i64 c)), Below.kept hd (Kept.grown hg (fun k e => by injection e with e; exact e ▸ h.rf))⟩
theorem RefPost.of {r : Int × St × Int} (hk : Kept R w w1) (h : RefIn w' fb fv' L' (Plus R w1.heap.size w'.heap.size) l' clock' room) (hk' : Kept R w1 w') (hr : r = (0, l', clock')) : RefPost w fb R room r (.returned (.int .i64 0)) w' := by
  subst hr
  refine ⟨rfl, ⟨fv', L', h.mono (fun k hk2 => hk2.imp id (fun h2 => ⟨Nat.le_trans hk.size h2.1, h2.2⟩)) (fun k hk2 => hk2.elim (fun h2 => h.lt k (Or.inl h2)) (fun h2 => h2.2))⟩, hk.trans hk' (fun k h => Or.inl h)⟩
theorem err_nz {c : Int} (h : 0 < c) : (c == 0) = false ∧ (c != 0) = true := by
  have h0 : (c == 0) = false := by rw [beq_eq_false_iff_ne]; omega
  exact ⟨h0, by rw [bne, h0]; rfl⟩
theorem nat_ne2 (j : Nat) : ((j : Int) == -2) = false := rfl
theorem nat_ne1 (j : Nat) : ((j : Int) == -1) = false := rfl
theorem rlook_err {k e c : Int} (hr : lookQ l q = .err c) (h : RLook l q k e) : k = -1 ∧ e = c ∧ 0 < c := by unfold RLook at h; rw [hr] at h; exact h
theorem rlook_root {k e : Int} (hr : lookQ l q = .root) (h : RLook l q k e) : k = -2 ∧ e = 0 := by unfold RLook at h; rw [hr] at h; exact h
theorem rlook_none {k e : Int} (hr : lookQ l q = .none) (h : RLook l q k e) : k = -1 ∧ e = 0 := by unfold RLook at h; rw [hr] at h; exact h
theorem rlook_node {k e : Int} {n : PN} (hr : lookQ l q = .node n) (h : RLook l q k e) : ∃ j : Nat, e = 0 ∧ k = j ∧ l[j]? = some (q, n) ∧ (0 : Int) ≤ (j : Int) ∧ (j : Int) < (l.length : Int) := by
  unfold RLook at h; rw [hr] at h
  obtain ⟨h1, j, h2, h3⟩ := h
  have := (List.getElem?_eq_some_iff.1 h3).1
  exact ⟨j, h1, h2, h3, by omega, by omega⟩
theorem wf_data (hw : Wf l clock room) : ∀ x ∈ l, x.2.data.length ≤ 1099511627776 := fun x hx => by
  have := find_len hw.rising (hw.mem hx)
  have := (wf_small hw).1
  omega
theorem wf_sum (hw : Wf l clock room) : (l.length : Int) + (bytesOf l : Int) ≤ 1048576 := by
  have h1 := hw.wt
  have h2 := hw.rm
  unfold wt at h1
  omega
theorem fits_one (l : St) (room : Int) : fitsB l room 1 0 = false ↔ 1000 ≤ l.length ∨ room < (l.length : Int) + (bytesOf l : Int) + 1 := by
  unfold fitsB wt
  rw [Bool.and_eq_false_iff, decide_eq_false_iff_not, decide_eq_false_iff_not]
  omega
set_option maxRecDepth 100000 in
set_option maxHeartbeats 4000000 in
theorem refMkdir_calls (h : RefIn w fb fv L R l clock room) (hw : Wf l clock room) (hp : p.size ≤ 2147483647) (hq : clean p.data.toList = q) :
    Calls Tryz.prog 42 #[.pointer (some ⟨fb, 0, none⟩), .string p] w fun e w' => RefPost w fb R room (mkdirRes l clock room q) e w' := by
  have kl := Lib.hid (reflook_calls h hw.rising hw.len p hp)
  rw [hq] at kl
  clear hq
  have kh := Lib.hid h
  unfold mkdirRes
  cases hr : lookQ l q with
  | root =>
    have kr := Lib.hid hr
    clear h hw hr
    go_enter Tryz.func42, Tryz.ntmps42
    go_wp2_with (go_at_call 63; refine (kl.out).mono ?_; rintro e w1 ⟨k, x, rfl, hl, hb⟩; have kb := Lib.hid hb; obtain ⟨rfl, rfl⟩ := rlook_root kr.out hl; clear hl hb)
    go_ret
    exact RefPost.same kh.out rfl rfl kb.out
  | err c =>
    have kr := Lib.hid hr
    clear h hw hr
    go_enter Tryz.func42, Tryz.ntmps42
    go_wp2_with (go_at_call 63; refine (kl.out).mono ?_; rintro e w1 ⟨k, x, rfl, hl, hb⟩; have kb := Lib.hid hb; obtain ⟨rfl, rfl, hc⟩ := rlook_err kr.out hl; obtain ⟨hc0, hc1⟩ := err_nz hc; clear hl hb hc)
    go_ret
    exact RefPost.same kh.out rfl rfl kb.out
  | node n =>
    have kr := Lib.hid hr
    clear h hw hr
    go_enter Tryz.func42, Tryz.ntmps42
    go_wp2_with (go_at_call 63; refine (kl.out).mono ?_; rintro e w1 ⟨k, x, rfl, hl, hb⟩; have kb := Lib.hid hb; obtain ⟨j, rfl, rfl, -, hj0, hj1⟩ := rlook_node kr.out hl; have hj2 := nat_ne2 j; clear hl hb)
    go_ret
    exact RefPost.same kh.out rfl rfl kb.out
  | none =>
    have kr := Lib.hid hr
    have kw := Lib.hid hw
    have hsum := wf_sum hw
    have hclk := hw.clk
    have hll := hw.len
    obtain ⟨fa, fc, hfv⟩ := h.form
    subst hfv
    clear h hw hr
    go_enter Tryz.func42, Tryz.ntmps42
    go_upto_region 8 with (go_at_call 63; refine (kl.out).mono ?_; rintro e w1 ⟨k, x, rfl, hl, hb⟩; have kb := Lib.hid hb; obtain ⟨rfl, rfl⟩ := rlook_none kr.out hl; clear hl hb)
    have kh1 := Lib.hid (kh.out.below kb.out)
    obtain ⟨f0, f1, f2, ff⟩ := cells3 kh1.out.hc
    have ff1 := ff 1
    have hfl := heap_lt kh1.out.hc
    clear ff
    have hWq := Lib.hid (fun (n : Nat) => (show Calls Tryz.prog 32 #[.slice fa l.length fc] (w1.drewN n) fun e w' => e = .returned (.int .i64 ((l.length : Int) + (bytesOf l : Int))) ∧ w' = w1.drewN n from
      (refweight_calls' rfl (kh1.out.tree.of_heap (w' := w1.drewN n) (fun j hj => rfl) (fun _ h => h)) (by omega) (wf_data kw.out)).mono (fun e w' hh => ⟨hh.1, hh.2.symm⟩)))
    have hfit := fits_one l room
    have hwr : IntKind.i64.wrap ((l.length : Int) + (bytesOf l : Int) + 1) = (l.length : Int) + (bytesOf l : Int) + 1 := IntWalk.i64_in _ (by omega)
    have hwc : IntKind.i64.wrap (clock + 1) = clock + 1 := IntWalk.i64_in _ (by omega)
    by_cases g1 : 1000 ≤ l.length
    · have kf := Lib.hid (show newP l clock room q true = (15, l, clock) by unfold newP; rw [if_pos (hfit.2 (Or.inl g1))])
      have z1 : (1000 : Int) ≤ (l.length : Int) := by omega
      clear g1 hfit
      go_wp2_with fail
      go_quiet (fail)
      go_wp2
      go_ret
      exact RefPost.same (r := newP l clock room q true) kh.out kf.out rfl (below_drewN' kb.out _)
    · have z1 : ¬ (1000 : Int) ≤ (l.length : Int) := by omega
      by_cases g2 : room < (l.length : Int) + (bytesOf l : Int) + 1
      · have kf := Lib.hid (show newP l clock room q true = (15, l, clock) by unfold newP; rw [if_pos (hfit.2 (Or.inr g2))])
        clear g1 hfit
        go_wp2_with fail
        go_quiet ((go_at_call 32; exact Calls.quiet_of_same (hWq.out _)))
        go_wp2
        go_ret
        exact RefPost.same (r := newP l clock room q true) kh.out kf.out rfl (below_drewN' kb.out _)
      · have kf := Lib.hid (show newP l clock room q true = (0, putSt l q ⟨true, clock + 1, []⟩, clock + 1) by unfold newP; rw [if_neg (fun e => by rcases hfit.1 e with h | h; exact g1 h; exact g2 h)])
        clear g1 hfit
        go_wp2_with fail
        go_quiet ((go_at_call 32; exact Calls.quiet_of_same (hWq.out _)))
        have kt := Lib.hid (fun n => kh1.out.ticked n (clock + 1))
        have kput := Lib.hid (fun n => refput_calls (p := q) (dat := []) (d := true) (t := clock + 1) (kt.out n).1 kw.out.rising kw.out.len (lookQ_find.1 kr.out) (BytesAt.nil _ _))
        go_wp2_with (go_at_call 64; refine (kput.out _).mono ?_; rintro e w2 ⟨rfl, fv', L', h2, hk2⟩; have kh2 := Lib.hid h2; have kk2 := Lib.hid hk2; clear h2 hk2)
        go_ret
        exact RefPost.of (Below.kept kb.out (kt.out _).2) kh2.out kk2.out kf.out
end
end Go.Proofs.YtejofgdglpmlkaaGreatDoor
namespace Go.Proofs.YtejofgdglpmlkaaGreatDoor
open Go.RowKit

theorem parent_split {p : Bs} (hv : validB p = true) (h0 : p ≠ []) : (parentP p = [] ∧ lastP p = p ∧ (47 : UInt8) ∉ p) ∨ (parentP p ≠ [] ∧ p = parentP p ++ 47 :: lastP p ∧ (47 : UInt8) ∉ lastP p) := by
  have hc : joinS (cnames p) = p := (validB_iff.1 hv).2.1
  have hg := cnames_good p
  unfold parentP lastP
  rcases snoc_cases (cnames p) with e | ⟨a, x, e⟩
  · rw [e, joinS_nil] at hc; exact absurd hc.symm h0
  · have hx := hg x (by rw [e]; simp)
    rw [e, List.dropLast_concat, List.getLastD_concat]
    rw [e] at hc
    cases a with
    | nil =>
      rw [List.nil_append, joinS_one] at hc
      left
      exact ⟨rfl, hc, fun h => hx.sl (by rw [← hc] at h; exact h)⟩
    | cons y r =>
      right
      have hy := hg y (by rw [e]; simp)
      refine ⟨fun h => ?_, ?_, hx.sl⟩
      · rw [joinS_cons] at h
        exact hy.ne (List.append_eq_nil_iff.1 h).1
      · rw [joinS_snoc (by simp)] at hc; exact hc.symm
/-- A path is told by its parent and its last name. -/
theorem path_eq {p q : Bs} (hp : validB p = true) (hp0 : p ≠ []) (hq : validB q = true) (hq0 : q ≠ []) (h1 : parentP p = parentP q) (h2 : lastP p = lastP q) : p = q := by
  rcases parent_split hp hp0 with ⟨a1, a2, _⟩ | ⟨a1, a2, _⟩
  · rcases parent_split hq hq0 with ⟨b1, b2, _⟩ | ⟨b1, b2, _⟩
    · rw [← a2, ← b2, h2]
    · exact absurd (h1.symm.trans a1) b1
  · rcases parent_split hq hq0 with ⟨b1, b2, _⟩ | ⟨b1, b2, _⟩
    · exact absurd (h1.trans b1) a1
    · rw [a2, b2, h1, h2]
theorem prefix_of (q y : Bs) : Lib.hasPrefix (q ++ 47 :: y) (q ++ [47]) = true := by
  unfold Lib.hasPrefix
  rw [List.isPrefixOf_iff_prefix]
  exact ⟨y, by simp⟩
theorem below_find {l : St} {clock room : Int} (hw : Wf l clock room) {q : Bs} : ∀ (n : Nat) (x : Bs × PN), x ∈ l → x.1.length ≤ n → Lib.hasPrefix x.1 (q ++ [47]) = true → ∃ y ∈ l, parentP y.1 = q
  | 0, x, hx, hn, hp => by
    unfold Lib.hasPrefix at hp
    rw [List.isPrefixOf_iff_prefix] at hp
    obtain ⟨z, hz⟩ := hp
    have := congrArg List.length hz
    simp at this
    omega
  | n + 1, x, hx, hn, hp => by
    obtain ⟨h1, h2, h3, -⟩ := hw.node x.1 x.2 (hw.mem hx)
    unfold Lib.hasPrefix at hp
    rw [List.isPrefixOf_iff_prefix] at hp
    obtain ⟨z, hz⟩ := hp
    have hz' : q ++ 47 :: z = x.1 := by rw [← hz]; simp
    rcases parent_split h1 h2 with ⟨a1, a2, a3⟩ | ⟨a1, a2, a3⟩
    · exact absurd (by rw [← hz']; simp) a3
    · generalize hP : parentP x.1 = P at *
      generalize lastP x.1 = y at *
      rw [a2] at hz'
      rcases List.append_eq_append_iff.1 hz' with ⟨a, e1, e2⟩ | ⟨a, e1, e2⟩
      · cases a with
        | nil => rw [List.append_nil] at e1; exact ⟨x, hx, hP.trans e1⟩
        | cons c a =>
          simp only [List.cons_append] at e2
          injection e2 with e3 e4
          subst e3
          rcases h3 with h3 | ⟨m, hm, hmd⟩
          · exact absurd h3 a1
          · refine below_find hw n (P, m) (find_mem hm) ?_ ?_
            · have := congrArg List.length a2
              simp at this
              show P.length ≤ n
              omega
            · show Lib.hasPrefix P (q ++ [47]) = true
              rw [e1]
              exact prefix_of q a
      · cases a with
        | nil => rw [List.append_nil] at e1; exact ⟨x, hx, hP.trans e1.symm⟩
        | cons c a =>
          simp only [List.cons_append] at e2
          injection e2 with e3 e4
          subst e3
          exact absurd (by rw [e4]; simp) a3
theorem below_iff {l : St} {clock room : Int} (hw : Wf l clock room) {q : Bs} {n : PN} (hf : find l q = some n) (hq0 : q ≠ []) : (n.dir && belowQ l q) = true ↔ ∃ x ∈ l, parentP x.1 = q := by
  rw [Bool.and_eq_true]
  constructor
  · rintro ⟨_, hb⟩
    unfold belowQ at hb
    rw [List.any_eq_true] at hb
    obtain ⟨x, hx, hp⟩ := hb
    exact below_find hw _ x hx (Nat.le_refl _) hp
  · rintro ⟨x, hx, hp⟩
    obtain ⟨h1, h2, h3, -⟩ := hw.node x.1 x.2 (hw.mem hx)
    rw [hp] at h3
    refine ⟨?_, ?_⟩
    · rcases h3 with h3 | ⟨m, hm, hmd⟩
      · exact absurd h3 hq0
      · rw [hf] at hm; injection hm with hm; subst hm; exact hmd
    · unfold belowQ
      rw [List.any_eq_true]
      refine ⟨x, hx, ?_⟩
      rcases parent_split h1 h2 with ⟨a1, _⟩ | ⟨a1, a2, _⟩
      · exact absurd (hp.symm.trans a1) hq0
      · rw [a2, hp]; exact prefix_of q _
end Go.Proofs.YtejofgdglpmlkaaGreatDoor
namespace Go.Proofs.YtejofgdglpmlkaaGreatDoor
open Go.RowKit

section
variable {w w' w1 : World} {fb : Nat} {fv fv' : Value} {L L' : List NV} {R R' : Nat → Prop} {l l' : St} {clock clock' room : Int} {p : ByteArray} {q : Bs}
set_option maxRecDepth 100000 in
set_option maxHeartbeats 4000000 in
theorem refRemove_calls (h : RefIn w fb fv L R l clock room) (hw : Wf l clock room) (hp : p.size ≤ 2147483647) (hq : clean p.data.toList = q) :
    Calls Tryz.prog 43 #[.pointer (some ⟨fb, 0, none⟩), .string p] w fun e w' => RefPost w fb R room (removeRes l clock q) e w' := by
  have kl := Lib.hid (reflook_calls h hw.rising hw.len p hp)
  rw [hq] at kl
  clear hq
  have kh := Lib.hid h
  unfold removeRes
  cases hr : lookQ l q with
  | root =>
    have kr := Lib.hid hr
    clear h hw hr
    go_enter Tryz.func43, Tryz.ntmps43
    go_wp2_with (go_at_call 63; refine (kl.out).mono ?_; rintro e w1 ⟨k, x, rfl, hl, hb⟩; have kb := Lib.hid hb; obtain ⟨rfl, rfl⟩ := rlook_root kr.out hl; clear hl hb)
    go_ret
    exact RefPost.same kh.out rfl rfl kb.out
  | err c =>
    have kr := Lib.hid hr
    clear h hw hr
    go_enter Tryz.func43, Tryz.ntmps43
    go_wp2_with (go_at_call 63; refine (kl.out).mono ?_; rintro e w1 ⟨k, x, rfl, hl, hb⟩; have kb := Lib.hid hb; obtain ⟨rfl, rfl, hc⟩ := rlook_err kr.out hl; obtain ⟨hc0, hc1⟩ := err_nz hc; clear hl hb hc)
    go_ret
    exact RefPost.same kh.out rfl rfl kb.out
  | none =>
    have kr := Lib.hid hr
    clear h hw hr
    go_enter Tryz.func43, Tryz.ntmps43
    go_wp2_with (go_at_call 63; refine (kl.out).mono ?_; rintro e w1 ⟨k, x, rfl, hl, hb⟩; have kb := Lib.hid hb; obtain ⟨rfl, rfl⟩ := rlook_none kr.out hl; clear hl hb)
    go_ret
    exact RefPost.same kh.out rfl rfl kb.out
  | node n =>
    have kr := Lib.hid hr
    have kw := Lib.hid hw
    have hclk := hw.clk
    have hll := hw.len
    have kbel := Lib.hid (below_iff hw (lookQ_find.2 n hr) (lookQ_valid (Or.inr ⟨n, hr⟩)).2.1)
    obtain ⟨fa, fc, hfv⟩ := h.form
    subst hfv
    clear h hw hr
    go_enter Tryz.func43, Tryz.ntmps43
    go_wp2_with (go_at_call 63; refine (kl.out).mono ?_; rintro e w1 ⟨k, x, rfl, hl, hb⟩; have kb := Lib.hid hb; obtain ⟨j, rfl, rfl, hj, hj0, hj1⟩ := rlook_node kr.out hl; have hj2 := nat_ne2 j; have kj := Lib.hid hj; clear hl hb hj)
    have kh1 := Lib.hid (kh.out.below kb.out)
    have hwc : IntKind.i64.wrap (clock + 1) = clock + 1 := IntWalk.i64_in _ (by omega)
    go_loopw [8] (fun iv wr => ∃ i : Nat, i ≤ l.length ∧ iv = .int .i64 i ∧ (∀ (k : Nat) (x : Bs × PN), k < i → l[k]? = some x → parentP x.1 ≠ q) ∧ Below w1.heap.size w1 wr) (fun iv _ => l.length - (intOf iv).toNat)
    case atStart => exact ⟨0, Nat.zero_le _, rfl, fun k x h => absurd h (Nat.not_lt_zero _), Below.refl _ _⟩
    case round =>
      obtain ⟨i, hi, rfl, hno, hB⟩ := hrel
      have kno := Lib.hid hno
      have kB := Lib.hid hB
      have kh2 := Lib.hid (kh1.out.below kB.out)
      obtain ⟨f0, f1, f2, ff⟩ := cells3 kh2.out.hc
      have ff1 := ff 1
      have hfl := heap_lt kh2.out.hc
      clear ff hno hB
      by_cases hlt : i < l.length
      · obtain ⟨y, hy⟩ : ∃ y, l[i]? = some y := ⟨_, List.getElem?_eq_getElem hlt⟩
        obtain ⟨bb, off, dv, hta, -, hbl, hd0, -, -, -, -⟩ := kh2.out.tree.at hy
        subst hta
        have ky := Lib.hid hy
        have hvl := valid_len (kw.out.node y.1 y.2 (kw.out.mem (List.mem_of_getElem? hy))).1
        have hP := Lib.hid (refParent_calls (mk y.1) wr (by rw [mk_size]; omega))
        rw [mk_list] at hP
        have z1 : (i : Int) < (l.length : Int) := by omega
        have z2 : (0 : Int) ≤ (i : Int) := by omega
        clear hy
        by_cases he : parentP y.1 = q
        · have kf := Lib.hid (show removeP l clock q n = (14, l, clock) by unfold removeP; rw [if_pos (kbel.out.2 ⟨y, List.mem_of_getElem? ky.out, he⟩)])
          rw [he] at hP
          clear he
          go_wp2_with (go_at_call 30; refine (hP.out).mono ?_; rintro e w3 ⟨rfl, hb3⟩; have kb3 := Lib.hid hb3; clear hb3)
          go_ret
          exact RefPost.same (r := removeP l clock q n) kh.out kf.out rfl ((kb.out.trans (kB.out.mono kb.out.size)).trans (kb3.out.mono (kb.out.trans (kB.out.mono kb.out.size)).size))
        · have hne := mk_ne he
          have kn := Lib.hid (show ∀ (k : Nat) (x : Bs × PN), k < i + 1 → l[k]? = some x → parentP x.1 ≠ q from fun k x hk hx => by
            by_cases e : k = i
            · subst e; rw [ky.out] at hx; injection hx with hx; subst hx; exact he
            · exact kno.out k x (by omega) hx)
          clear he
          go_wp2_with (go_at_call 30; refine (hP.out).mono ?_; rintro e w3 ⟨rfl, hb3⟩; have kb3 := Lib.hid hb3; clear hb3)
          go_roundw
          case rel => exact ⟨i + 1, by omega, by go_num, kn.out, kB.out.trans (kb3.out.mono kB.out.size)⟩
          case measure => simp [intOf]; omega
      · have z1 : ¬ (i : Int) < (l.length : Int) := by omega
        have kf := Lib.hid (show removeP l clock q n = (0, delSt l q, clock + 1) by
          unfold removeP
          rw [if_neg (fun e => by
            obtain ⟨y, hy, he⟩ := kbel.out.1 e
            obtain ⟨k, hk⟩ := List.getElem?_of_mem hy
            exact kno.out k y (by have := (List.getElem?_eq_some_iff.1 hk).1; omega) hk he)])
        have kt := Lib.hid (fun n => kh2.out.ticked n (clock + 1))
        have kdrop := Lib.hid (refdrop_calls (kt.out 0).1 (by omega) j (by omega))
        go_wp2_with (go_at_call 65; refine (kdrop.out).mono ?_; rintro e w4 ⟨rfl, fv', L', h2, hk2, -⟩; have kh4 := Lib.hid h2; have kk2 := Lib.hid hk2; clear h2 hk2)
        go_ret
        have hd := kh4.out
        rw [← del_at kw.out.rising kj.out] at hd
        exact RefPost.of (Below.kept (kb.out.trans (kB.out.mono kb.out.size)) (kt.out 0).2) hd kk2.out kf.out
end
end Go.Proofs.YtejofgdglpmlkaaGreatDoor
namespace Go.Proofs.YtejofgdglpmlkaaGreatDoor
open Go.RowKit

theorem nflat_set : ∀ (L : List NV) (j i : Nat) (x x' : NV) (v : Value), L[j]? = some x → i < 4 → x'.cells = x.cells.set i v → (nflat L).set (j * 4 + i) v = nflat (L.set j x')
  | [], j, i, x, x', v, h, _, _ => by simp at h
  | y :: L, 0, i, x, x', v, h, hi, hx => by
    simp at h; subst h
    rw [nflat, Nat.zero_mul, Nat.zero_add, List.set_append_left _ _ (by simp [NV.cells]; omega), ← hx, List.set_cons_zero, nflat]
  | y :: L, j + 1, i, x, x', v, h, hi, hx => by
    simp at h
    rw [nflat, List.set_append_right _ _ (by simp [NV.cells]; omega), List.set_cons_succ, nflat]
    have := nflat_set L j i x x' v h hi hx
    rw [← this]
    congr 2
    simp [NV.cells]; omega
theorem row_set {w : World} {g n c j i : Nat} {L : List NV} {x x' : NV} {v : Value} (h : w.ownsRow 0 54 4 (.slice (some ⟨g, 0, none⟩) n c) L.length (nflat L)) (hx : L[j]? = some x) (hi : i < 4) (hc : x'.cells = x.cells.set i v) :
    (w.setCell ⟨g, j * 4 + i, none⟩ v).ownsRow 0 54 4 (.slice (some ⟨g, 0, none⟩) n c) (L.set j x').length (nflat (L.set j x')) := by
  have hjl := (List.getElem?_eq_some_iff.1 hx).1
  rcases h.2 with ⟨e, _⟩ | ⟨g', cap, cur, e, hg, hh, h1, h2, h3, h4⟩
  · cases e
  · injection e with e1 e2 e3
    injection e1 with e1; injection e1 with e1
    subst e1 e2 e3
    rw [List.length_set]
    refine ⟨by rw [nflat_length, List.length_set], Or.inr ⟨g, c, cur.setIfInBounds (j * 4 + i) v, rfl, Nat.zero_le _, set_heap hh _ _, h1, h2, by rw [Array.size_setIfInBounds]; exact h3, ?_⟩⟩
    rw [Array.toList_setIfInBounds, ← nflat_set L j i x x' v hx hi hc, ← h4, List.take_set]
section
variable {w w' w1 : World} {fb : Nat} {fv fv' : Value} {L L' : List NV} {R R' : Nat → Prop} {l l' : St} {clock clock' room : Int} {p : ByteArray} {q : Bs}
theorem RefIn.cell {g n c j i : Nat} {x x' : NV} {v : Value} (h : RefIn w fb (.slice (some ⟨g, 0, none⟩) n c) L R l clock room) (hx : L[j]? = some x) (hi : i < 4) (hc : x'.cells = x.cells.set i v)
    (hd : BytesAt w x'.dv x'.n.data (fun k => R k ∧ k ≠ fb ∧ (Value.slice (some ⟨g, 0, none⟩) n c).ownBlock ≠ some k)) :
    RefIn (w.setCell ⟨g, j * 4 + i, none⟩ v) fb (.slice (some ⟨g, 0, none⟩) n c) (L.set j x') R (l.set j x'.nd) clock room ∧ Kept R w (w.setCell ⟨g, j * 4 + i, none⟩ v) := by
  have hg := h.own g rfl
  have hs := set_grown w g (j * 4 + i) v
  have far : ∀ k, R k → k ≠ g → (w.setCell ⟨g, j * 4 + i, none⟩ v).heap[k]? = w.heap[k]? := fun k hk hne => hs.block k (h.lt k hk) (fun e => hne (by injection e))
  have hdk : ∀ y : NV, BytesAt w y.dv y.n.data (fun k => R k ∧ k ≠ fb ∧ (Value.slice (some ⟨g, 0, none⟩) n c).ownBlock ≠ some k) → BytesAt (w.setCell ⟨g, j * 4 + i, none⟩ v) y.dv y.n.data (fun k => R k ∧ k ≠ fb ∧ (Value.slice (some ⟨g, 0, none⟩) n c).ownBlock ≠ some k) :=
    fun y hy => hy.of_heap (fun k hk => far k hk.1 (fun e => hk.2.2 (by rw [e]; rfl))) (fun _ h => h)
  refine ⟨⟨(far fb h.rf (fun e => hg.2 e.symm)).trans h.hc, h.rf, by rw [List.map_set, h.eq], row_set h.row hx hi hc, h.own, fun y hy => ?_, fun b hb => Nat.lt_of_lt_of_le (h.lt b hb) hs.size⟩, Kept.grown hs (fun k e => by injection e with e; exact e ▸ hg.1)⟩
  rcases List.mem_or_eq_of_mem_set hy with hy | rfl
  · exact hdk y (h.data y hy)
  · exact hdk _ hd
theorem RefIn.node {j : Nat} {y : Bs × PN} (h : RefIn w fb fv L R l clock room) (hj : l[j]? = some y) : ∃ (g c : Nat) (x : NV), fv = .slice (some ⟨g, 0, none⟩) l.length c ∧ L[j]? = some x ∧ x.nd = y ∧ g < w.heap.size ∧ (∀ o, w.frozen? ⟨g, o, none⟩ = false) ∧ (∀ i u, i < 4 → x.cells[i]? = some u → w.cell? ⟨g, j * 4 + i, none⟩ = some u) := by
  have hl : L.length = l.length := by rw [← h.eq, List.length_map]
  have hcell := fun g hg => h.row.cells (g := g) hg
  rw [← h.eq, List.getElem?_map] at hj
  obtain ⟨x, hx, e⟩ := Option.map_eq_some_iff.1 hj
  have hjl := (List.getElem?_eq_some_iff.1 hx).1
  rcases h.row.2 with ⟨_, hn⟩ | ⟨g, cap, cur, rfl, hg, hh, _⟩
  · omega
  · refine ⟨g, cap, x, by rw [hl], hx, e, heap_lt hh, fun o => by simp [World.frozen?, hh], fun i u hi hu => ?_⟩
    have := hcell g rfl _ _ ((nflat_get L j i x hx hi).trans hu)
    rw [addr_lit, Nat.zero_add] at this
    exact this
end
end Go.Proofs.YtejofgdglpmlkaaGreatDoor
namespace Go.Proofs.YtejofgdglpmlkaaGreatDoor
open Go.RowKit

section
variable {w w' w1 : World} {fb : Nat} {fv fv' : Value} {L L' : List NV} {R R' : Nat → Prop} {l l' : St} {clock clock' room : Int} {p : ByteArray} {q : Bs} {n : PN}
theorem RefPost.set {r : Int × St × Int} (hk : Kept R w w1) (h : RefIn w' fb fv' L' R l' clock' room) (hk' : Kept R w1 w') (hr : r = (0, l', clock')) : RefPost w fb R room r (.returned (.int .i64 0)) w' :=
  RefPost.of hk (h.mono (fun k hk => Or.inl hk) (fun k hk2 => hk2.elim (fun h2 => h.lt k h2) (fun h2 => h2.2))) hk' hr
set_option maxRecDepth 100000 in
set_option maxHeartbeats 4000000 in
theorem refTouch_node (h : RefIn w fb fv L R l clock room) (hw : Wf l clock room) (hp : p.size ≤ 2147483647) (hq : clean p.data.toList = q) (hr : lookQ l q = .node n) :
    Calls Tryz.prog 45 #[.pointer (some ⟨fb, 0, none⟩), .string p] w fun e w' => RefPost w fb R room (touchP l clock q n) e w' := by
  have kl := Lib.hid (reflook_calls h hw.rising hw.len p hp)
  rw [hq] at kl
  clear hq
  have kh := Lib.hid h
  have kr := Lib.hid hr
  have kw := Lib.hid hw
  have hclk := hw.clk
  have hll := hw.len
  obtain ⟨j, hj, hj0, hj1⟩ := find_get (lookQ_find.2 n hr)
  obtain ⟨g, c, x, rfl, hx, hxn, -⟩ := h.node hj
  have kj := Lib.hid hj
  have kx := Lib.hid hx
  clear h hw hr hj hx
  go_enter Tryz.func45, Tryz.ntmps45
  have hwc : IntKind.i64.wrap (clock + 1) = clock + 1 := IntWalk.i64_in _ (by omega)
  have hj2 := nat_ne2 j
  go_upto_region 8 with (go_at_call 63; refine (kl.out).mono ?_; rintro e w1 ⟨k, y, rfl, hl, hb⟩; have kb := Lib.hid hb; obtain ⟨j', rfl, rfl, hj', -, -⟩ := rlook_node kr.out hl; obtain rfl := st_index kw.out.rising kj.out hj'; clear hl hb hj')
  have kh1 := Lib.hid (kh.out.below kb.out)
  obtain ⟨f0, f1, f2, ff⟩ := cells3 kh1.out.hc
  have ff1 := ff 1
  have hfl := heap_lt kh1.out.hc
  have kt := Lib.hid (fun n => kh1.out.ticked n (clock + 1))
  go_upto_region 9 with (fail)
  have kW := Lib.hid (show RefIn (w1.setCell ⟨fb, 1, none⟩ (.int .i64 (clock + 1))) fb (.slice (some ⟨g, 0, none⟩) l.length c) L R l (clock + 1) room from (kt.out 0).1)
  have kK := Lib.hid (show Kept R w1 (w1.setCell ⟨fb, 1, none⟩ (.int .i64 (clock + 1))) from (kt.out 0).2)
  clear f0 f1 f2 ff ff1 hfl kt
  generalize w1.setCell ⟨fb, 1, none⟩ (.int .i64 (clock + 1)) = W at *
  obtain ⟨f0, f1, f2, -⟩ := cells3 kW.out.hc
  have hfl := heap_lt kW.out.hc
  obtain ⟨g', c', x', e, hx', -, hgl, hgf, hgc⟩ := kW.out.node kj.out
  injection e with e1 e2 e3; injection e1 with e1; injection e1 with e1
  subst e1 e3
  rw [kx.out] at hx'; injection hx' with hx'; subst hx'
  have hg2 := hgf (j * 4 + 2)
  have hgc2 := hgc 2 _ (by omega) rfl
  have kD := Lib.hid (fun m => ((kW.out.below (below_drewN' (Below.refl W.heap.size W) m)).cell kx.out (i := 2) (x' := NV.make q ⟨n.dir, clock + 1, n.data⟩ x.dv) (v := .int .i64 (clock + 1)) (by omega) (by
    obtain ⟨y1, y2, y3⟩ := x
    obtain ⟨rfl, rfl⟩ : y1 = q ∧ y2 = n := by injection hxn with e1 e2; exact ⟨e1, e2⟩
    rfl) (by
    have := (kW.out.below (below_drewN' (Below.refl W.heap.size W) m)).data x (List.mem_of_getElem? kx.out)
    obtain ⟨y1, y2, y3⟩ := x
    obtain ⟨rfl, rfl⟩ : y1 = q ∧ y2 = n := by injection hxn with e1 e2; exact ⟨e1, e2⟩
    exact this)))
  go_region
  go_wp2_with fail
  go_ret
  have hd := (kD.out 1).1
  rw [show (NV.make q ⟨n.dir, clock + 1, n.data⟩ x.dv).nd = (q, (⟨n.dir, clock + 1, n.data⟩ : PN)) from rfl, ← put_set kw.out.rising kj.out] at hd
  exact RefPost.set (Below.kept kb.out kK.out) hd (Below.kept (below_drewN' (Below.refl W.heap.size W) 1) (kD.out 1).2) rfl
end
end Go.Proofs.YtejofgdglpmlkaaGreatDoor
