/-
  Same of two trees. Conditions: at most 2^40 nodes.
  A file system and the reference's, side by side: what a call of both leaves. Conditions: a tree that is right.
-/
import Derived.Test.YtejofgdglpmlkaaGreatDoorM06
import Derived.Test.YtejofgdglpmlkaaGreatDoorM09
import Derived.Test.YtejofgdglpmlkaaGreatDoorM26
import Derived.Test.YtejofgdglpmlkaaGreatDoorM35
namespace Go.Proofs.YtejofgdglpmlkaaGreatDoor
open Go.RowKit

set_option maxRecDepth 100000 in
theorem bytes_str {w : World} {v : Value} {d : Bs} {S : Nat → Prop} (h : BytesAt w v d S) : (convert 41 9 v).run Tryz.prog w = .ok (.string (mk d)) w := by
  obtain ⟨a, c, rfl, h1, h2, h3, h4⟩ := h
  cases a with
  | none =>
    obtain rfl : c = 0 := h3 rfl
    obtain rfl : d = [] := List.length_eq_zero_iff.1 (by omega)
    exact run_convert_bytes_nil w 41 5 Tryz.underlying41 Tryz.underlying5 0 0 9 Tryz.underlying9
  | some ad =>
    cases d with
    | nil =>
      have hl : (loadCells ad 0).run Tryz.prog w = .ok (([] : List Int).map (Value.int .u8)).toArray w := by simp [loadCells, loadCellsFrom]
      rw [run_convert_bytes_string w 41 9 5 _ _ c Tryz.underlying41 Tryz.underlying5 Tryz.underlying9]
      have := run_bytesToString (P := Tryz.prog) w ad 0 c [] hl
      rw [show (([] : Bs).length) = 0 from rfl, this]; rfl
    | cons y r =>
      obtain ⟨b, off, e, hs, hb, hc⟩ := h4 (by simp)
      injection e with e; subst e
      have := run_convert_bytes_arg (P := Tryz.prog) w 41 5 Tryz.underlying41 Tryz.underlying5 b off (y :: r).length c ((y :: r).map fun x => (x.toNat : Int)) (by simp) (fun i hi => by
        rw [hc i _ (List.getElem?_eq_getElem hi)]
        congr 2
        rw [List.getD, List.getElem?_map, List.getElem?_eq_getElem hi]; rfl) 9 Tryz.underlying9
      rw [this]
      congr 2
      apply ba_ext
      rw [strOfNums_data, mk_list, List.map_map]
      exact (List.map_congr_left (fun x _ => by simp)).trans (List.map_id _)
def sameN (x y : Bs × PN) : Bool := decide (x.1 = y.1) && (x.2.dir == y.2.dir) && decide (x.2.time = y.2.time) && decide (x.2.data = y.2.data)
def sameL : St → St → Bool
  | [], [] => true
  | x :: r, y :: s => sameN x y && sameL r s
  | _, _ => false
theorem sameN_refl (x : Bs × PN) : sameN x x = true := by unfold sameN; simp
theorem sameL_refl : ∀ l : St, sameL l l = true
  | [] => rfl
  | x :: r => by rw [sameL, sameN_refl, sameL_refl r]; rfl
theorem sameN_eq {x y : Bs × PN} (h : sameN x y = true) : x = y := by
  unfold sameN at h
  simp only [Bool.and_eq_true, decide_eq_true_eq, beq_iff_eq] at h
  obtain ⟨⟨⟨h1, h2⟩, h3⟩, h4⟩ := h
  obtain ⟨p, d, t, b⟩ := x
  obtain ⟨p', d', t', b'⟩ := y
  dsimp only at h1 h2 h3 h4
  rw [h1, h2, h3, h4]
theorem sameL_eq : ∀ {l m : St}, sameL l m = true → l = m
  | [], [], _ => rfl
  | x :: r, y :: s, h => by
    rw [sameL, Bool.and_eq_true] at h
    rw [sameN_eq h.1, sameL_eq h.2]
  | [], y :: s, h => by cases h
  | x :: r, [], h => by cases h
theorem sameL_len : ∀ {l m : St}, sameL l m = true → l.length = m.length := fun h => by rw [sameL_eq h]
theorem sameL_drop {l m : St} {k : Nat} {x y : Bs × PN} (hx : l[k]? = some x) (hy : m[k]? = some y) : sameL (l.drop k) (m.drop k) = (sameN x y && sameL (l.drop (k + 1)) (m.drop (k + 1))) := by rw [getElem_split hx, getElem_split hy, sameL]
def sameT (l m : St) (c1 r1 c2 r2 : Int) : Bool := decide (c1 = c2) && decide (r1 = r2) && sameL l m
theorem mk_str_ne {a b : Bs} (h : a ≠ b) : ¬ (mk a).toList = (mk b).toList := fun e => h (mk_inj (ba_eq_iff.1 e))

/-- Two boxes of trees, and what has come behind them. -/
structure TwoB (w : World) (v1 v2 : Value) (c r : Int) (wr : World) : Prop where make ::
  b1 : wr.heap[w.heap.size]? = some (.cells #[v1, .int .i64 c, .int .i64 r] 24 (0, 0))
  b2 : wr.heap[w.heap.size + 1]? = some (.cells #[v2, .int .i64 c, .int .i64 r] 24 (0, 0))
  below : Below w.heap.size w wr
theorem TwoB.start (w : World) (v1 v2 : Value) (c r : Int) : TwoB w v1 v2 c r ((w.alloc (.cells #[v1, .int .i64 c, .int .i64 r] 24)).alloc (.cells #[v2, .int .i64 c, .int .i64 r] 24)) := by
  refine ⟨(heap_alloc_old (w.alloc _) _ (by simp)).trans (heap_alloc_new w _), ?_, below_al (below_al (Below.refl _ _))⟩
  have := heap_alloc_new (w.alloc (.cells #[v1, .int .i64 c, .int .i64 r] 24)) (.cells #[v2, .int .i64 c, .int .i64 r] 24)
  have e : (w.alloc (.cells #[v1, .int .i64 c, .int .i64 r] 24)).heap.size = w.heap.size + 1 := by simp
  rw [e] at this
  exact this
theorem TwoB.on {w wr w2 : World} {v1 v2 : Value} {c r : Int} (h : TwoB w v1 v2 c r wr) (hb : Below wr.heap.size wr w2) : TwoB w v1 v2 c r w2 :=
  ⟨(hb.block _ (heap_lt h.b1)).trans h.b1, (hb.block _ (heap_lt h.b2)).trans h.b2, h.below.trans (hb.mono h.below.size)⟩
theorem TwoB.cells {w wr : World} {v1 v2 : Value} {c r : Int} (h : TwoB w v1 v2 c r wr) : wr.cell? ⟨w.heap.size, 0, none⟩ = some v1 ∧ wr.cell? ⟨w.heap.size, 1, none⟩ = some (.int .i64 c) ∧ wr.cell? ⟨w.heap.size, 2, none⟩ = some (.int .i64 r) ∧ wr.cell? ⟨w.heap.size + 1, 0, none⟩ = some v2 ∧ wr.cell? ⟨w.heap.size + 1, 1, none⟩ = some (.int .i64 c) ∧ wr.cell? ⟨w.heap.size + 1, 2, none⟩ = some (.int .i64 r) ∧ w.heap.size + 1 < wr.heap.size := by
  obtain ⟨a, b, c, _⟩ := cells3 h.b1
  obtain ⟨d, e, f, _⟩ := cells3 h.b2
  exact ⟨a, b, c, d, e, f, heap_lt h.b2⟩
section
variable {l m : St} {c1 r1 c2 r2 : Int} {n1 n2 : Value} {T1 T2 : Nat → Prop} {w : World}
set_option maxRecDepth 100000 in
set_option maxHeartbeats 8000000 in
theorem same_calls (h1 : TreeAt w n1 l T1) (h2 : TreeAt w n2 m T2) (hT1 : ∀ k, T1 k → k < w.heap.size) (hT2 : ∀ k, T2 k → k < w.heap.size) (hl : l.length ≤ 1099511627775) :
    Calls Tryz.prog 15 #[.agg #[n1, .int .i64 c1, .int .i64 r1], .agg #[n2, .int .i64 c2, .int .i64 r2]] w fun e w' => e = .returned (.bool (sameT l m c1 r1 c2 r2)) ∧ Below w.heap.size w w' := by
  obtain ⟨a1, k1, e1⟩ := h1.form
  obtain ⟨a2, k2, e2⟩ := h2.form
  subst e1 e2
  have kh1 := Lib.hid h1
  have kh2 := Lib.hid h2
  have kT1 := Lib.hid hT1
  have kT2 := Lib.hid hT2
  have hneg : ∀ b : Bool, sameT l m c1 r1 c2 r2 = b → sameT l m c1 r1 c2 r2 = b := fun _ h => h
  clear h1 h2 hT1 hT2
  by_cases g1 : c1 = c2
  · by_cases g2 : r1 = r2
    · by_cases g3 : l.length = m.length
      · subst g1 g2
        have kg := Lib.hid (show sameT l m c1 r1 c1 r1 = sameL l m by unfold sameT; simp)
        have kml := Lib.hid g3.symm
        rw [← g3]
        clear g3 hneg
        go_enter Tryz.func15, Tryz.ntmps15
        go_wp2
        have kB0 := Lib.hid (TwoB.start w (.slice a1 l.length k1) (.slice a2 l.length k2) c1 r1)
        go_loopw [5] (fun iv wr => ∃ k : Nat, k ≤ l.length ∧ iv = .int .i64 k ∧ sameL l m = sameL (l.drop k) (m.drop k) ∧ TwoB w (.slice a1 l.length k1) (.slice a2 l.length k2) c1 r1 wr) (fun iv _ => l.length - (intOf iv).toNat)
        case atStart => exact ⟨0, Nat.zero_le _, rfl, rfl, kB0.out⟩
        case round =>
          obtain ⟨k, hk, rfl, hsm, hB⟩ := hrel
          have ksm := Lib.hid hsm
          have kB := Lib.hid hB
          obtain ⟨b00, b01, b02, b10, b11, b12, bl⟩ := hB.cells
          clear hsm hB b01 b02 b11 b12
          by_cases hlt : k < l.length
          · obtain ⟨x, hx⟩ : ∃ x, l[k]? = some x := ⟨_, List.getElem?_eq_getElem hlt⟩
            obtain ⟨y, hy⟩ : ∃ y, m[k]? = some y := ⟨_, List.getElem?_eq_getElem (by have := kml.out; omega)⟩
            obtain ⟨b1, o1, d1, e1, -, hl1, p0, p1, p2, p3, hd1⟩ := (kh1.out.of_heap (T' := T1) (fun j hj => kB.out.below.block j (kT1.out j hj)) (fun _ h => h)).at hx
            obtain ⟨b2, o2, d2, e2, -, hl2, q0, q1, q2, q3, hd2⟩ := (kh2.out.of_heap (T' := T2) (fun j hj => kB.out.below.block j (kT2.out j hj)) (fun _ h => h)).at hy
            subst e1 e2
            have kdrop := Lib.hid (sameL_drop hx hy)
            obtain ⟨da1, dc1, f1⟩ := hd1.form
            obtain ⟨da2, dc2, f2⟩ := hd2.form
            subst f1 f2
            have ky1 := Lib.hid hd1
            have ky2 := Lib.hid hd2
            clear hx hy hd1 hd2
            have kBn := Lib.hid (fun (A B : Obj) => (kB.out.on (below_al (below_al (Below.refl _ _)) : Below wr.heap.size wr ((wr.alloc A).alloc B))))
            by_cases g4 : sameN x y = true
            · obtain rfl : x = y := sameN_eq g4
              have hcv1 := bytes_str (ky1.out.of_heap (w' := (wr.alloc (.cells #[.string (mk x.1), .bool x.2.dir, .int .i64 x.2.time, .slice da1 x.2.data.length dc1] 54)).alloc (.cells #[.string (mk x.1), .bool x.2.dir, .int .i64 x.2.time, .slice da2 x.2.data.length dc2] 54)) (fun j hj => by
                have := kT1.out j hj; have := kB.out.below.size
                rw [heap_alloc_old _ _ (by simp; omega), heap_alloc_old _ _ (by omega)]) (fun _ h => h))
              have hcv2 := bytes_str (ky2.out.of_heap (w' := (wr.alloc (.cells #[.string (mk x.1), .bool x.2.dir, .int .i64 x.2.time, .slice da1 x.2.data.length dc1] 54)).alloc (.cells #[.string (mk x.1), .bool x.2.dir, .int .i64 x.2.time, .slice da2 x.2.data.length dc2] 54)) (fun j hj => by
                have := kT2.out j hj; have := kB.out.below.size
                rw [heap_alloc_old _ _ (by simp; omega), heap_alloc_old _ _ (by omega)]) (fun _ h => h))
              go_wp2
              exact ⟨⟨k + 1, by omega, by go_num, by rw [ksm.out, kdrop.out, g4]; rfl, kBn.out _ _⟩, by simp [intOf]; omega⟩
            · have kf := Lib.hid (show sameT l m c1 r1 c1 r1 = false by rw [kg.out, ksm.out, kdrop.out]; simp [g4])
              by_cases q4 : x.1 = y.1
              · by_cases q5 : x.2.dir = y.2.dir
                · by_cases q6 : x.2.time = y.2.time
                  · have q7 : ((mk x.2.data).toList == (mk y.2.data).toList) = false := ba_ne (fun q7' => (fun q7 => g4 (by unfold sameN; rw [q4, q5, q6, q7]; simp)) (mk_inj q7'))
                    have hcv1 := bytes_str (ky1.out.of_heap (w' := (wr.alloc (.cells #[.string (mk y.1), .bool y.2.dir, .int .i64 y.2.time, .slice da1 x.2.data.length dc1] 54)).alloc (.cells #[.string (mk y.1), .bool y.2.dir, .int .i64 y.2.time, .slice da2 y.2.data.length dc2] 54)) (fun j hj => by
                      have := kT1.out j hj; have := kB.out.below.size
                      rw [heap_alloc_old _ _ (by simp; omega), heap_alloc_old _ _ (by omega)]) (fun _ h => h))
                    have hcv2 := bytes_str (ky2.out.of_heap (w' := (wr.alloc (.cells #[.string (mk y.1), .bool y.2.dir, .int .i64 y.2.time, .slice da1 x.2.data.length dc1] 54)).alloc (.cells #[.string (mk y.1), .bool y.2.dir, .int .i64 y.2.time, .slice da2 y.2.data.length dc2] 54)) (fun j hj => by
                      have := kT2.out j hj; have := kB.out.below.size
                      rw [heap_alloc_old _ _ (by simp; omega), heap_alloc_old _ _ (by omega)]) (fun _ h => h))
                    rw [q4] at p0
                    rw [q5] at p1
                    rw [q6] at p2
                    clear q4 q5 q6 g4
                    go_wp2
                    go_ret
                    exact ⟨by rw [kf.out]; rfl, (kBn.out _ _).below⟩
                  · rw [q4] at p0
                    rw [q5] at p1
                    clear q4 q5 g4
                    go_wp2
                    go_ret
                    exact ⟨by rw [kf.out]; rfl, (kBn.out _ _).below⟩
                · rw [q4] at p0
                  clear q4 g4
                  have q5' : (x.2.dir != y.2.dir) = true := by simpa using q5
                  go_wp2
                  go_ret
                  exact ⟨by rw [kf.out]; rfl, (kBn.out _ _).below⟩
              · have q4' := mk_str_ne q4
                clear q4 g4
                go_wp2
                go_ret
                exact ⟨by rw [kf.out]; rfl, (kBn.out _ _).below⟩
          · have hkl : k = l.length := by omega
            subst hkl
            have kf := Lib.hid (show sameT l m c1 r1 c1 r1 = true by
              rw [kg.out, ksm.out, List.drop_length, show m.drop l.length = [] by rw [← kml.out, List.drop_length]]; rfl)
            have kbb := Lib.hid kB.out.below
            go_wp2
            go_ret
            exact ⟨by rw [kf.out]; rfl, kbb.out⟩
      · have kf := Lib.hid (show sameT l m c1 r1 c2 r2 = false by
          unfold sameT
          have : sameL l m = false := by rw [← Bool.not_eq_true]; exact fun h => g3 (sameL_len h)
          rw [this]; simp)
        have g3' : ¬ (l.length : Int) = m.length := by omega
        clear g3
        go_enter Tryz.func15, Tryz.ntmps15
        go_wp2
        all_goals first
          | (go_ret; exact ⟨by rw [kf.out]; rfl, below_al (below_al (Below.refl _ _))⟩)
          | omega
    · have kf := Lib.hid (show sameT l m c1 r1 c2 r2 = false by unfold sameT; simp [g2])
      go_enter Tryz.func15, Tryz.ntmps15
      go_wp2
      go_ret
      exact ⟨by rw [kf.out]; rfl, below_al (below_al (Below.refl _ _))⟩
  · have kf := Lib.hid (show sameT l m c1 r1 c2 r2 = false by unfold sameT; simp [g1])
    go_enter Tryz.func15, Tryz.ntmps15
    go_wp2
    go_ret
    exact ⟨by rw [kf.out]; rfl, below_al (below_al (Below.refl _ _))⟩
end
end Go.Proofs.YtejofgdglpmlkaaGreatDoor
namespace Go.Proofs.YtejofgdglpmlkaaGreatDoor
open Go.RowKit

def Both (w : World) (f fb : Nat) (S R : Nat → Prop) (st : St) (clock room : Int) : Prop := FsAt w f S st clock room ∧ RefAt w fb R st clock room ∧ ∀ k, S k → ¬ R k
def BothPost (w : World) (f fb : Nat) (S R : Nat → Prop) (room : Int) (r : Res) (w' : World) : Prop :=
  ∃ S' R', Both w' f fb S' R' r.2.1 r.2.2 room ∧ (∀ k, S' k → S k ∨ w.heap.size ≤ k) ∧ (∀ k, R' k → R k ∨ w.heap.size ≤ k) ∧ Kept (fun k => S k ∨ R k) w w'
section
variable {w w' w1 w2 : World} {f fb : Nat} {S R S' R' : Nat → Prop} {st : St} {clock room : Int} {r : Res} {e e' : Ending}
theorem FsAt.ltS (h : FsAt w f S st clock room) : ∀ k, S k → k < w.heap.size := by
  obtain ⟨mb, N, h⟩ := h
  exact h.lt
theorem RefAt.ltR (h : RefAt w fb R st clock room) : ∀ k, R k → k < w.heap.size := by
  obtain ⟨fv, L, h⟩ := h
  exact h.lt
theorem FsAt.same (h : FsAt w f S st clock room) (he : ∀ k, S k → w'.heap[k]? = w.heap[k]?) : FsAt w' f S st clock room := by
  obtain ⟨mb, N, h⟩ := h
  exact ⟨mb, N, h.of_heap he⟩
theorem RefAt.same (h : RefAt w fb R st clock room) (he : ∀ k, R k → w'.heap[k]? = w.heap[k]?) : RefAt w' fb R st clock room := by
  obtain ⟨fv, L, h⟩ := h
  exact ⟨fv, L, h.same he⟩
theorem Both.lt (h : Both w f fb S R st clock room) : ∀ k, S k ∨ R k → k < w.heap.size := fun k hk => hk.elim (h.1.ltS k) (h.2.1.ltR k)
theorem Both.same (h : Both w f fb S R st clock room) (he : ∀ k, S k ∨ R k → w'.heap[k]? = w.heap[k]?) : Both w' f fb S R st clock room :=
  ⟨h.1.same fun k hk => he k (Or.inl hk), h.2.1.same fun k hk => he k (Or.inr hk), h.2.2⟩
theorem Both.below (h : Both w f fb S R st clock room) (hb : Below w.heap.size w w') : Both w' f fb S R st clock room := h.same fun k hk => hb.block k (h.lt k hk)
theorem BothPost.stay (h : Both w f fb S R st clock room) (hb : Below w.heap.size w w') {c : Int} : BothPost w f fb S R room (c, st, clock) w' :=
  ⟨S, R, h.below hb, fun k hk => Or.inl hk, fun k hk => Or.inl hk, Kept.of_below hb⟩
theorem OpPost.far (h : OpPost w f S room r e w') {k : Nat} (hk : k < w.heap.size) (hn : ¬ S k) : w'.heap[k]? = w.heap[k]? := by
  obtain ⟨-, S', -, -, hK⟩ := h
  exact hK.block k hk hn
theorem OpPost.size (h : OpPost w f S room r e w') : w.heap.size ≤ w'.heap.size := by
  obtain ⟨-, S', -, -, hK⟩ := h
  exact hK.size
theorem below_drew (w : World) : Below w.heap.size w w.drew := ⟨rfl, rfl, rfl, Nat.le_refl _, fun _ _ => rfl⟩
theorem OpPost.after (h : OpPost w1 f S room r e w') (hb : Below w.heap.size w w1) : OpPost w f S room r e w' := by
  obtain ⟨h1, S', h2, h3, h4⟩ := h
  have z := hb.size
  exact ⟨h1, S', h2, fun k hk => (h3 k hk).imp id (fun h => by omega), Below.kept hb h4⟩
/-- The program's call, then the reference's. -/
theorem BothPost.of (h : Both w f fb S R st clock room) (h1 : OpPost w f S room r e w1) (h2 : RefPost w1 fb R room r e' w2) : BothPost w f fb S R room r w2 := by
  obtain ⟨-, S', hF, hS, hK⟩ := h1
  obtain ⟨-, hR, hK2⟩ := h2
  have hl := h.lt
  have z1 := hK.size
  have z2 := hK2.size
  have hS1 := hF.ltS
  have hd : ∀ k, S' k → ¬ R k := fun k hk hr => by
    rcases hS k hk with h3 | h3
    · exact h.2.2 k h3 hr
    · have := hl k (Or.inr hr); omega
  refine ⟨S', _, ⟨hF.same fun k hk => hK2.block k (hS1 k hk) (hd k hk), hR, fun k hk hr => hr.elim (hd k hk) (fun hr => by have := hS1 k hk; omega)⟩, hS, fun k hk => hk.imp id (fun h3 => by omega), ?_⟩
  exact ⟨hK2.os.trans hK.os, hK2.tape.trans hK.tape, hK2.output.trans hK.output, Nat.le_trans z1 z2, fun k hk hn => (hK2.block k (by omega) (fun h3 => hn (Or.inr h3))).trans (hK.block k hk (fun h3 => hn (Or.inl h3)))⟩
theorem BothPost.after (h : BothPost w1 f fb S R room r w') (hb : Below w.heap.size w w1) : BothPost w f fb S R room r w' := by
  obtain ⟨S', R', h1, h2, h3, h4⟩ := h
  have z := hb.size
  exact ⟨S', R', h1, fun k hk => (h2 k hk).imp id (fun h => by omega), fun k hk => (h3 k hk).imp id (fun h => by omega), Below.kept hb h4⟩
/-- Behind it, blocks of the caller's own are written. -/
theorem BothPost.close {w6 w9 : World} {T : Nat → Prop} (hb : Below w.heap.size w w6) (h : BothPost w6 f fb S R room r w9) (hk : Kept T w9 w') (hT : ∀ k, T k → w.heap.size ≤ k ∧ k < w6.heap.size) (hl : ∀ k, S k ∨ R k → k < w.heap.size) : BothPost w f fb S R room r w' := by
  obtain ⟨S', R', h1, h2, h3, h4⟩ := h
  have z := hb.size
  have z4 := h4.size
  have z5 := hk.size
  have hd : ∀ k, S' k ∨ R' k → ¬ T k := fun k hk' e => by
    have ht := hT k e
    rcases hk' with h5 | h5
    · rcases h2 k h5 with h6 | h6
      · have := hl k (Or.inl h6); omega
      · omega
    · rcases h3 k h5 with h6 | h6
      · have := hl k (Or.inr h6); omega
      · omega
  refine ⟨S', R', h1.same fun k hk' => hk.block k (h1.lt k hk') (hd k hk'), fun k hk => (h2 k hk).imp id (fun h => by omega), fun k hk => (h3 k hk).imp id (fun h => by omega), ⟨hk.os.trans (h4.os.trans hb.os), hk.tape.trans (h4.tape.trans hb.tape), hk.output.trans (h4.output.trans hb.output), by omega, fun k hk' hn => (hk.block k (by omega) (fun ht => by have := hT k ht; omega)).trans ((h4.block k (by omega) hn).trans (hb.block k hk'))⟩⟩
end
/-- What a call of change answers, and leaves. -/
def chRes (st : St) (clock room : Int) (x : OpD) : Res :=
  if x.kind.tmod 9 = 0 then writeRes st clock room (clean x.p) x.b false
  else if x.kind.tmod 9 = 1 then writeRes st clock room (clean x.p) x.b true
  else if x.kind.tmod 9 = 2 then mkdirRes st clock room (clean x.p)
  else if x.kind.tmod 9 = 3 then removeRes st clock (clean x.p)
  else if x.kind.tmod 9 = 4 then renameRes st clock (clean x.p) (clean x.q)
  else if x.kind.tmod 9 = 5 then touchRes st clock room (clean x.p)
  else (0, st, clock)
theorem chRes_step (st : St) (clock room : Int) (x : OpD) : Step st clock room (chRes st clock room x) := by
  unfold chRes
  repeat' split
  · exact writeRes_step _ _ _
  · exact writeRes_step _ _ _
  · exact mkdirRes_step _
  · exact removeRes_step _
  · exact renameRes_step _ _
  · exact touchRes_step _
  · exact Step.stay rfl
end Go.Proofs.YtejofgdglpmlkaaGreatDoor
