/-
  Calls handed in, in memory; Much of them. Conditions: texts of at most 2^47 bytes, at most 2^42 calls.
-/
import Derived.Test.YtejofgdglpmlkaaGreatDoorVBig
namespace Go.Proofs.YtejofgdglpmlkaaGreatDoor
open Go.RowKit

/-- A call: its kind, its paths, its bytes. -/
structure OpD where make ::
  kind : Int
  p : Bs
  q : Bs
  b : Bs
def OpsAt (w : World) (v : Value) (l : List OpD) (T : Nat → Prop) : Prop :=
  ∃ a c, v = .slice a l.length c ∧ l.length ≤ c ∧ c ≤ maxLen ∧ (a = none → c = 0) ∧ (0 < l.length → ∃ b off, a = some ⟨b, off, none⟩ ∧ T b ∧ b < w.heap.size ∧
    ∀ (k : Nat) (x : OpD), l[k]? = some x → ∃ dv, w.cell? ⟨b, off + k * 4, none⟩ = some (.int .i64 x.kind) ∧ w.cell? ⟨b, off + k * 4 + 1, none⟩ = some (.string (mk x.p)) ∧ w.cell? ⟨b, off + k * 4 + 2, none⟩ = some (.string (mk x.q)) ∧ w.cell? ⟨b, off + k * 4 + 3, none⟩ = some dv ∧ BytesAt w dv x.b T)
theorem OpsAt.nil (w : World) (T : Nat → Prop) : OpsAt w (.slice none 0 0) [] T := ⟨none, 0, rfl, Nat.le_refl _, Nat.zero_le _, fun _ => rfl, fun h => absurd h (Nat.lt_irrefl _)⟩
theorem OpsAt.of_heap {w w' : World} {v : Value} {l : List OpD} {T T' : Nat → Prop} (h : OpsAt w v l T) (he : ∀ k, T k → w'.heap[k]? = w.heap[k]?) (hT : ∀ k, T k → T' k) : OpsAt w' v l T' := by
  obtain ⟨a, c, h1, h2, h3, h3', h4⟩ := h
  refine ⟨a, c, h1, h2, h3, h3', fun h0 => ?_⟩
  obtain ⟨b, off, e1, e2, e3, e4⟩ := h4 h0
  refine ⟨b, off, e1, hT _ e2, lt_of_heap e3 (he b e2), fun k x hk => ?_⟩
  obtain ⟨dv, g0, g1, g2, g3, g4⟩ := e4 k x hk
  have hc : ∀ o, w'.cell? ⟨b, o, none⟩ = w.cell? ⟨b, o, none⟩ := fun o => World.cell?_of_block (a := ⟨b, o, none⟩) (he b e2)
  exact ⟨dv, (hc _).trans g0, (hc _).trans g1, (hc _).trans g2, (hc _).trans g3, g4.of_heap he hT⟩
theorem OpsAt.form {w : World} {v : Value} {l : List OpD} {T : Nat → Prop} (h : OpsAt w v l T) : ∃ a c, v = .slice a l.length c := by
  obtain ⟨a, c, h1, _⟩ := h; exact ⟨a, c, h1⟩
theorem OpsAt.at {w : World} {a : Option Addr} {n c : Nat} {l : List OpD} {T : Nat → Prop} (h : OpsAt w (.slice a n c) l T) {k : Nat} {x : OpD} (hk : l[k]? = some x) :
    ∃ b off dv, a = some ⟨b, off, none⟩ ∧ T b ∧ b < w.heap.size ∧ w.cell? ⟨b, off + k * 4, none⟩ = some (.int .i64 x.kind) ∧ w.cell? ⟨b, off + k * 4 + 1, none⟩ = some (.string (mk x.p)) ∧ w.cell? ⟨b, off + k * 4 + 2, none⟩ = some (.string (mk x.q)) ∧ w.cell? ⟨b, off + k * 4 + 3, none⟩ = some dv ∧ BytesAt w dv x.b T := by
  obtain ⟨a', c', h1, h2, h3, h3', h4⟩ := h
  injection h1 with e1 e2 e3
  subst e1
  obtain ⟨b, off, g1, g2, g3, g4⟩ := h4 (by have := (List.getElem?_eq_some_iff.1 hk).1; omega)
  obtain ⟨dv, g⟩ := g4 k x hk
  exact ⟨b, off, dv, g1, g2, g3, g⟩
def totO : List OpD → Nat
  | [] => 0
  | x :: r => 1 + x.p.length + x.q.length + x.b.length + totO r
theorem totO_append : ∀ (a b : List OpD), totO (a ++ b) = totO a + totO b
  | [], b => by simp [totO]
  | x :: a, b => by rw [List.cons_append, totO, totO, totO_append a b]; omega
theorem totO_take {l : List OpD} {k : Nat} {x : OpD} (h : l[k]? = some x) : totO (l.take (k + 1)) = totO (l.take k) + (1 + x.p.length + x.q.length + x.b.length) := by
  rw [take_more h, totO_append]; simp [totO]
theorem totO_mem {l : List OpD} {x : OpD} (h : x ∈ l) : 1 + x.p.length + x.q.length + x.b.length ≤ totO l := by
  induction l with
  | nil => cases h
  | cons y r ih =>
    rw [totO]
    rcases List.mem_cons.1 h with rfl | h
    · omega
    · have := ih h; omega
theorem totO_le (l : List OpD) (k : Nat) : totO (l.take k) ≤ totO l := by
  have := totO_append (l.take k) (l.drop k)
  rw [List.take_append_drop] at this
  omega
def muchB (l : List OpD) : Bool := decide (200000 < totO l) || decide (200 < l.length)
theorem muchB_not {l : List OpD} (h : muchB l = false) : totO l ≤ 200000 ∧ l.length ≤ 200 := by
  unfold muchB at h
  simp only [Bool.or_eq_false_iff, decide_eq_false_iff_not] at h
  omega
section
variable {l : List OpD} {v : Value} {T : Nat → Prop} {w : World}
set_option maxRecDepth 100000 in
set_option maxHeartbeats 4000000 in
theorem much_calls (ht : OpsAt w v l T) (hT : ∀ k, T k → k < w.heap.size) (hp : ∀ x ∈ l, x.p.length ≤ 140737488355328 ∧ x.q.length ≤ 140737488355328 ∧ x.b.length ≤ 140737488355328) (hl : l.length ≤ 4398046511104) :
    Calls Tryz.prog 16 #[v] w fun e w' => e = .returned (.bool (muchB l)) ∧ Below w.heap.size w w' := by
  obtain ⟨ta, tc, hnv⟩ := ht.form
  subst hnv
  have kt := Lib.hid ht
  have kT := Lib.hid hT
  have kp := Lib.hid hp
  clear ht hT hp
  go_enter Tryz.func16, Tryz.ntmps16
  go_wp2
  go_loopw [3, 4] (fun mv iv wr => ∃ k : Nat, k ≤ l.length ∧ iv = .int .i64 k ∧ mv = .int .i64 (totO (l.take k) : Nat) ∧ totO (l.take k) ≤ 600000000000000 ∧ Below w.heap.size w wr) (fun _ iv _ => l.length - (intOf iv).toNat)
  case atStart => exact ⟨0, Nat.zero_le _, rfl, rfl, by simp [totO], Below.refl _ _⟩
  case round =>
    obtain ⟨k, hk, rfl, rfl, htot, hB⟩ := hrel
    have kB := Lib.hid hB
    clear hB
    by_cases hlt : k < l.length
    · by_cases hsm : totO (l.take k) ≤ 200000
      · obtain ⟨x, hx⟩ : ∃ x, l[k]? = some x := ⟨_, List.getElem?_eq_getElem hlt⟩
        have kx := Lib.hid hx
        obtain ⟨b, off, dv, hta, hTb, hbl, hc0, hc1, hc2, hc3, hdv⟩ := (kt.out.of_heap (w' := wr) (T' := T) (fun j hj => kB.out.block j (kT.out j hj)) (fun _ h => h)).at hx
        obtain ⟨da, dc, hdf⟩ := hdv.form
        subst hta hdf
        clear hTb hdv hx hc0
        have hpx := kp.out x (List.mem_of_getElem? kx.out)
        have hms : (mk x.p).size = x.p.length := mk_size x.p
        have hms2 : (mk x.q).size = x.q.length := mk_size x.q
        have htk := totO_take kx.out
        generalize totO (l.take k) = t0 at *
        have s1 : IntKind.i64.wrap ((t0 : Int) + 1) = (t0 : Int) + 1 := IntWalk.i64_in _ (by omega)
        have s2 : IntKind.i64.wrap ((t0 : Int) + 1 + x.p.length) = (t0 : Int) + 1 + x.p.length := IntWalk.i64_in _ (by omega)
        have s3 : IntKind.i64.wrap ((t0 : Int) + 1 + x.p.length + x.q.length) = (t0 : Int) + 1 + x.p.length + x.q.length := IntWalk.i64_in _ (by omega)
        have s4 : IntKind.i64.wrap ((t0 : Int) + 1 + x.p.length + x.q.length + x.b.length) = (t0 : Int) + 1 + x.p.length + x.q.length + x.b.length := IntWalk.i64_in _ (by omega)
        go_wp2_with fail
        go_quiet (fail)
        go_wp2
        clear s1 s2 s3 s4
        exact ⟨⟨k + 1, by omega, by go_num, by rw [htk]; congr 1; omega, by rw [htk]; omega, kB.out.trans ((below_drewN' (Below.refl wr.heap.size wr) nq).mono kB.out.size)⟩, by simp [intOf]; omega⟩
      · have kf := Lib.hid (show muchB l = true by have := totO_le l k; unfold muchB; rw [decide_eq_true (by omega)]; rfl)
        go_wp2
        go_ret
        exact ⟨by rw [kf.out]; rfl, kB.out⟩
    · have hkl : k = l.length := by omega
      subst hkl
      rw [List.take_length] at *
      by_cases hsm : totO l ≤ 200000
      · by_cases hln : l.length ≤ 200
        · have kf := Lib.hid (show muchB l = false by unfold muchB; rw [decide_eq_false (by omega), decide_eq_false (by omega)]; rfl)
          go_wp2
          go_ret
          exact ⟨by rw [kf.out]; simp; omega, kB.out⟩
        · have kf := Lib.hid (show muchB l = true by unfold muchB; rw [decide_eq_true (show 200 < l.length by omega)]; simp)
          go_wp2
          go_ret
          exact ⟨by rw [kf.out]; simp; omega, kB.out⟩
      · have kf := Lib.hid (show muchB l = true by unfold muchB; rw [decide_eq_true (show 200000 < totO l by omega)]; rfl)
        go_wp2
        go_ret
        exact ⟨by rw [kf.out]; first | rfl | simp, kB.out⟩
end
end Go.Proofs.YtejofgdglpmlkaaGreatDoor
