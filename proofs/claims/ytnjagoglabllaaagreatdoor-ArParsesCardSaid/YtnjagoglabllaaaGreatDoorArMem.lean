/-
  Members in memory; num, even, big. Conditions: texts of at most 2^47 bytes, at most 2^42 members.
-/
import Derived.Test.YtnjagoglabllaaaGreatDoorArPure
import Derived.Test.YtnjagoglabllaaaGreatDoorArBase
import Derived.Laws.BitsLemmas
namespace Go.Proofs.YtnjagoglabllaaaGreatDoor
open Go.RowKit

/-- A slice of members, in memory. -/
def MemsAt (w : World) (nv : Value) (l : List Mem) (T : Nat → Prop) : Prop :=
  ∃ a c, nv = .slice a l.length c ∧ l.length ≤ c ∧ c ≤ maxLen ∧ (a = none → c = 0) ∧ (0 < l.length → ∃ b off, a = some ⟨b, off, none⟩ ∧ T b ∧ b < w.heap.size ∧
    ∀ (k : Nat) (x : Mem), l[k]? = some x → ∃ dv, w.cell? ⟨b, off + k * 3, none⟩ = some (.string (mk x.name)) ∧ w.cell? ⟨b, off + k * 3 + 1, none⟩ = some (.int .i64 x.date) ∧ w.cell? ⟨b, off + k * 3 + 2, none⟩ = some dv ∧ BytesAt w dv x.data T)
theorem MemsAt.of_heap {w w' : World} {nv : Value} {l : List Mem} {T T' : Nat → Prop} (h : MemsAt w nv l T) (he : ∀ k, T k → w'.heap[k]? = w.heap[k]?) (hT : ∀ k, T k → T' k) : MemsAt w' nv l T' := by
  obtain ⟨a, c, h1, h2, h3, h3', h4⟩ := h
  refine ⟨a, c, h1, h2, h3, h3', fun h0 => ?_⟩
  obtain ⟨b, off, e1, e2, e3, e4⟩ := h4 h0
  refine ⟨b, off, e1, hT _ e2, lt_of_heap e3 (he b e2), fun k x hk => ?_⟩
  obtain ⟨dv, g0, g1, g2, g4⟩ := e4 k x hk
  have hc : ∀ o, w'.cell? ⟨b, o, none⟩ = w.cell? ⟨b, o, none⟩ := fun o => World.cell?_of_block (a := ⟨b, o, none⟩) (he b e2)
  exact ⟨dv, (hc _).trans g0, (hc _).trans g1, (hc _).trans g2, g4.of_heap he hT⟩
theorem MemsAt.form {w : World} {nv : Value} {l : List Mem} {T : Nat → Prop} (h : MemsAt w nv l T) : ∃ a c, nv = .slice a l.length c := by
  obtain ⟨a, c, h1, _⟩ := h; exact ⟨a, c, h1⟩
theorem MemsAt.at {w : World} {a : Option Addr} {n c : Nat} {l : List Mem} {T : Nat → Prop} (h : MemsAt w (.slice a n c) l T) {k : Nat} {x : Mem} (hk : l[k]? = some x) :
    ∃ b off dv, a = some ⟨b, off, none⟩ ∧ T b ∧ b < w.heap.size ∧ w.cell? ⟨b, off + k * 3, none⟩ = some (.string (mk x.name)) ∧ w.cell? ⟨b, off + k * 3 + 1, none⟩ = some (.int .i64 x.date) ∧ w.cell? ⟨b, off + k * 3 + 2, none⟩ = some dv ∧ BytesAt w dv x.data T := by
  obtain ⟨a', c', h1, h2, h3, h3', h4⟩ := h
  injection h1 with e1 e2 e3
  subst e1
  obtain ⟨b, off, g1, g2, g3, g4⟩ := h4 (by have := (List.getElem?_eq_some_iff.1 hk).1; omega)
  obtain ⟨dv, g⟩ := g4 k x hk
  exact ⟨b, off, dv, g1, g2, g3, g⟩
theorem MemsAt.nil (w : World) (T : Nat → Prop) : MemsAt w (.slice none 0 0) [] T := ⟨none, 0, rfl, Nat.le_refl _, Nat.zero_le _, fun _ => rfl, fun h => absurd h (Nat.lt_irrefl _)⟩
theorem num_calls (n : Int) (w : World) : Calls Tryz.prog 14 #[.int .i64 n] w fun e w' => e = .returned (.int .i64 n) ∧ w = w' := by
  go_enter Tryz.func14, Tryz.ntmps14
  go_wp2
  go_ret
  exact ⟨rfl, rfl⟩
/-- What members, names and bytes come to. -/
def totM : List Mem → Nat
  | [] => 0
  | x :: r => 1 + x.data.length + x.name.length + totM r
theorem totM_append : ∀ (a b : List Mem), totM (a ++ b) = totM a + totM b
  | [], b => by simp [totM]
  | x :: a, b => by rw [List.cons_append, totM, totM, totM_append a b]; omega
theorem totM_take {l : List Mem} {k : Nat} {x : Mem} (h : l[k]? = some x) : totM (l.take (k + 1)) = totM (l.take k) + (1 + x.data.length + x.name.length) := by
  rw [take_more h, totM_append]; simp [totM]
theorem totM_mem {l : List Mem} {x : Mem} (h : x ∈ l) : 1 + x.data.length + x.name.length ≤ totM l := by
  induction l with
  | nil => cases h
  | cons y r ih =>
    rw [totM]
    rcases List.mem_cons.1 h with rfl | h
    · omega
    · have := ih h; omega
theorem totM_len (l : List Mem) : l.length ≤ totM l := by
  induction l with
  | nil => simp [totM]
  | cons y r ih => rw [totM, List.length_cons]; omega
section
variable {l : List Mem} {nv : Value} {T : Nat → Prop} {w : World}
set_option maxRecDepth 100000 in
set_option maxHeartbeats 4000000 in
theorem arbig_calls (ht : MemsAt w nv l T) (hT : ∀ k, T k → k < w.heap.size) (hp : ∀ x ∈ l, x.name.length ≤ 140737488355328 ∧ x.data.length ≤ 140737488355328) (hl : l.length ≤ 4398046511104) :
    Calls Tryz.prog 9 #[nv] w fun e w' => ∃ b : Bool, e = .returned (.bool b) ∧ (b = false → totM l ≤ 100000) ∧ Below w.heap.size w w' := by
  obtain ⟨ta, tc, hnv⟩ := ht.form
  subst hnv
  have kt := Lib.hid ht
  have kT := Lib.hid hT
  have kp := Lib.hid hp
  clear ht hT hp
  go_enter Tryz.func9, Tryz.ntmps9
  go_wp2
  go_loopw [3, 4] (fun mv iv wr => ∃ k : Nat, k ≤ l.length ∧ iv = .int .i64 k ∧ mv = .int .i64 (totM (l.take k) : Nat) ∧ totM (l.take k) ≤ 400000000000000 ∧ Below w.heap.size w wr) (fun _ iv _ => l.length - (intOf iv).toNat)
  case atStart => exact ⟨0, Nat.zero_le _, rfl, rfl, by simp [totM], Below.refl _ _⟩
  case round =>
    obtain ⟨k, hk, rfl, rfl, htot, hB⟩ := hrel
    have kB := Lib.hid hB
    clear hB
    by_cases hlt : k < l.length
    · by_cases hsm : totM (l.take k) ≤ 100000
      · obtain ⟨x, hx⟩ : ∃ x, l[k]? = some x := ⟨_, List.getElem?_eq_getElem hlt⟩
        have kx := Lib.hid hx
        obtain ⟨b, off, dv, hta, hTb, hbl, hc0, hc1, hc2, hdv⟩ := (kt.out.of_heap (w' := wr) (T' := T) (fun j hj => kB.out.block j (kT.out j hj)) (fun _ h => h)).at hx
        obtain ⟨da, dc, hdf⟩ := hdv.form
        subst hta hdf
        clear hTb hdv hx hc1
        have hpx := kp.out x (List.mem_of_getElem? kx.out)
        have hms : (mk x.name).size = x.name.length := mk_size x.name
        have htk := totM_take kx.out
        generalize totM (l.take k) = t0 at *
        have s1 : IntKind.i64.wrap ((t0 : Int) + 1) = (t0 : Int) + 1 := IntWalk.i64_in _ (by omega)
        have s2 : IntKind.i64.wrap ((t0 : Int) + 1 + x.data.length) = (t0 : Int) + 1 + x.data.length := IntWalk.i64_in _ (by omega)
        have s3 : IntKind.i64.wrap ((t0 : Int) + 1 + x.data.length + x.name.length) = (t0 : Int) + 1 + x.data.length + x.name.length := IntWalk.i64_in _ (by omega)
        go_wp2_with fail
        go_quiet (fail)
        go_wp2
        clear s1 s2 s3
        exact ⟨⟨k + 1, by omega, by go_num, by rw [htk]; congr 1; omega, by rw [htk]; omega, below_drewN' kB.out nq⟩, by simp [intOf]; omega⟩
      · go_wp2
        go_ret
        exact ⟨true, rfl, (fun h => by cases h), kB.out⟩
    · have hkl : k = l.length := by omega
      subst hkl
      rw [List.take_length] at *
      by_cases hsm : totM l ≤ 100000
      · go_wp2
        go_ret
        exact ⟨_, rfl, fun _ => hsm, kB.out⟩
      · go_wp2
        go_ret
        exact ⟨_, rfl, (fun h => by simp at h; omega), kB.out⟩
end
theorem and_one (n : Nat) (h : n ≤ 1099511627776) : bits .and .i64 (n : Int) 1 = ((n % 2 : Nat) : Int) := by
  have h1 := bits_mask .i64 62 (by decide) (fun n h0 h1 => IntWalk.i64_in _ (by omega)) 1 (by decide) (n : Int) (by omega) (by omega)
  have e : ((2 : Int) ^ 1 - 1) = 1 := by decide
  have e2 : ((2 : Int) ^ 1) = 2 := by decide
  rw [e, e2] at h1
  rw [h1]
  omega
theorem even_calls (n : Nat) (w : World) (hn : n ≤ 1099511627776) : Calls Tryz.prog 38 #[.int .i64 n] w fun e w' => e = .returned (.int .i64 (evenN n : Nat)) ∧ w = w' := by
  have h1 := and_one n hn
  go_enter Tryz.func38, Tryz.ntmps38
  go_wp2
  go_ret
  exact ⟨by unfold evenN; rfl, rfl⟩
end Go.Proofs.YtnjagoglabllaaaGreatDoor
