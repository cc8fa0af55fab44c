/-
  A row of calls that came in, opened. Conditions: what the form's reach gives.
-/
import Derived.Test.YtejofgdglpmlkaaGreatDoorVOpen
import Derived.Test.YtejofgdglpmlkaaGreatDoorVMuch
namespace Go.Proofs.YtejofgdglpmlkaaGreatDoor
open Go.ChangeShapes Go.WideShapes Go.ChangeAt Go.RowKit

section
variable {H : Type} {enc : TypeId × Value → H} {w : World}
set_option maxRecDepth 100000 in
theorem op_open {cs : List Value} {n : Nat} {y : DataW H × List MemPlace} (h : DataW.trod enc Tryz.prog w 0 (fun _ => true) true n 43 cs = some y) (hsz : ∀ m ∈ y.1.weights Tryz.prog 43, m ≤ reachBytes) :
    ∃ (x : OpD) (dv : Value), cs = [.int .i64 x.kind, .string (mk x.p), .string (mk x.q), dv] ∧ BytesAt w dv x.b (fun j => j < w.heap.size) ∧ x.p.length ≤ 140737488355328 ∧ x.q.length ≤ 140737488355328 ∧ x.b.length ≤ 140737488355328 := by
  obtain ⟨y0, y1, y2, y3, n', hx, hl, h0, h1, h2, h3⟩ := Go.Joins.trod_struct4 Tryz.underlying43 h
  have hl4 : cs.length = 4 := hl.trans (by kernel_rfl)
  match cs, hl4 with
  | [c0, c1, c2, c3], _ =>
    have e0 : DataW.trod enc Tryz.prog w 0 (fun _ => true) true n' 3 [c0] = some y0 := h0
    have e1 : DataW.trod enc Tryz.prog w 0 (fun _ => true) true n' 9 [c1] = some y1 := h1
    have e2 : DataW.trod enc Tryz.prog w 0 (fun _ => true) true n' 9 [c2] = some y2 := h2
    have e3 : DataW.trod enc Tryz.prog w 0 (fun _ => true) true n' 41 [c3] = some y3 := h3
    have hw : y.1.weights Tryz.prog 43 = DataW.weightsEach Tryz.prog [3, 9, 9, 41] [y0.1, y1.1, y2.1, y3.1] := by
      rw [show y.1 = _ from congrArg Prod.fst hx]
      simp only [DataW.weights, Tryz.underlying43]
      rfl
    rw [hw] at hsz
    obtain ⟨t, ht, -, -⟩ := DataW.trod_int Tryz.underlying3 e0
    obtain ⟨s, hs, hy0, -⟩ := DataW.trod_string Tryz.underlying9 e1
    obtain ⟨s2, hs2, hy2, -⟩ := DataW.trod_string Tryz.underlying9 e2
    obtain ⟨d, hd, hdl⟩ := bytes_open e3 (fun m hm => hsz m (DataW.weights_mem_each (j := 3) rfl rfl m hm))
    injection hs with hs _
    injection hs2 with hs2 _
    injection ht with ht _
    subst hs hs2 ht
    refine ⟨⟨t, s.data.toList, s2.data.toList, d⟩, c3, by rw [mk_back, mk_back], hd, ?_, ?_, hdl⟩
    · have := hsz s.data.toList.length (DataW.weights_mem_each (j := 1) rfl rfl _ (by rw [hy0]; simp [DataW.weights]))
      unfold reachBytes at this
      show s.data.toList.length ≤ _
      omega
    · have := hsz s2.data.toList.length (DataW.weights_mem_each (j := 2) rfl rfl _ (by rw [hy2]; simp [DataW.weights]))
      unfold reachBytes at this
      show s2.data.toList.length ≤ _
      omega
set_option maxRecDepth 100000 in
theorem ops_open {nv : Value} {n : Nat} {y : DataW H × List MemPlace} (h : DataW.trod enc Tryz.prog w 0 (fun _ => true) true n 39 [nv] = some y) (hsz : ∀ m ∈ y.1.weights Tryz.prog 39, m ≤ reachBytes) :
    ∃ l : List OpD, OpsAt w nv l (fun j => j < w.heap.size) ∧ (∀ x ∈ l, x.p.length ≤ 140737488355328 ∧ x.q.length ≤ 140737488355328 ∧ x.b.length ≤ 140737488355328) ∧ l.length ≤ 4398046511104 := by
  rcases Go.Deep.open_slice Tryz.underlying39 h with ⟨hcs, hx⟩ | ⟨a, len, cap, m, n', D, Pl, hcs, _, hl, hm, hmm, hx, hel⟩
  · injection hcs with hcs _
    subst hcs
    exact ⟨[], OpsAt.nil _ _, by simp, by simp⟩
  · injection hcs with hcs _
    subst hcs
    simp at hmm
    subst hmm
    rw [show Tryz.prog.cellsOf 43 = 4 by kernel_rfl] at hel
    have hw : y.1.weights Tryz.prog 39 = (((List.range len).map D).length + ((List.range (m - len)).map fun j => D (len + j)).length) * Tryz.prog.bytesOf 43 :: (DataW.weightsAll Tryz.prog 43 ((List.range len).map D) ++ DataW.weightsAll Tryz.prog 43 ((List.range (m - len)).map fun j => D (len + j))) := by
      rw [show y.1 = _ from congrArg Prod.fst hx]
      simp only [DataW.weights, Tryz.underlying39]
    have hall : ∀ (ds : List (DataW H)) (d : DataW H), d ∈ ds → ∀ k ∈ d.weights Tryz.prog 43, k ∈ DataW.weightsAll Tryz.prog 43 ds := by
      intro ds
      induction ds with
      | nil => intro d hd; cases hd
      | cons e r ih =>
        intro d hd k hk
        rw [DataW.weightsAll, List.mem_append]
        rcases List.mem_cons.1 hd with rfl | hd
        · exact Or.inl hk
        · exact Or.inr (ih d hd k hk)
    haveI : Inhabited OpD := ⟨⟨0, [], [], []⟩⟩
    obtain ⟨X, hX⟩ := Go.Deep.choose_lt (n := len) (p := fun i (x : OpD) => (∃ b off dv, a = ⟨b, off, none⟩ ∧ b < w.heap.size ∧ w.cell? ⟨b, off + i * 4, none⟩ = some (.int .i64 x.kind) ∧ w.cell? ⟨b, off + i * 4 + 1, none⟩ = some (.string (mk x.p)) ∧ w.cell? ⟨b, off + i * 4 + 2, none⟩ = some (.string (mk x.q)) ∧ w.cell? ⟨b, off + i * 4 + 3, none⟩ = some dv ∧ BytesAt w dv x.b (fun j => j < w.heap.size)) ∧ x.p.length ≤ 140737488355328 ∧ x.q.length ≤ 140737488355328 ∧ x.b.length ≤ 140737488355328) (fun i hi => by
      obtain ⟨cs, hc, ht⟩ := hel i (by omega)
      obtain ⟨x, dv, e, hd, h1⟩ := op_open ht (fun k hk => hsz k (by
        rw [hw]
        exact List.mem_cons_of_mem _ (List.mem_append_left _ (hall _ (D i) (List.mem_map.2 ⟨i, List.mem_range.2 hi, rfl⟩) k hk))))
      subst e
      obtain ⟨cs', hc', -⟩ := hel 0 (by omega)
      obtain ⟨b, off, rfl, hb⟩ := addr_zero hc'
      obtain ⟨c0, c1, c2, c3, e, g0, g1, g2, g3⟩ := cells_at hc
      injection e with e0 e; injection e with e1 e; injection e with e2 e; injection e with e3 _
      subst e0 e1 e2 e3
      exact ⟨x, ⟨b, off, dv, rfl, hb, g0, g1, g2, g3, hd⟩, h1⟩)
    have hlen : ((List.range len).map X).length = len := by simp
    refine ⟨(List.range len).map X, ⟨some a, m, by rw [hlen], by rw [hlen]; exact hl, hm, (fun e => by cases e), fun h0 => ?_⟩, fun x hx => ?_, ?_⟩
    · rw [hlen] at h0
      obtain ⟨⟨b, off, dv0, ea, hb, -⟩, -⟩ := hX 0 h0
      refine ⟨b, off, by rw [ea], hb, hb, fun k x hk => ?_⟩
      have hkl : k < len := by have := (List.getElem?_eq_some_iff.1 hk).1; simpa using this
      rw [List.getElem?_map, List.getElem?_range hkl] at hk
      simp at hk
      subst hk
      obtain ⟨⟨b', off', dv, ea', hb', g⟩, -⟩ := hX k hkl
      rw [ea] at ea'
      injection ea' with e1 e2
      subst e1 e2
      exact ⟨dv, g⟩
    · obtain ⟨i, hi, rfl⟩ := List.mem_map.1 hx
      exact (hX i (List.mem_range.1 hi)).2
    · have := hsz _ (by rw [hw]; exact List.mem_cons_self ..)
      rw [show Tryz.prog.bytesOf 43 = 64 by kernel_rfl] at this
      unfold reachBytes at this
      simp only [List.length_map, List.length_range] at this ⊢
      omega
end
end Go.Proofs.YtejofgdglpmlkaaGreatDoor
