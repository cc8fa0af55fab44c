/-
  A tree that came in, opened: its nodes as a list, in memory. Conditions: what the form's reach gives.
  A row of calls that came in, opened. Conditions: what the form's reach gives.
  The row and the card of VfsPlays: it answers true for every tree and row of calls; both read afterwards as before. No condition.
-/
import Derived.Test.YtejofgdglpmlkaaGreatDoorM06
import Derived.Deep.Slices
import Derived.Deep.Strs
import Derived.Lib.SmallJoins
import Derived.SizedLaws
import Derived.Test.YtejofgdglpmlkaaGreatDoorM35
import Derived.Test.YtejofgdglpmlkaaGreatDoorTie
import Derived.Test.YtejofgdglpmlkaaGreatDoorCards
import Derived.Test.YtejofgdglpmlkaaGreatDoorM45
import Derived.Carry
import Derived.WalkKit
import Derived.ProofKit
import Derived.OpenShut
import Derived.ChangeSame
import Derived.ChangeVars
import Derived.JoinedOf
import Derived.RowKit
import Derived.RowKitTokens
import Derived.LaidLaws
import Derived.LaidHandle
import Derived.Stop.Joined
import Derived.SevenTiedAt
namespace Go.Proofs.YtejofgdglpmlkaaGreatDoor
open Go.ChangeShapes Go.WideShapes Go.ChangeAt Go.RowKit

section
variable {H : Type} {enc : TypeId × Value → H} {w : World}
theorem addr_none {a : Addr} {v : Value} (h : w.cell? a = some v) : ∃ b off, a = ⟨b, off, none⟩ ∧ b < w.heap.size := by
  obtain ⟨b, off, sp⟩ := a
  have hb : b < w.heap.size := by
    unfold World.cell? at h
    cases hg : w.heap[b]? with
    | none => rw [hg] at h; simp at h
    | some o => exact heap_lt hg
  cases sp with
  | none => exact ⟨b, off, rfl, hb⟩
  | some x => unfold World.cell? at h; split at h <;> simp at h
theorem nat_byte {n : Int} (h : (Lit.int .u8 n).wf = true) : ∃ c : UInt8, n = (c.toNat : Int) := by
  have h2 : IntKind.u8.min ≤ n ∧ n ≤ IntKind.u8.max := by simpa [Lit.wf] using h
  rw [show IntKind.u8.min = 0 from rfl, show IntKind.u8.max = 255 from rfl] at h2
  exact ⟨n.toNat.toUInt8, by simp; omega⟩
theorem bytes_open {dv : Value} {n : Nat} {y : DataW H × List MemPlace} (h : DataW.trod enc Tryz.prog w 0 (fun _ => true) true n 41 [dv] = some y) (hsz : ∀ m ∈ y.1.weights Tryz.prog 41, m ≤ reachBytes) : ∃ d : Bs, BytesAt w dv d (fun j => j < w.heap.size) ∧ d.length ≤ 140737488355328 := by
  rcases open_ints Tryz.underlying41 Tryz.underlying5 (by kernel_rfl) h with ⟨hcs, hx⟩ | ⟨a, len, cap, zs, hcs, _, hl, hm, hz, hx, hcell, hwf⟩
  · injection hcs with hcs _
    subst hcs
    exact ⟨[], BytesAt.nil _ _, by simp⟩
  · injection hcs with hcs _
    subst hcs
    simp at hz
    have hz' : len ≤ zs.length := by omega
    have hb : ∀ i, i < zs.length → ∃ c : UInt8, zs.getD i 0 = (c.toNat : Int) := fun i hi => by
      rw [List.getD_eq_getElem?_getD, List.getElem?_eq_getElem hi]
      exact nat_byte (hwf _ (List.getElem_mem hi))
    refine ⟨(zs.take len).map fun z => z.toNat.toUInt8, ⟨some a, cap, by simp; omega, by simp; omega, hm, (fun e => by cases e), fun h0 => ?_⟩, ?_⟩
    · have hl0 : 0 < len := by simp at h0; omega
      have h1 := hcell 0 (by omega)
      have e0 : a.add 0 = a := by unfold Addr.add; rw [if_pos rfl]
      rw [e0] at h1
      obtain ⟨b, off, rfl, hbl⟩ := addr_none h1
      refine ⟨b, off, rfl, hbl, hbl, fun k x hk => ?_⟩
      rw [List.getElem?_map] at hk
      obtain ⟨z, hz1, rfl⟩ := Option.map_eq_some_iff.1 hk
      have hkl : k < len := by have := (List.getElem?_eq_some_iff.1 hz1).1; simp at this; omega
      rw [List.getElem?_take_of_lt hkl] at hz1
      have h2 := hcell k (by omega)
      have ad : (⟨b, off, none⟩ : Addr).add k = ⟨b, off + k, none⟩ := by unfold Addr.add; split <;> simp_all
      rw [ad, List.getD_eq_getElem?_getD, hz1] at h2
      rw [h2]
      obtain ⟨c, hc⟩ := hb k (by omega)
      rw [List.getD_eq_getElem?_getD, hz1] at hc
      simp only [Option.getD_some] at hc ⊢
      rw [hc]; simp
    · have h3 := hsz (zs.length * Tryz.prog.bytesOf 5) (by
        rw [show y.1 = _ from congrArg Prod.fst hx]
        simp only [DataW.weights, Tryz.underlying41]
        refine List.mem_cons.2 (Or.inl ?_)
        simp only [lits, List.length_map, List.length_take, List.length_drop]
        congr 1; omega)
      rw [show Tryz.prog.bytesOf 5 = 1 by kernel_rfl] at h3
      unfold reachBytes at h3
      simp only [List.length_map, List.length_take]
      omega
theorem addr_zero {a : Addr} {cs : List Value} (h : w.cells? 0 (a.add (0 * 4)) 4 = some cs) : ∃ b off, a = ⟨b, off, none⟩ ∧ b < w.heap.size := by
  obtain ⟨-, hl, hc⟩ := World.cells?_some h
  have h0 := hc 0 (by omega)
  have z0 : ∀ x : Addr, x.add 0 = x := fun x => by unfold Addr.add; rw [if_pos rfl]
  rw [Nat.zero_mul, z0, z0, List.getElem?_eq_getElem (by omega)] at h0
  exact addr_none h0
theorem cells_at {b off i : Nat} {cs : List Value} (h : w.cells? 0 ((⟨b, off, none⟩ : Addr).add (i * 4)) 4 = some cs) : ∃ c0 c1 c2 c3, cs = [c0, c1, c2, c3] ∧ w.cell? ⟨b, off + i * 4, none⟩ = some c0 ∧ w.cell? ⟨b, off + i * 4 + 1, none⟩ = some c1 ∧ w.cell? ⟨b, off + i * 4 + 2, none⟩ = some c2 ∧ w.cell? ⟨b, off + i * 4 + 3, none⟩ = some c3 := by
  obtain ⟨-, hl, hc⟩ := World.cells?_some h
  match cs, hl with
  | [c0, c1, c2, c3], _ =>
    have h0 := hc 0 (by omega)
    have h1 := hc 1 (by omega)
    have h2 := hc 2 (by omega)
    have h3 := hc 3 (by omega)
    have ad : ∀ j o : Nat, (⟨b, o, none⟩ : Addr).add j = ⟨b, o + j, none⟩ := fun j o => by unfold Addr.add; split <;> simp_all
    rw [ad, ad] at h0 h1 h2 h3
    exact ⟨c0, c1, c2, c3, rfl, by simpa using h0, by simpa using h1, by simpa using h2, by simpa using h3⟩
set_option maxRecDepth 100000 in
theorem node_open {cs : List Value} {n : Nat} {y : DataW H × List MemPlace} (h : DataW.trod enc Tryz.prog w 0 (fun _ => true) true n 54 cs = some y) (hsz : ∀ m ∈ y.1.weights Tryz.prog 54, m ≤ reachBytes) :
    ∃ (x : Bs × PN) (dv : Value), cs = [.string (mk x.1), .bool x.2.dir, .int .i64 x.2.time, dv] ∧ BytesAt w dv x.2.data (fun j => j < w.heap.size) ∧ x.1.length ≤ 140737488355328 ∧ x.2.data.length ≤ 140737488355328 := by
  obtain ⟨y0, y1, y2, y3, n', hx, hl, h0, h1, h2, h3⟩ := Go.Joins.trod_struct4 Tryz.underlying54 h
  have hl4 : cs.length = 4 := hl.trans (by kernel_rfl)
  match cs, hl4 with
  | [c0, c1, c2, c3], _ =>
    have e0 : DataW.trod enc Tryz.prog w 0 (fun _ => true) true n' 9 [c0] = some y0 := h0
    have e1 : DataW.trod enc Tryz.prog w 0 (fun _ => true) true n' 4 [c1] = some y1 := h1
    have e2 : DataW.trod enc Tryz.prog w 0 (fun _ => true) true n' 3 [c2] = some y2 := h2
    have e3 : DataW.trod enc Tryz.prog w 0 (fun _ => true) true n' 41 [c3] = some y3 := h3
    have hw : y.1.weights Tryz.prog 54 = DataW.weightsEach Tryz.prog [9, 4, 3, 41] [y0.1, y1.1, y2.1, y3.1] := by
      rw [show y.1 = _ from congrArg Prod.fst hx]
      simp only [DataW.weights, Tryz.underlying54]
      rfl
    rw [hw] at hsz
    obtain ⟨s, hs, hy0, -⟩ := DataW.trod_string Tryz.underlying9 e0
    obtain ⟨b, hb, -⟩ := DataW.trod_bool Tryz.underlying4 e1
    obtain ⟨t, ht, -, -⟩ := DataW.trod_int Tryz.underlying3 e2
    obtain ⟨d, hd, hdl⟩ := bytes_open e3 (fun m hm => hsz m (DataW.weights_mem_each (j := 3) rfl rfl m hm))
    injection hs with hs _
    injection hb with hb _
    injection ht with ht _
    subst hs hb ht
    refine ⟨(s.data.toList, ⟨b, t, d⟩), c3, by rw [mk_back], hd, ?_, hdl⟩
    have := hsz s.data.toList.length (DataW.weights_mem_each (j := 0) rfl rfl _ (by rw [hy0]; simp [DataW.weights]))
    unfold reachBytes at this
    show s.data.toList.length ≤ _
    omega
set_option maxRecDepth 100000 in
theorem nodes_open {nv : Value} {n : Nat} {y : DataW H × List MemPlace} (h : DataW.trod enc Tryz.prog w 0 (fun _ => true) true n 22 [nv] = some y) (hsz : ∀ m ∈ y.1.weights Tryz.prog 22, m ≤ reachBytes) :
    ∃ l : St, TreeAt w nv l (fun j => j < w.heap.size) ∧ (∀ x ∈ l, x.1.length ≤ 140737488355328 ∧ x.2.data.length ≤ 140737488355328) ∧ l.length ≤ 4398046511104 := by
  rcases Go.Deep.open_slice Tryz.underlying22 h with ⟨hcs, hx⟩ | ⟨a, len, cap, m, n', D, Pl, hcs, _, hl, hm, hmm, hx, hel⟩
  · injection hcs with hcs _
    subst hcs
    exact ⟨[], TreeAt.nil _ _, by simp, by simp⟩
  · injection hcs with hcs _
    subst hcs
    simp at hmm
    subst hmm
    rw [show Tryz.prog.cellsOf 54 = 4 by kernel_rfl] at hel
    have hw : y.1.weights Tryz.prog 22 = (((List.range len).map D).length + ((List.range (m - len)).map fun j => D (len + j)).length) * Tryz.prog.bytesOf 54 :: (DataW.weightsAll Tryz.prog 54 ((List.range len).map D) ++ DataW.weightsAll Tryz.prog 54 ((List.range (m - len)).map fun j => D (len + j))) := by
      rw [show y.1 = _ from congrArg Prod.fst hx]
      simp only [DataW.weights, Tryz.underlying22]
    have hall : ∀ (ds : List (DataW H)) (d : DataW H), d ∈ ds → ∀ k ∈ d.weights Tryz.prog 54, k ∈ DataW.weightsAll Tryz.prog 54 ds := by
      intro ds
      induction ds with
      | nil => intro d hd; cases hd
      | cons e r ih =>
        intro d hd k hk
        rw [DataW.weightsAll, List.mem_append]
        rcases List.mem_cons.1 hd with rfl | hd
        · exact Or.inl hk
        · exact Or.inr (ih d hd k hk)
    haveI : Inhabited (Bs × PN) := ⟨([], ⟨false, 0, []⟩)⟩
    obtain ⟨X, hX⟩ := Go.Deep.choose_lt (n := len) (p := fun i (x : Bs × PN) => (∃ b off dv, a = ⟨b, off, none⟩ ∧ b < w.heap.size ∧ w.cell? ⟨b, off + i * 4, none⟩ = some (.string (mk x.1)) ∧ w.cell? ⟨b, off + i * 4 + 1, none⟩ = some (.bool x.2.dir) ∧ w.cell? ⟨b, off + i * 4 + 2, none⟩ = some (.int .i64 x.2.time) ∧ w.cell? ⟨b, off + i * 4 + 3, none⟩ = some dv ∧ BytesAt w dv x.2.data (fun j => j < w.heap.size)) ∧ x.1.length ≤ 140737488355328 ∧ x.2.data.length ≤ 140737488355328) (fun i hi => by
      obtain ⟨cs, hc, ht⟩ := hel i (by omega)
      obtain ⟨x, dv, e, hd, h1, h2⟩ := node_open ht (fun k hk => hsz k (by
        rw [hw]
        exact List.mem_cons_of_mem _ (List.mem_append_left _ (hall _ (D i) (List.mem_map.2 ⟨i, List.mem_range.2 hi, rfl⟩) k hk))))
      subst e
      obtain ⟨cs', hc', -⟩ := hel 0 (by omega)
      obtain ⟨b, off, rfl, hb⟩ := addr_zero hc'
      obtain ⟨c0, c1, c2, c3, e, g0, g1, g2, g3⟩ := cells_at hc
      injection e with e0 e; injection e with e1 e; injection e with e2 e; injection e with e3 _
      subst e0 e1 e2 e3
      exact ⟨x, ⟨b, off, dv, rfl, hb, g0, g1, g2, g3, hd⟩, h1, h2⟩)
    have hlen : ((List.range len).map X).length = len := by simp
    refine ⟨(List.range len).map X, ⟨some a, m, by rw [hlen], by rw [hlen]; exact hl, hm, (fun e => by cases e), fun h0 => ?_⟩, fun x hx => ?_, ?_⟩
    · rw [hlen] at h0
      obtain ⟨⟨b, off, dv0, ea, hb, -⟩, -⟩ := hX 0 h0
      refine ⟨b, off, by rw [ea], hb, hb, fun k x hk => ?_⟩
      have hkl : k < len := by have := (List.getElem?_eq_some_iff.1 hk).1; simpa using this
      rw [List.getElem?_map, List.getElem?_range hkl] at hk
      simp at hk
      subst hk
      obtain ⟨⟨b', off', dv, ea', hb', g⟩, -⟩ := hX k hkl
      rw [ea] at ea'
      injection ea' with e1 e2
      subst e1 e2
      exact ⟨dv, g⟩
    · obtain ⟨i, hi, rfl⟩ := List.mem_map.1 hx
      exact (hX i (List.mem_range.1 hi)).2
    · have := hsz _ (by rw [hw]; exact List.mem_cons_self ..)
      rw [show Tryz.prog.bytesOf 54 = 56 by kernel_rfl] at this
      unfold reachBytes at this
      simp only [List.length_map, List.length_range] at this ⊢
      omega
set_option maxRecDepth 100000 in
theorem tree_open {v : Value} {d : DataW H} {ps : List MemPlace} {r : Reach} {b0 : Nat} (hval : Value.okWide Tryz.prog w r b0 24 v) (h : DataW.Trod enc Tryz.prog w 0 (fun _ => true) true 24 v d ps) (hsz : ∀ m ∈ d.weights Tryz.prog 24, m ≤ reachBytes) :
    ∃ nv clock room, ∃ l : St, v = .agg #[nv, .int .i64 clock, .int .i64 room] ∧ TreeAt w nv l (fun j => j < w.heap.size) ∧ (∀ x ∈ l, x.1.length ≤ 140737488355328 ∧ x.2.data.length ≤ 140737488355328) ∧ l.length ≤ 4398046511104 := by
  obtain ⟨v0, v1, v2, y0, y1, y2, n, rfl, rfl, -, h0, h1, h2⟩ := Go.Joins.open_agg3 Tryz.underlying24 (by kernel_rfl) (by kernel_rfl) hval h
  have e0 : DataW.trod enc Tryz.prog w 0 (fun _ => true) true n 22 [v0] = some y0 := h0
  have e1 : DataW.trod enc Tryz.prog w 0 (fun _ => true) true n 3 [v1] = some y1 := h1
  have e2 : DataW.trod enc Tryz.prog w 0 (fun _ => true) true n 3 [v2] = some y2 := h2
  have hw : (DataW.agg [y0.1, y1.1, y2.1]).weights Tryz.prog 24 = DataW.weightsEach Tryz.prog [22, 3, 3] [y0.1, y1.1, y2.1] := by
    simp only [DataW.weights, Tryz.underlying24]
    rfl
  rw [hw] at hsz
  obtain ⟨t1, ht1, -, -⟩ := DataW.trod_int Tryz.underlying3 e1
  obtain ⟨t2, ht2, -, -⟩ := DataW.trod_int Tryz.underlying3 e2
  injection ht1 with ht1 _
  injection ht2 with ht2 _
  subst ht1 ht2
  obtain ⟨l, hl1, hl2, hl3⟩ := nodes_open e0 (fun m hm => hsz m (DataW.weights_mem_each (j := 0) rfl rfl m hm))
  exact ⟨v0, t1, t2, l, rfl, hl1, hl2, hl3⟩
end
end Go.Proofs.YtejofgdglpmlkaaGreatDoor
namespace Go.Proofs.YtejofgdglpmlkaaGreatDoor
open Go.ChangeShapes Go.WideShapes Go.ChangeAt Go.RowKit

section
variable {H : Type} {enc : TypeId × Value → H} {w : World}
set_option maxRecDepth 100000 in
theorem op_open {cs : List Value} {n : Nat} {y : DataW H × List MemPlace} (h : DataW.trod enc Tryz.prog w 0 (fun _ => true) true n 43 cs = some y) (hsz : ∀ m ∈ y.1.weights Tryz.prog 43, m ≤ reachBytes) :
    ∃ (x : OpD) (dv : Value), cs = [.int .i64 x.kind, .string (mk x.p), .string (mk x.q), dv] ∧ BytesAt w dv x.b (fun j => j < w.heap.size) ∧ x.p.length ≤ 140737488355328 ∧ x.q.length ≤ 140737488355328 ∧ x.b.length ≤ 140737488355328 := by
  obtain ⟨y0, y1, y2, y3, n', hx, hl, h0, h1, h2, h3⟩ := Go.Joins.trod_struct4 Tryz.underlying43 h
  have hl4 : cs.length = 4 := hl.trans (by kernel_rfl)
  match cs, hl4 with
  | [c0, c1, c2, c3], _ =>
    have e0 : DataW.trod enc Tryz.prog w 0 (fun _ => true) true n' 3 [c0] = some y0 := h0
    have e1 : DataW.trod enc Tryz.prog w 0 (fun _ => true) true n' 9 [c1] = some y1 := h1
    have e2 : DataW.trod enc Tryz.prog w 0 (fun _ => true) true n' 9 [c2] = some y2 := h2
    have e3 : DataW.trod enc Tryz.prog w 0 (fun _ => true) true n' 41 [c3] = some y3 := h3
    have hw : y.1.weights Tryz.prog 43 = DataW.weightsEach Tryz.prog [3, 9, 9, 41] [y0.1, y1.1, y2.1, y3.1] := by
      rw [show y.1 = _ from congrArg Prod.fst hx]
      simp only [DataW.weights, Tryz.underlying43]
      rfl
    rw [hw] at hsz
    obtain ⟨t, ht, -, -⟩ := DataW.trod_int Tryz.underlying3 e0
    obtain ⟨s, hs, hy0, -⟩ := DataW.trod_string Tryz.underlying9 e1
    obtain ⟨s2, hs2, hy2, -⟩ := DataW.trod_string Tryz.underlying9 e2
    obtain ⟨d, hd, hdl⟩ := bytes_open e3 (fun m hm => hsz m (DataW.weights_mem_each (j := 3) rfl rfl m hm))
    injection hs with hs _
    injection hs2 with hs2 _
    injection ht with ht _
    subst hs hs2 ht
    refine ⟨⟨t, s.data.toList, s2.data.toList, d⟩, c3, by rw [mk_back, mk_back], hd, ?_, ?_, hdl⟩
    · have := hsz s.data.toList.length (DataW.weights_mem_each (j := 1) rfl rfl _ (by rw [hy0]; simp [DataW.weights]))
      unfold reachBytes at this
      show s.data.toList.length ≤ _
      omega
    · have := hsz s2.data.toList.length (DataW.weights_mem_each (j := 2) rfl rfl _ (by rw [hy2]; simp [DataW.weights]))
      unfold reachBytes at this
      show s2.data.toList.length ≤ _
      omega
set_option maxRecDepth 100000 in
theorem ops_open {nv : Value} {n : Nat} {y : DataW H × List MemPlace} (h : DataW.trod enc Tryz.prog w 0 (fun _ => true) true n 39 [nv] = some y) (hsz : ∀ m ∈ y.1.weights Tryz.prog 39, m ≤ reachBytes) :
    ∃ l : List OpD, OpsAt w nv l (fun j => j < w.heap.size) ∧ (∀ x ∈ l, x.p.length ≤ 140737488355328 ∧ x.q.length ≤ 140737488355328 ∧ x.b.length ≤ 140737488355328) ∧ l.length ≤ 4398046511104 := by
  rcases Go.Deep.open_slice Tryz.underlying39 h with ⟨hcs, hx⟩ | ⟨a, len, cap, m, n', D, Pl, hcs, _, hl, hm, hmm, hx, hel⟩
  · injection hcs with hcs _
    subst hcs
    exact ⟨[], OpsAt.nil _ _, by simp, by simp⟩
  · injection hcs with hcs _
    subst hcs
    simp at hmm
    subst hmm
    rw [show Tryz.prog.cellsOf 43 = 4 by kernel_rfl] at hel
    have hw : y.1.weights Tryz.prog 39 = (((List.range len).map D).length + ((List.range (m - len)).map fun j => D (len + j)).length) * Tryz.prog.bytesOf 43 :: (DataW.weightsAll Tryz.prog 43 ((List.range len).map D) ++ DataW.weightsAll Tryz.prog 43 ((List.range (m - len)).map fun j => D (len + j))) := by
      rw [show y.1 = _ from congrArg Prod.fst hx]
      simp only [DataW.weights, Tryz.underlying39]
    have hall : ∀ (ds : List (DataW H)) (d : DataW H), d ∈ ds → ∀ k ∈ d.weights Tryz.prog 43, k ∈ DataW.weightsAll Tryz.prog 43 ds := by
      intro ds
      induction ds with
      | nil => intro d hd; cases hd
      | cons e r ih =>
        intro d hd k hk
        rw [DataW.weightsAll, List.mem_append]
        rcases List.mem_cons.1 hd with rfl | hd
        · exact Or.inl hk
        · exact Or.inr (ih d hd k hk)
    haveI : Inhabited OpD := ⟨⟨0, [], [], []⟩⟩
    obtain ⟨X, hX⟩ := Go.Deep.choose_lt (n := len) (p := fun i (x : OpD) => (∃ b off dv, a = ⟨b, off, none⟩ ∧ b < w.heap.size ∧ w.cell? ⟨b, off + i * 4, none⟩ = some (.int .i64 x.kind) ∧ w.cell? ⟨b, off + i * 4 + 1, none⟩ = some (.string (mk x.p)) ∧ w.cell? ⟨b, off + i * 4 + 2, none⟩ = some (.string (mk x.q)) ∧ w.cell? ⟨b, off + i * 4 + 3, none⟩ = some dv ∧ BytesAt w dv x.b (fun j => j < w.heap.size)) ∧ x.p.length ≤ 140737488355328 ∧ x.q.length ≤ 140737488355328 ∧ x.b.length ≤ 140737488355328) (fun i hi => by
      obtain ⟨cs, hc, ht⟩ := hel i (by omega)
      obtain ⟨x, dv, e, hd, h1⟩ := op_open ht (fun k hk => hsz k (by
        rw [hw]
        exact List.mem_cons_of_mem _ (List.mem_append_left _ (hall _ (D i) (List.mem_map.2 ⟨i, List.mem_range.2 hi, rfl⟩) k hk))))
      subst e
      obtain ⟨cs', hc', -⟩ := hel 0 (by omega)
      obtain ⟨b, off, rfl, hb⟩ := addr_zero hc'
      obtain ⟨c0, c1, c2, c3, e, g0, g1, g2, g3⟩ := cells_at hc
      injection e with e0 e; injection e with e1 e; injection e with e2 e; injection e with e3 _
      subst e0 e1 e2 e3
      exact ⟨x, ⟨b, off, dv, rfl, hb, g0, g1, g2, g3, hd⟩, h1⟩)
    have hlen : ((List.range len).map X).length = len := by simp
    refine ⟨(List.range len).map X, ⟨some a, m, by rw [hlen], by rw [hlen]; exact hl, hm, (fun e => by cases e), fun h0 => ?_⟩, fun x hx => ?_, ?_⟩
    · rw [hlen] at h0
      obtain ⟨⟨b, off, dv0, ea, hb, -⟩, -⟩ := hX 0 h0
      refine ⟨b, off, by rw [ea], hb, hb, fun k x hk => ?_⟩
      have hkl : k < len := by have := (List.getElem?_eq_some_iff.1 hk).1; simpa using this
      rw [List.getElem?_map, List.getElem?_range hkl] at hk
      simp at hk
      subst hk
      obtain ⟨⟨b', off', dv, ea', hb', g⟩, -⟩ := hX k hkl
      rw [ea] at ea'
      injection ea' with e1 e2
      subst e1 e2
      exact ⟨dv, g⟩
    · obtain ⟨i, hi, rfl⟩ := List.mem_map.1 hx
      exact (hX i (List.mem_range.1 hi)).2
    · have := hsz _ (by rw [hw]; exact List.mem_cons_self ..)
      rw [show Tryz.prog.bytesOf 43 = 64 by kernel_rfl] at this
      unfold reachBytes at this
      simp only [List.length_map, List.length_range] at this ⊢
      omega
end
end Go.Proofs.YtejofgdglpmlkaaGreatDoor
namespace Go.Proofs.YtejofgdglpmlkaaGreatDoor
open Go.ChangeShapes Go.WideShapes Go.ChangeAt Go.RowKit

theorem laidOut : laidOutB Tryz.prog = true := by kernel_rfl
theorem own : ownKnob Tryz.prog.godebug = none := by kernel_rfl
theorem et : Tryz.prog.globalNamed "errors.errorType" = some 0 := by kernel_rfl
theorem rt : (Tryz.prog.cutTypes.find? (·.1 == "internal/reflectlite.rtype")).map (·.2) = some 122 := by kernel_rfl
theorem oneRow : ((List.range 204).filter fun t => Tryz.prog.rowNamed t [101, 114, 114, 111, 114]) = [70] := by kernel_rfl
theorem typesSize : Tryz.prog.types.size = 204 := by kernel_rfl
/-- What the condition gives a walk: the variable's one cell. -/
theorem laid_of_met {W : World} (h : laidMetH Tryz.prog [("errors.errorType", Rows.laid_errors_errorType)] W) : Laid W := by
  have h' : laidMet Tryz.prog [] W ∧ handlesMet Tryz.prog [("errors.errorType", Rows.laid_errors_errorType)] W := h
  obtain ⟨name, u, ty, e1, e2, e3, e4, e5⟩ := h'.2 _ (List.mem_singleton.2 rfl)
  have en : name = [101, 114, 114, 111, 114] := (Option.some.inj e1).symm
  subst en
  obtain rfl := Option.some.inj (rt.symm.trans e2)
  have hm : ty ∈ (List.range 204).filter fun t => Tryz.prog.rowNamed t [101, 114, 114, 111, 114] := List.mem_filter.2 ⟨List.mem_range.2 (by rw [← typesSize]; exact e3), e4⟩
  rw [oneRow] at hm
  obtain rfl := List.mem_singleton.1 hm
  have hh : typeHandle Tryz.prog 70 = .pointer (some ⟨2, 70, none⟩) := by kernel_rfl
  rw [hh] at e5
  have := World.var?_cell et e5 0
  unfold Laid
  simpa using this
/-- A world that meets the condition: the settled one, the variable's cell laid. -/
noncomputable def laidWorld (os : Os) : World :=
  let w0 := World.holding Tryz.prog os ⟨#[], #[], []⟩
  { w0 with heap := w0.heap.modify 0 fun
      | .cells _ t frozen => .cells #[.iface 122 (.agg #[.pointer (some ⟨2, 70, none⟩)])] t frozen
      | o => o }
theorem laidWorld_met (os : Os) (args : Array Value) : laidMetH Tryz.prog [("errors.errorType", Rows.laid_errors_errorType)] ((laidWorld os).forCall (fun _ _ => 0) ⟨#[], args, []⟩).memory :=
  laidMetH_of_parts (laidMet_nil _ _) (by kernel_rfl)
/-- What is behind a call that has turned nothing that was there. -/
theorem post_of_below {H : Type} {enc : TypeId × Value → H} {P : Program} {f : Func} {s : ChangeSpec} {apart fresh handsOn : Bool} {W W' : World} {args : Array Value} {v : Value} {ds gs : List (DataW H)} {before pa pv : List MemPlace}
    (hW : DataW.Whole enc P f.params.toList s.vars apart W args.toList ds gs before)
    (hres : ∀ (b : Nat) (sp : Nat → Bool) (hd : Bool), DataW.TrodAll enc P W' b sp hd f.resultTypes.toList (v.resultList f.resultTypes.size) (s.fn H (ds ++ gs)).results [])
    (hargs : DataW.TrodAll enc P W' 0 (fun b => decide (b < W.heap.size)) true f.params.toList args.toList (s.fn H (ds ++ gs)).args pa)
    (hvars : DataW.TrodVars enc P W' (fun b => decide (b < W.heap.size)) s.vars (s.fn H (ds ++ gs)).vars pv)
    (hps : before = pa ++ pv) (hb : Below W.heap.size W W') :
    s.post enc P f apart fresh handsOn false W args v W' := by
  refine ⟨ds, gs, before, [], pa, pv, hW, hres _ _ _, hargs, hvars, World.keptBut_mono (fun p hp => ⟨hp, ?_⟩) (hb.frame (· ∈ before)), fun h => by cases h⟩
  rw [hps, List.mem_append] at hp
  exact Or.inr hp
set_option maxRecDepth 100000 in
theorem plays_lifted (os : Os) (started : os.Started) (H : Type) (enc : TypeId × Value → H) :
    ReturnsInHanded {} Tryz.checked os 5 .any (fun w args => (Rows.vfsPlaysSpec.pre enc Tryz.prog Tryz.f5 [] false w args ∧ laidMetH Tryz.prog [("errors.errorType", Rows.laid_errors_errorType)] w) ∧ sizedMet enc Tryz.prog Tryz.f5 (OpenSpec.ofChange Rows.vfsPlaysSpec) false w args)
      (Rows.vfsPlaysSpec.post enc Tryz.prog Tryz.f5 false true false false) := by
  refine returnsInHanded_of_change_and (C := Tryz.checked) (X := fun w _ => laidMetH Tryz.prog [("errors.errorType", Rows.laid_errors_errorType)] w) (fun _ _ _ hh h => h.of_heap hh) own started (by kernel_rfl) Tryz.func5
    (ChangeSpec.witness_at (enc := enc) (C := Tryz.checked) (os := os) (X := fun w _ => laidMetH Tryz.prog [("errors.errorType", Rows.laid_errors_errorType)] w) false (laidWorld os) #[.agg #[.slice none 0 0, .int .i64 0, .int .i64 0], .slice none 0 0] 8 rfl (by kernel_rfl) (by kernel_rfl) (by kernel_rfl) (by kernel_rfl) (by kernel_rfl) (laidWorld_met os _)) ?_
  intro W base args ds gs before hval0 hW _ hsz0 hX _
  have hsz : (DataW.weightsEach Tryz.prog (Tryz.f5.params.toList ++ Rows.vfsPlaysSpec.plain.varTypes Tryz.prog) (ds ++ gs)).all (· ≤ reachBytes) = true := hsz0
  clear hsz0
  have hval : ∀ (j : Nat) t v, Tryz.f5.params[j]? = some t → args[j]? = some v → Value.okWide Tryz.prog W .any base t v := hval0
  have hW' := hW
  obtain ⟨p, q, hA0, hV0, rfl, hfz, hnd⟩ := hW
  have hA : DataW.TrodAll enc Tryz.prog W 0 (fun _ => true) true Tryz.f5.params.toList args.toList ds p := hA0
  have hV : DataW.TrodVars enc Tryz.prog W (fun _ => true) [] gs q := hV0
  rw [Tryz.params5] at hA hval hsz
  obtain ⟨v0, vs0, d0, ds0, p0, q0, hargs, rfl, rfl, h0, r0⟩ := trodAll_cons hA
  obtain ⟨v1, vs1, d1, ds1, p1, q1, rfl, rfl, rfl, h1, r1⟩ := trodAll_cons r0
  obtain ⟨rfl, rfl, rfl⟩ := trodAll_nil r1
  obtain rfl : args = #[v0, v1] := by cases args; simp_all
  obtain ⟨rfl, rfl⟩ := trodVars_none hV
  obtain ⟨nv, clock, room, l, rfl, ht, hx, hl⟩ := tree_open (hval 0 24 v0 rfl rfl) h0 (fun n hn => by simpa using List.all_eq_true.1 hsz n (DataW.weights_mem_each (j := 0) (t := 24) rfl rfl n hn))
  have hv1 := hval 1 39 v1 rfl rfl
  obtain ⟨oa, on, oc, rfl⟩ := okWide_slice Tryz.underlying39 hv1
  obtain ⟨fuel1, hf1⟩ := h1
  obtain ⟨os1, ho, hox, hol⟩ := ops_open (nv := .slice oa on oc) hf1 (fun n hn => by simpa using List.all_eq_true.1 hsz n (DataW.weights_mem_each (j := 1) (t := 39) rfl rfl n hn))
  have h1 : DataW.Trod enc Tryz.prog W 0 (fun _ => true) true 39 (.slice oa on oc) d1 p1 := ⟨fuel1, hf1⟩
  clear hA0 hval0 hsz
  simp only [List.append_nil] at hW'
  have hlt : ∀ x, x ∈ p0 ++ (p1 ++ []) → x.block < W.heap.size := fun x hx => by simpa using hW'.lt x (by simpa using hx)
  refine (plays_calls ht (fun k hk => hk) hx hl ho (fun k hk => hk) hox hol (laid_of_met hX)).mono fun e W' ⟨he, hg⟩ => ?_
  subst he
  have k0 := Below.trod laidOut (by kernel_rfl) (of_decide_eq_true (by kernel_rfl)) h0 hg (fun x hx => hlt x (by simp [hx]))
  have k1 := Below.trod laidOut (by kernel_rfl) (of_decide_eq_true (by kernel_rfl)) h1 hg (fun x hx => hlt x (by simp [hx]))
  exact ⟨_, rfl, post_of_below (pa := p0 ++ (p1 ++ [])) (pv := []) hW' (fun _ _ _ => (trodAll_cons_mk (shut_bool Tryz.underlying4 _) trodAll_mk0)) (trodAll_cons_mk k0 (trodAll_cons_mk k1 trodAll_mk0)) rfl (by simp) hg⟩
theorem plays_holds : Rows.VfsPlaysSaid :=
  OpenClaim.holds_of_wide 5 Tryz.f5 rfl rfl rfl rfl rfl rfl rfl ⟨rfl, rfl, rfl, rfl, rfl⟩ rfl rfl rfl rfl rfl (by kernel_rfl) Tryz.func5 (by kernel_rfl)
    (of_decide_eq_true (by kernel_rfl)) (by unfold Func.isWrapper; rw [if_neg (of_decide_eq_false (by kernel_rfl))]; exact ⟨rfl, rfl⟩)
    (fun os started H enc _ => plays_lifted os started H enc)
/-- ████ THE STATEMENT ████ -/
theorem plays_proved : Rows.VfsPlaysCardSaid :=
  Claim7.holds_tied_plain_at .later [] [.handle] true (true, "6efd03bb968d5fbe6883d3aea9774bba6ac436c0d4760fe56a2974165dd8a8e7") true
    plays_holds (fun _ h => by cases h) (by kernel_rfl) (fun _ h => by cases h) vfsPlays_row_tie rfl ⟨rfl, rfl⟩ (by kernel_rfl) rfl
    (fun f fn hf hfn => by
      obtain rfl : f = 5 := Option.some.inj ((show Tryz.prog.funcNamed "anvil/anvillaw5.VfsPlays" = some 5 by kernel_rfl).symm.trans hf) |>.symm
      obtain rfl : fn = Tryz.f5 := (Option.some.inj (Tryz.func5.symm.trans hfn)).symm
      exact ⟨by kernel_rfl, fun j t ht => by
        rw [Tryz.params5] at ht
        rcases j with _ | _ | j
        · obtain rfl : t = 24 := by simpa using ht.symm
          exact (show Tryz.prog.wantsStandIn 24 = false by kernel_rfl)
        · obtain rfl : t = 39 := by simpa using ht.symm
          exact (show Tryz.prog.wantsStandIn 39 = false by kernel_rfl)
        · simp at ht⟩)
    (by kernel_rfl)
#print axioms plays_proved
end Go.Proofs.YtejofgdglpmlkaaGreatDoor
