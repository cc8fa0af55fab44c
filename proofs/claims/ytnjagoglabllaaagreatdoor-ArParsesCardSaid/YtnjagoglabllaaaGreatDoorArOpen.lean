/-
  Members that came in, opened: a list, in memory. Conditions: what the form's reach gives.
-/
import Derived.Test.YtnjagoglabllaaaGreatDoorArWrites
import Derived.Deep.Slices
import Derived.Deep.Strs
import Derived.Lib.SmallJoins
import Derived.SizedLaws
namespace Go.Proofs.YtnjagoglabllaaaGreatDoor
open Go.ChangeShapes Go.WideShapes Go.ChangeAt Go.RowKit

section
variable {H : Type} {enc : TypeId × Value → H} {w : World}
theorem addr_none {a : Addr} {v : Value} (h : w.cell? a = some v) : ∃ b off, a = ⟨b, off, none⟩ ∧ b < w.heap.size := by
  obtain ⟨b, off, sp⟩ := a
  have hb : b < w.heap.size := by
    unfold World.cell? at h
    cases hg : w.heap[b]? with
    | none => rw [hg] at h; simp at h
    | some o => exact heap_lt hg
  cases sp with
  | none => exact ⟨b, off, rfl, hb⟩
  | some x => unfold World.cell? at h; split at h <;> simp at h
theorem nat_byte {n : Int} (h : (Lit.int .u8 n).wf = true) : ∃ c : UInt8, n = (c.toNat : Int) := by
  have h2 : IntKind.u8.min ≤ n ∧ n ≤ IntKind.u8.max := by simpa [Lit.wf] using h
  rw [show IntKind.u8.min = 0 from rfl, show IntKind.u8.max = 255 from rfl] at h2
  exact ⟨n.toNat.toUInt8, by simp; omega⟩
theorem bytes_open {dv : Value} {n : Nat} {y : DataW H × List MemPlace} (h : DataW.trod enc Tryz.prog w 0 (fun _ => true) true n 26 [dv] = some y) (hsz : ∀ m ∈ y.1.weights Tryz.prog 26, m ≤ reachBytes) : ∃ d : Bs, BytesAt w dv d (fun j => j < w.heap.size) ∧ d.length ≤ 140737488355328 := by
  rcases open_ints Tryz.underlying26 Tryz.underlying5 (by kernel_rfl) h with ⟨hcs, hx⟩ | ⟨a, len, cap, zs, hcs, _, hl, hm, hz, hx, hcell, hwf⟩
  · injection hcs with hcs _
    subst hcs
    exact ⟨[], BytesAt.nil _ _, by simp⟩
  · injection hcs with hcs _
    subst hcs
    simp at hz
    have hz' : len ≤ zs.length := by omega
    have hb : ∀ i, i < zs.length → ∃ c : UInt8, zs.getD i 0 = (c.toNat : Int) := fun i hi => by
      rw [List.getD_eq_getElem?_getD, List.getElem?_eq_getElem hi]
      exact nat_byte (hwf _ (List.getElem_mem hi))
    refine ⟨(zs.take len).map fun z => z.toNat.toUInt8, ⟨some a, cap, by simp; omega, by simp; omega, hm, (fun e => by cases e), fun h0 => ?_⟩, ?_⟩
    · have hl0 : 0 < len := by simp at h0; omega
      have h1 := hcell 0 (by omega)
      have e0 : a.add 0 = a := by unfold Addr.add; rw [if_pos rfl]
      rw [e0] at h1
      obtain ⟨b, off, rfl, hbl⟩ := addr_none h1
      refine ⟨b, off, rfl, hbl, hbl, fun k x hk => ?_⟩
      rw [List.getElem?_map] at hk
      obtain ⟨z, hz1, rfl⟩ := Option.map_eq_some_iff.1 hk
      have hkl : k < len := by have := (List.getElem?_eq_some_iff.1 hz1).1; simp at this; omega
      rw [List.getElem?_take_of_lt hkl] at hz1
      have h2 := hcell k (by omega)
      have ad : (⟨b, off, none⟩ : Addr).add k = ⟨b, off + k, none⟩ := by unfold Addr.add; split <;> simp_all
      rw [ad, List.getD_eq_getElem?_getD, hz1] at h2
      rw [h2]
      obtain ⟨c, hc⟩ := hb k (by omega)
      rw [List.getD_eq_getElem?_getD, hz1] at hc
      simp only [Option.getD_some] at hc ⊢
      rw [hc]; simp
    · have h3 := hsz (zs.length * Tryz.prog.bytesOf 5) (by
        rw [show y.1 = _ from congrArg Prod.fst hx]
        simp only [DataW.weights, Tryz.underlying26]
        refine List.mem_cons.2 (Or.inl ?_)
        simp only [lits, List.length_map, List.length_take, List.length_drop]
        congr 1; omega)
      rw [show Tryz.prog.bytesOf 5 = 1 by kernel_rfl] at h3
      unfold reachBytes at h3
      simp only [List.length_map, List.length_take]
      omega
theorem addr_zero {a : Addr} {cs : List Value} (h : w.cells? 0 (a.add (0 * 3)) 3 = some cs) : ∃ b off, a = ⟨b, off, none⟩ ∧ b < w.heap.size := by
  obtain ⟨-, hl, hc⟩ := World.cells?_some h
  have h0 := hc 0 (by omega)
  have z0 : ∀ x : Addr, x.add 0 = x := fun x => by unfold Addr.add; rw [if_pos rfl]
  rw [Nat.zero_mul, z0, z0, List.getElem?_eq_getElem (by omega)] at h0
  exact addr_none h0
theorem cells_at {b off i : Nat} {cs : List Value} (h : w.cells? 0 ((⟨b, off, none⟩ : Addr).add (i * 3)) 3 = some cs) : ∃ c0 c1 c2, cs = [c0, c1, c2] ∧ w.cell? ⟨b, off + i * 3, none⟩ = some c0 ∧ w.cell? ⟨b, off + i * 3 + 1, none⟩ = some c1 ∧ w.cell? ⟨b, off + i * 3 + 2, none⟩ = some c2 := by
  obtain ⟨-, hl, hc⟩ := World.cells?_some h
  match cs, hl with
  | [c0, c1, c2], _ =>
    have h0 := hc 0 (by omega)
    have h1 := hc 1 (by omega)
    have h2 := hc 2 (by omega)
    have ad : ∀ j o : Nat, (⟨b, o, none⟩ : Addr).add j = ⟨b, o + j, none⟩ := fun j o => by unfold Addr.add; split <;> simp_all
    rw [ad, ad] at h0 h1 h2
    exact ⟨c0, c1, c2, rfl, by simpa using h0, by simpa using h1, by simpa using h2⟩
theorem date_in {n : Int} (h : (Lit.int .i64 n).wf = true) : -9223372036854775808 ≤ n ∧ n ≤ 9223372036854775807 := by
  have h2 : IntKind.i64.min ≤ n ∧ n ≤ IntKind.i64.max := by simpa [Lit.wf] using h
  exact h2
/-- What a row gives of one member. -/
def MemOk (x : Mem) : Prop := x.name.length ≤ 140737488355328 ∧ x.data.length ≤ 140737488355328 ∧ -9223372036854775808 ≤ x.date ∧ x.date ≤ 9223372036854775807
set_option maxRecDepth 100000 in
theorem mem_open {cs : List Value} {n : Nat} {y : DataW H × List MemPlace} (h : DataW.trod enc Tryz.prog w 0 (fun _ => true) true n 37 cs = some y) (hsz : ∀ m ∈ y.1.weights Tryz.prog 37, m ≤ reachBytes) :
    ∃ (x : Mem) (dv : Value), cs = [.string (mk x.name), .int .i64 x.date, dv] ∧ BytesAt w dv x.data (fun j => j < w.heap.size) ∧ MemOk x := by
  obtain ⟨y0, y1, y2, n', hx, hl, h0, h1, h2⟩ := Go.Deep.trod_struct3 Tryz.underlying37 h
  have hl4 : cs.length = 3 := hl.trans (by kernel_rfl)
  match cs, hl4 with
  | [c0, c1, c2], _ =>
    have e0 : DataW.trod enc Tryz.prog w 0 (fun _ => true) true n' 9 [c0] = some y0 := h0
    have e1 : DataW.trod enc Tryz.prog w 0 (fun _ => true) true n' 3 [c1] = some y1 := h1
    have e2 : DataW.trod enc Tryz.prog w 0 (fun _ => true) true n' 26 [c2] = some y2 := h2
    have hw : y.1.weights Tryz.prog 37 = DataW.weightsEach Tryz.prog [9, 3, 26] [y0.1, y1.1, y2.1] := by
      rw [show y.1 = _ from congrArg Prod.fst hx]
      simp only [DataW.weights, Tryz.underlying37]
      rfl
    rw [hw] at hsz
    obtain ⟨s, hs, hy0, -⟩ := DataW.trod_string Tryz.underlying9 e0
    obtain ⟨t, ht, -, hwf⟩ := DataW.trod_int Tryz.underlying3 e1
    obtain ⟨d, hd, hdl⟩ := bytes_open e2 (fun m hm => hsz m (DataW.weights_mem_each (j := 2) rfl rfl m hm))
    injection hs with hs _
    injection ht with ht _
    subst hs ht
    refine ⟨⟨s.data.toList, t, d⟩, c2, by rw [mk_back], hd, ?_, hdl, date_in hwf⟩
    have := hsz s.data.toList.length (DataW.weights_mem_each (j := 0) rfl rfl _ (by rw [hy0]; simp [DataW.weights]))
    unfold reachBytes at this
    show s.data.toList.length ≤ _
    omega
set_option maxRecDepth 100000 in
theorem mems_open {nv : Value} {n : Nat} {y : DataW H × List MemPlace} (h : DataW.trod enc Tryz.prog w 0 (fun _ => true) true n 22 [nv] = some y) (hsz : ∀ m ∈ y.1.weights Tryz.prog 22, m ≤ reachBytes) :
    ∃ l : List Mem, MemsAt w nv l (fun j => j < w.heap.size) ∧ MemsOk l := by
  rcases Go.Deep.open_slice Tryz.underlying22 h with ⟨hcs, hx⟩ | ⟨a, len, cap, m, n', D, Pl, hcs, _, hl, hm, hmm, hx, hel⟩
  · injection hcs with hcs _
    subst hcs
    exact ⟨[], MemsAt.nil _ _, ⟨by simp, by simp⟩⟩
  · injection hcs with hcs _
    subst hcs
    simp at hmm
    subst hmm
    rw [show Tryz.prog.cellsOf 37 = 3 by kernel_rfl] at hel
    have hw : y.1.weights Tryz.prog 22 = (((List.range len).map D).length + ((List.range (m - len)).map fun j => D (len + j)).length) * Tryz.prog.bytesOf 37 :: (DataW.weightsAll Tryz.prog 37 ((List.range len).map D) ++ DataW.weightsAll Tryz.prog 37 ((List.range (m - len)).map fun j => D (len + j))) := by
      rw [show y.1 = _ from congrArg Prod.fst hx]
      simp only [DataW.weights, Tryz.underlying22]
    have hall : ∀ (ds : List (DataW H)) (d : DataW H), d ∈ ds → ∀ k ∈ d.weights Tryz.prog 37, k ∈ DataW.weightsAll Tryz.prog 37 ds := by
      intro ds
      induction ds with
      | nil => intro d hd; cases hd
      | cons e r ih =>
        intro d hd k hk
        rw [DataW.weightsAll, List.mem_append]
        rcases List.mem_cons.1 hd with rfl | hd
        · exact Or.inl hk
        · exact Or.inr (ih d hd k hk)
    haveI : Inhabited Mem := ⟨⟨[], 0, []⟩⟩
    obtain ⟨X, hX⟩ := Go.Deep.choose_lt (n := len) (p := fun i (x : Mem) => (∃ b off dv, a = ⟨b, off, none⟩ ∧ b < w.heap.size ∧ w.cell? ⟨b, off + i * 3, none⟩ = some (.string (mk x.name)) ∧ w.cell? ⟨b, off + i * 3 + 1, none⟩ = some (.int .i64 x.date) ∧ w.cell? ⟨b, off + i * 3 + 2, none⟩ = some dv ∧ BytesAt w dv x.data (fun j => j < w.heap.size)) ∧ MemOk x) (fun i hi => by
      obtain ⟨cs, hc, ht⟩ := hel i (by omega)
      obtain ⟨x, dv, e, hd, h1⟩ := mem_open ht (fun k hk => hsz k (by
        rw [hw]
        exact List.mem_cons_of_mem _ (List.mem_append_left _ (hall _ (D i) (List.mem_map.2 ⟨i, List.mem_range.2 hi, rfl⟩) k hk))))
      subst e
      obtain ⟨cs', hc', -⟩ := hel 0 (by omega)
      obtain ⟨b, off, rfl, hb⟩ := addr_zero hc'
      obtain ⟨c0, c1, c2, e, g0, g1, g2⟩ := cells_at hc
      injection e with e0 e; injection e with e1 e; injection e with e2 _
      subst e0 e1 e2
      exact ⟨x, ⟨b, off, dv, rfl, hb, g0, g1, g2, hd⟩, h1⟩)
    have hlen : ((List.range len).map X).length = len := by simp
    refine ⟨(List.range len).map X, ⟨some a, m, by rw [hlen], by rw [hlen]; exact hl, hm, (fun e => by cases e), fun h0 => ?_⟩, fun x hx => ?_, ?_⟩
    · rw [hlen] at h0
      obtain ⟨⟨b, off, dv0, ea, hb, -⟩, -⟩ := hX 0 h0
      refine ⟨b, off, by rw [ea], hb, hb, fun k x hk => ?_⟩
      have hkl : k < len := by have := (List.getElem?_eq_some_iff.1 hk).1; simpa using this
      rw [List.getElem?_map, List.getElem?_range hkl] at hk
      simp at hk
      subst hk
      obtain ⟨⟨b', off', dv, ea', hb', g⟩, -⟩ := hX k hkl
      rw [ea] at ea'
      injection ea' with e1 e2
      subst e1 e2
      exact ⟨dv, g⟩
    · obtain ⟨i, hi, rfl⟩ := List.mem_map.1 hx
      exact (hX i (List.mem_range.1 hi)).2
    · have := hsz _ (by rw [hw]; exact List.mem_cons_self ..)
      rw [show Tryz.prog.bytesOf 37 = 48 by kernel_rfl] at this
      unfold reachBytes at this
      simp only [List.length_map, List.length_range] at this ⊢
      omega
end
end Go.Proofs.YtnjagoglabllaaaGreatDoor
