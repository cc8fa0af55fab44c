/-
  The reference's file system: a node goes (drop). Conditions: at most 2^20 nodes.
-/
import Derived.Test.YtejofgdglpmlkaaGreatDoorM16
namespace Go.Proofs.YtejofgdglpmlkaaGreatDoor
open Go.RowKit

theorem nflat_take : ∀ (L : List NV) (k : Nat), (nflat L).take (k * 4) = nflat (L.take k)
  | [], k => by simp [nflat]
  | x :: L, 0 => by simp [nflat]
  | x :: L, k + 1 => by
    rw [nflat, show (k + 1) * 4 = x.cells.length + k * 4 by simp [NV.cells]; omega, List.take_length_add_append, nflat_take L k, List.take_succ_cons, nflat]
theorem nflat_drop : ∀ (L : List NV) (k : Nat), (nflat L).drop (k * 4) = nflat (L.drop k)
  | [], k => by simp [nflat]
  | x :: L, 0 => by simp
  | x :: L, k + 1 => by
    rw [nflat, show (k + 1) * 4 = x.cells.length + k * 4 by simp [NV.cells]; omega, List.drop_length_add_append, nflat_drop L k, List.drop_succ_cons]
theorem row_form {w : World} {v : Value} {n : Nat} {xs : List Value} (h : w.ownsRow 0 54 4 v n xs) : ∃ a c, v = .slice a n c := by
  rcases h.2 with ⟨rfl, hn⟩ | ⟨g, cap, cur, rfl, _⟩
  · exact ⟨none, 0, by rw [hn]⟩
  · exact ⟨_, _, rfl⟩
theorem add_block (a : Addr) (j : Nat) : (a.add j).block = a.block := by unfold Addr.add; split <;> rfl
theorem row_cells {w : World} {ad : Addr} {m n c : Nat} {xs : List Value} (h : w.ownsRow 0 54 4 (.slice (some ad) m c) n xs) : ∀ (j : Nat) (u : Value), xs[j]? = some u → w.cell? (ad.add j) = some u := by
  have hc := fun g hg => h.cells (g := g) hg
  rcases h.2 with ⟨e, _⟩ | ⟨g, cap, cur, e, _⟩
  · cases e
  · injection e with e1 e2 e3
    injection e1 with e1
    subst e1
    exact hc g rfl
theorem row_none {w : World} {n c : Nat} {L : List NV} (h : w.ownsRow 0 54 4 (.slice none n c) L.length (nflat L)) : L = [] := by
  rcases h.2 with ⟨_, hn⟩ | ⟨g, cap, cur, e, _⟩
  · exact List.length_eq_zero_iff.1 hn
  · injection e with e1; cases e1
theorem nflat_one : ∀ L : List NV, (∀ x ∈ L, ∃ a n c, x.dv = .slice a n c) → ∀ u ∈ nflat L, u.oneCell' = true
  | [], _, u, hu => by simp [nflat] at hu
  | x :: L, h, u, hu => by
    rw [nflat] at hu
    rcases List.mem_append.1 hu with hu | hu
    · exact node_one x (h x (by simp)) u hu
    · exact nflat_one L (fun y hy => h y (by simp [hy])) u hu
/-- A row's beginning is a row. -/
theorem ownsRow_take {w : World} {a : Option Addr} {n c k : Nat} {L : List NV} (h : w.ownsRow 0 54 4 (.slice a n c) L.length (nflat L)) (hk : k ≤ L.length) : w.ownsRow 0 54 4 (.slice a k c) (L.take k).length (nflat (L.take k)) := by
  have hkl : (L.take k).length = k := by rw [List.length_take]; omega
  rw [hkl]
  refine ⟨by rw [nflat_length, hkl], ?_⟩
  rcases h.2 with ⟨e, hn⟩ | ⟨g, cap, cur, e, hg, hc, h1, h2, h3, h4⟩
  · injection e with e1 e2 e3
    subst e1 e3
    have : k = 0 := by omega
    subst this
    exact Or.inl ⟨rfl, rfl⟩
  · injection e with e1 e2 e3
    subst e1 e3
    refine Or.inr ⟨g, c, cur, rfl, hg, hc, by omega, h2, h3, ?_⟩
    rw [← nflat_take, ← h4, List.take_take]
    congr 1
    exact (Nat.min_eq_left (by omega)).symm
/-- The address behind a cut. -/
def cutA (g c k : Nat) : Addr := if c = k then ⟨g, 0, none⟩ else ⟨g, k * 4, none⟩
theorem cutA_block (g c k j : Nat) : ((cutA g c k).add j).block = g := by unfold cutA; split <;> rw [addr_lit]
theorem cut_cells {w : World} {g n c k : Nat} {L : List NV} (h : w.ownsRow 0 54 4 (.slice (some ⟨g, 0, none⟩) n c) L.length (nflat L)) : ∀ (j : Nat) (u : Value), (nflat (L.drop k))[j]? = some u → w.cell? ((cutA g c k).add j) = some u := by
  intro j u hu
  have hcell := h.cells (g := g) rfl
  rw [← nflat_drop, List.getElem?_drop] at hu
  have := hcell _ _ hu
  unfold cutA
  split
  · rename_i e
    subst e
    have hl := (List.getElem?_eq_some_iff.1 hu).1
    rw [nflat_length] at hl
    rcases h.2 with ⟨e, _⟩ | ⟨g', cap, cur, e, _, _, h1, _⟩
    · cases e
    · injection e with e1 e2 e3; omega
  · rw [addr_lit] at this ⊢
    rw [Nat.zero_add] at this
    exact this
set_option maxRecDepth 100000 in
theorem run_append_nodes (w : World) (v : Value) (L1 L2 : List NV) (h : w.ownsRow 0 54 4 v L1.length (nflat L1)) (xa : Option Addr) (c : Nat) (ty : TypeId) (hcells : ∀ ad, xa = some ad → ∀ (j : Nat) (u : Value), (nflat L2)[j]? = some u → w.cell? (ad.add j) = some u)
    (hnone : xa = none → L2 = []) (hone : ∀ x ∈ L2, ∃ a n c, x.dv = .slice a n c) (hl : L1.length + L2.length ≤ 1099511627776) :
    ∃ v' w', (Builtin.append_ #[22, 22] ty #[v, .slice xa L2.length c]).run Tryz.prog w = .ok v' w' ∧ w'.ownsRow 0 54 4 v' (L1 ++ L2).length (nflat (L1 ++ L2)) ∧ w.grownBy w' v.ownBlock ∧ (v'.ownBlock = v.ownBlock ∨ v'.ownBlock = some w.heap.size) := by
  obtain ⟨i0, hi, hz0, hz1, hz2⟩ := info_parts infoNode
  cases xa with
  | none =>
    obtain rfl := hnone rfl
    refine ⟨v, w, ?_, by simpa using h, ⟨rfl, rfl, rfl, Nat.le_refl _, fun _ _ _ => rfl⟩, Or.inl rfl⟩
    rcases h.2 with ⟨rfl, hn⟩ | ⟨g, cap, cur, rfl, hbg, hg, hnc, hcm, hcs, htake⟩
    · simp [Builtin.append_, run_underlying Tryz.underlying22, sizeOf, typeInfo, hi, Builtin.lenOf, Builtin.firstCells]
    · simp [Builtin.append_, run_underlying Tryz.underlying22, sizeOf, typeInfo, hi, Builtin.lenOf, Builtin.firstCells, storeCells, hnc]
  | some ad =>
    obtain ⟨v', w', hrun, ho, hg, _, hat⟩ := run_append_own_at (P := Tryz.prog) w 0 22 ty 54 i0 _ 4 56 Tryz.underlying22 hi hz0 hz1 hz2 rfl (by decide) v L1.length (nflat L1) h ad L2.length c (nflat L2) (nflat_length L2) (hcells ad rfl) (nflat_one L2 hone) (by unfold maxLen; omega) (by omega) (Nat.zero_le _)
    rw [← nflat_append, ← List.length_append] at ho
    exact ⟨v', w', hrun, ho, hg, hat⟩
theorem step_append_nodes {ops : Array Oper} {o : Oper} {a : Act} {w : World} {K : Act → World → Prop} {Q : Exit → Act → World → Prop} {E : Prop} (hgd : o.guard = none) (s x : Operand) (ho : o.op = .call { callee := .builtin .append, args := #[s, x], argTypes := #[22, 22] })
    (v : Value) (L1 L2 : List NV) (hs : a.eval s = v) (h : w.ownsRow 0 54 4 v L1.length (nflat L1)) (xa : Option Addr) (n c : Nat) (hn : L2.length = n) (hx : a.eval x = .slice xa n c) (hcells : ∀ ad, xa = some ad → ∀ (j : Nat) (u : Value), (nflat L2)[j]? = some u → w.cell? (ad.add j) = some u)
    (hnone : xa = none → L2 = []) (hone : ∀ x ∈ L2, ∃ a n c, x.dv = .slice a n c) (hl : L1.length + L2.length ≤ 1099511627776)
    (hK : ∀ v' w', w'.ownsRow 0 54 4 v' (L1 ++ L2).length (nflat (L1 ++ L2)) → w.grownBy w' v.ownBlock → (v'.ownBlock = v.ownBlock ∨ v'.ownBlock = some w.heap.size) → K (a.put o.dst v') w') :
    if Region.wanted o (yielded ops a.tmps) = true then Oper.wp Tryz.prog o a w K Q else E := by
  have hw : Region.wanted o (yielded ops a.tmps) = true := by simp [Region.wanted, hgd]
  rw [if_pos hw]
  subst hn
  obtain ⟨v', w', hr, h2, h3, h4⟩ := run_append_nodes w v L1 L2 h xa c o.type hcells hnone hone hl
  unfold Oper.wp execOp
  simp only [ho, resolve, invoke, builtin, Sem.run_bind, Sem.run_pure, Result.andThen_ok, List.map_toArray, List.map_cons, List.map_nil, hs, hx, hr]
  exact hK v' w' h2 h3 h4
theorem wpList_append_nodes {ops : Array Oper} {rest : List Oper} {o : Oper} {a : Act} {w : World} {Q : Exit → Act → World → Prop} (hgd : o.guard = none) (s x : Operand) (ho : o.op = .call { callee := .builtin .append, args := #[s, x], argTypes := #[22, 22] })
    (v : Value) (L1 L2 : List NV) (hs : a.eval s = v) (h : w.ownsRow 0 54 4 v L1.length (nflat L1)) (xa : Option Addr) (n c : Nat) (hn : L2.length = n) (hx : a.eval x = .slice xa n c) (hcells : ∀ ad, xa = some ad → ∀ (j : Nat) (u : Value), (nflat L2)[j]? = some u → w.cell? (ad.add j) = some u)
    (hnone : xa = none → L2 = []) (hone : ∀ x ∈ L2, ∃ a n c, x.dv = .slice a n c) (hl : L1.length + L2.length ≤ 1099511627776)
    (hK : ∀ v' w', w'.ownsRow 0 54 4 v' (L1 ++ L2).length (nflat (L1 ++ L2)) → w.grownBy w' v.ownBlock → (v'.ownBlock = v.ownBlock ∨ v'.ownBlock = some w.heap.size) → wpList Tryz.prog ops Q rest (a.put o.dst v') w') :
    wpList Tryz.prog ops Q (o :: rest) a w := by
  refine wpList_plain hgd fun K hKK => ?_
  subst hn
  obtain ⟨v', w', hr, h2, h3, h4⟩ := run_append_nodes w v L1 L2 h xa c o.type hcells hnone hone hl
  unfold Oper.wp execOp
  simp only [ho, resolve, invoke, builtin, Sem.run_bind, Sem.run_pure, Result.andThen_ok, List.map_toArray, List.map_cons, List.map_nil, hs, hx, hr]
  exact hKK _ _ (hK v' w' h2 h3 h4)
section
variable {w w' : World} {fb : Nat} {fv fv' : Value} {L L' : List NV} {R : Nat → Prop} {l : St} {clock clock' room : Int}
theorem RefIn.forms (h : RefIn w fb fv L R l clock room) : ∀ x ∈ L, ∃ a n c, x.dv = .slice a n c := fun x hx => by
  obtain ⟨a, c, e⟩ := (h.data x hx).form
  exact ⟨a, _, c, e⟩
/-- The row of nodes is another one. -/
theorem RefIn.turn (h : RefIn w fb fv L R l clock room) (hos : w'.os = w.os) (htp : w'.tape = w.tape) (hou : w'.output = w.output) (hsz : w.heap.size ≤ w'.heap.size) (hb : ∀ k, k < w.heap.size → k ≠ fb → fv.ownBlock ≠ some k → w'.heap[k]? = w.heap[k]?)
    (hc : w'.heap[fb]? = some (.cells #[fv', .int .i64 clock', .int .i64 room] 62 (0, 0))) (hrow : w'.ownsRow 0 54 4 fv' L'.length (nflat L')) (hown : ∀ g, fv'.ownBlock = some g → fv.ownBlock = some g ∨ w.heap.size ≤ g)
    (hdata : ∀ x ∈ L', x ∈ L ∨ BytesAt w' x.dv x.n.data (fun j => Plus R w.heap.size w'.heap.size j ∧ j ≠ fb ∧ fv'.ownBlock ≠ some j)) : RefIn w' fb fv' L' (Plus R w.heap.size w'.heap.size) (L'.map NV.nd) clock' room ∧ Kept R w w' := by
  have hfl := heap_lt h.hc
  refine ⟨⟨hc, Or.inl h.rf, rfl, hrow, fun g hg => ?_, fun x hx => ?_, fun b hb => ?_⟩, ⟨hos, htp, hou, hsz, fun k hk hR => hb k hk (fun e => hR (e ▸ h.rf)) (fun e => hR (h.own k e).1)⟩⟩
  · rcases hown g hg with h1 | h1
    · exact ⟨Or.inl (h.own g h1).1, (h.own g h1).2⟩
    · exact ⟨Or.inr ⟨h1, (hrow.lt g hg).2⟩, by omega⟩
  · rcases hdata x hx with h1 | h1
    · refine (h.data x h1).of_heap (fun k hk => hb k (h.lt k hk.1) hk.2.1 hk.2.2) (fun k hk => ⟨Or.inl hk.1, hk.2.1, fun e => ?_⟩)
      rcases hown k e with h2 | h2
      · exact hk.2.2 h2
      · have := h.lt k hk.1; omega
    · exact h1
  · rcases hb with hb | hb
    · exact Nat.lt_of_lt_of_le (h.lt b hb) hsz
    · exact hb.2
/-- Bytes of the file system's own, beside its row, stay. -/
def Saved (w w' : World) (fb : Nat) (fv fv' : Value) (R : Nat → Prop) : Prop :=
  ∀ dv dat, BytesAt w dv dat (fun j => R j ∧ j ≠ fb ∧ fv.ownBlock ≠ some j) → BytesAt w' dv dat (fun j => Plus R w.heap.size w'.heap.size j ∧ j ≠ fb ∧ fv'.ownBlock ≠ some j)
/-- What drop's region loads. -/
def FHeld (fb : Nat) (fv : Value) (w' : World) : Prop := w'.cell? ⟨fb, 0, none⟩ = some fv
set_option maxRecDepth 100000 in
set_option maxHeartbeats 4000000 in
theorem refdrop_calls (h : RefIn w fb fv L R l clock room) (hl : l.length ≤ 1048576) (k : Nat) (hk : k < l.length) :
    Calls Tryz.prog 65 #[.pointer (some ⟨fb, 0, none⟩), .int .i64 k] w fun e w' => e = .returned (.tuple #[]) ∧ ∃ fv' L', RefIn w' fb fv' L' (Plus R w.heap.size w'.heap.size) (l.take k ++ l.drop (k + 1)) clock room ∧ Kept R w w' ∧ Saved w w' fb fv fv' R := by
  have hLl : L.length = l.length := by rw [← h.eq, List.length_map]
  have hrow := h.row
  obtain ⟨g, c, hfv⟩ : ∃ g c, fv = .slice (some ⟨g, 0, none⟩) l.length c := by
    rcases hrow.2 with ⟨e, hn⟩ | ⟨g, cap, cur, e, _⟩
    · omega
    · exact ⟨g, cap, by rw [e, hLl]⟩
  subst hfv
  have hcap : l.length ≤ c := by
    rcases hrow.2 with ⟨e, hn⟩ | ⟨g, cap, cur, e, _, _, h1, _⟩
    · cases e
    · injection e with e1 e2 e3; omega
  have hcm : c ≤ maxLen := by
    rcases hrow.2 with ⟨e, hn⟩ | ⟨g, cap, cur, e, _, _, _, h1, _⟩
    · cases e
    · injection e with e1 e2 e3; omega
  unfold maxLen at hcm
  have k1 := Lib.hid (ownsRow_take (k := k) hrow (by omega))
  have kform := Lib.hid h.forms
  have kh := Lib.hid h
  have hfl := heap_lt h.hc
  obtain ⟨f0, f1, f2, ff⟩ := cells3 h.hc
  have kf0 := Lib.hid f0
  have z0 : (0 : Int) ≤ (k : Int) := by omega
  have z1 : (k : Int) < (l.length : Int) := by omega
  have z2 : (k : Int) ≤ (c : Int) := by omega
  obtain ⟨k1', hk1'⟩ : ∃ k1', k1' = k + 1 := ⟨_, rfl⟩
  have hwk : IntKind.i64.wrap ((k : Int) + 1) = (k1' : Int) := by rw [IntWalk.i64_in _ (by omega)]; omega
  have z3 : (0 : Int) ≤ (k1' : Int) := by omega
  have z4 : (k1' : Int) ≤ (l.length : Int) := by omega
  have k3 := Lib.hid (cut_cells (k := k1') hrow)
  have hkt : (L.take k).length = k := by rw [List.length_take]; omega
  have hkd : (L.drop k1').length = l.length - k1' := by rw [List.length_drop]; omega
  have hgl := (hrow.lt g rfl).2
  have khk := Lib.hid hk1'
  clear hk1'
  clear h hrow f1 f2
  go_enter Tryz.func65, Tryz.ntmps65
  go_wp2
  refine lbegin 18 (FHeld fb (.slice (some ⟨g, 0, none⟩) l.length c)) (by kernel_rfl) ?_
  refine ltake 18 0 (some 4) ?_ rfl kf0.out (by rfl) (fun w' hw => ?_) ?_
  rotate_left 1
  · have p0 : w'.cell? ⟨fb, 0, none⟩ = some (.slice (some ⟨g, 0, none⟩) l.length c) := hw; go_simp; first | done | with_reducible rfl
  try simp only [pz0, pz1, pz2, pz3]
  refine ltake 18 1 (some 5) ?_ rfl kf0.out (by rfl) (fun w' hw => ?_) ?_
  rotate_left 1
  · have p0 : w'.cell? ⟨fb, 0, none⟩ = some (.slice (some ⟨g, 0, none⟩) l.length c) := hw; go_simp; first | done | with_reducible rfl
  try simp only [pz0, pz1, pz2, pz3]
  refine ltake 18 2 (some 6) ?_ rfl kf0.out (by rfl) (fun w' hw => ?_) ?_
  rotate_left 1
  · have p0 : w'.cell? ⟨fb, 0, none⟩ = some (.slice (some ⟨g, 0, none⟩) l.length c) := hw; go_simp; first | done | with_reducible rfl
  try simp only [pz0, pz1, pz2, pz3]
  refine ltake 18 3 (some 7) ?_ rfl kf0.out (by rfl) (fun w' hw => ?_) ?_
  rotate_left 1
  · have p0 : w'.cell? ⟨fb, 0, none⟩ = some (.slice (some ⟨g, 0, none⟩) l.length c) := hw; go_simp; first | done | with_reducible rfl
  try simp only [pz0, pz1, pz2, pz3]
  refine ltake 18 4 (some 8) ?_ rfl kf0.out (by rfl) (fun w' hw => ?_) ?_
  rotate_left 1
  · have p0 : w'.cell? ⟨fb, 0, none⟩ = some (.slice (some ⟨g, 0, none⟩) l.length c) := hw; go_simp; first | done | with_reducible rfl
  try simp only [pz0, pz1, pz2, pz3]
  refine ltake 18 5 (some 9) ?_ rfl kf0.out (by rfl) (fun w' hw => ?_) ?_
  rotate_left 1
  · have p0 : w'.cell? ⟨fb, 0, none⟩ = some (.slice (some ⟨g, 0, none⟩) l.length c) := hw; go_simp; first | done | with_reducible rfl
  try simp only [pz0, pz1, pz2, pz3]
  refine ltake 18 6 (some 10) (.slice (some ⟨g, 0, none⟩) k c) rfl kf0.out (by rfl) (fun w' hw => ?_) ?_
  · have p0 : w'.cell? ⟨fb, 0, none⟩ = some (.slice (some ⟨g, 0, none⟩) l.length c) := hw; go_simp; first | done | (simp [sliced, addr_lit]; done)
  try simp only [pz0, pz1, pz2, pz3]
  refine ltake 18 8 (some 12) ?_ rfl kf0.out (by rfl) (fun w' hw => ?_) ?_
  rotate_left 1
  · have p0 : w'.cell? ⟨fb, 0, none⟩ = some (.slice (some ⟨g, 0, none⟩) l.length c) := hw; go_simp; first | done | with_reducible rfl
  try simp only [pz0, pz1, pz2, pz3]
  refine ltake 18 9 (some 13) ?_ rfl kf0.out (by rfl) (fun w' hw => ?_) ?_
  rotate_left 1
  · have p0 : w'.cell? ⟨fb, 0, none⟩ = some (.slice (some ⟨g, 0, none⟩) l.length c) := hw; go_simp; first | done | with_reducible rfl
  try simp only [pz0, pz1, pz2, pz3]
  refine ltake 18 10 (some 14) ?_ rfl kf0.out (by rfl) (fun w' hw => ?_) ?_
  rotate_left 1
  · have p0 : w'.cell? ⟨fb, 0, none⟩ = some (.slice (some ⟨g, 0, none⟩) l.length c) := hw; go_simp; first | done | with_reducible rfl
  try simp only [pz0, pz1, pz2, pz3]
  refine ltake 18 11 (some 15) ?_ rfl kf0.out (by rfl) (fun w' hw => ?_) ?_
  rotate_left 1
  · have p0 : w'.cell? ⟨fb, 0, none⟩ = some (.slice (some ⟨g, 0, none⟩) l.length c) := hw; go_simp; first | done | with_reducible rfl
  try simp only [pz0, pz1, pz2, pz3]
  refine ltake 18 12 (some 16) ?_ rfl kf0.out (by rfl) (fun w' hw => ?_) ?_
  rotate_left 1
  · have p0 : w'.cell? ⟨fb, 0, none⟩ = some (.slice (some ⟨g, 0, none⟩) l.length c) := hw; go_simp; first | done | with_reducible rfl
  try simp only [pz0, pz1, pz2, pz3]
  refine ltake 18 13 (some 17) ?_ rfl kf0.out (by rfl) (fun w' hw => ?_) ?_
  rotate_left 1
  · have p0 : w'.cell? ⟨fb, 0, none⟩ = some (.slice (some ⟨g, 0, none⟩) l.length c) := hw; go_simp; first | done | with_reducible rfl
  try simp only [pz0, pz1, pz2, pz3]
  refine ltake 18 14 (some 18) (.slice (some (cutA g c k1')) (l.length - k1') (c - k1')) rfl kf0.out (by rfl) (fun w' hw => ?_) ?_
  · have p0 : w'.cell? ⟨fb, 0, none⟩ = some (.slice (some ⟨g, 0, none⟩) l.length c) := hw; go_simp; first | done | (unfold cutA; split <;> simp_all; done)
  try simp only [pz0, pz1, pz2, pz3]
  refine lready (rs := [7]) (by kernel_rfl) (by simp) (lcons rfl (fun K hK => ?_) (lnil))
  refine step_append_nodes (by rfl) _ _ (by rfl) (.slice none 0 0) [] (L.take k) (by rfl) (World.ownsRow_nil _ _ _ _) (some ⟨g, 0, none⟩) k c hkt (by rfl) (fun ad e => by injection e with e; subst e; exact fun j u hu => k1.out.cells (g := g) rfl j u hu) (fun e => by cases e) (fun x hx => kform.out x (List.mem_of_mem_take hx)) (by rw [hkt, List.length_nil]; omega) ?_
  intro v6 w6 h6 hg6 hat6
  have kg6 := Lib.hid (show w.grownBy w6 none from ⟨hg6.os, hg6.tape, hg6.output, hg6.size, hg6.block⟩)
  have k6 := Lib.hid h6
  have kv6 := Lib.hid (show ∀ q, v6.ownBlock = some q → w.heap.size ≤ q from fun q hq => by rcases hat6 with e | e <;> rw [e] at hq; cases hq; injection hq with hq; exact Nat.le_of_eq hq)
  clear h6 hg6 hat6
  have hw6 := kg6.out.size
  have kc6 := Lib.hid (show w6.heap[fb]? = _ from (kg6.out.block fb hfl (fun e => by cases e)).trans kh.out.hc)
  have kf6 := Lib.hid (show w6.cell? ⟨fb, 0, none⟩ = some (.slice (some ⟨g, 0, none⟩) l.length c) from (cells3 kc6.out).1)
  refine hK.out _ _ (fun _ => kf6.out) (fun hH6 => ?_)
  clear hK K
  try simp only [pz0, pz1, pz2, pz3]
  refine lready (rs := [15]) (by kernel_rfl) (by simp) (lcons rfl (fun K hK => ?_) (lnil))
  refine step_append_nodes (by rfl) _ _ (by rfl) v6 (L.take k) (L.drop k1') (by rfl) (by simpa using k6.out) (some (cutA g c k1')) (l.length - k1') (c - k1') hkd (by rfl) (fun ad e => by injection e with e; subst e; exact fun j u hu => (World.cell?_of_block (kg6.out.block _ (by rw [cutA_block]; exact hgl) (fun e => by cases e))).trans (k3.out j u hu)) (fun e => by cases e) (fun x hx => kform.out x (List.mem_of_mem_drop hx)) (by rw [hkt, hkd]; omega) ?_
  intro v7 w7 h7 hg7 hat7
  obtain ⟨a7, c7, hv7⟩ := row_form h7
  generalize hn7 : (L.take k ++ L.drop k1').length = n7 at *
  subst hv7
  have kg7 := Lib.hid hg7
  have k7 := Lib.hid h7
  have kv7 := Lib.hid (show ∀ q, (Value.slice a7 n7 c7).ownBlock = some q → w.heap.size ≤ q from fun q hq => by
    rcases hat7 with e | e
    · rw [e] at hq; exact kv6.out q hq
    · rw [e] at hq; injection hq with hq; omega)
  clear h7 hg7 hat7
  have hw7 := kg7.out.size
  have kB7 := Lib.hid (show ∀ j, j < w.heap.size → w7.heap[j]? = w.heap[j]? from fun j hj => (kg7.out.block j (by omega) (fun e => by have := kv6.out j e.symm; omega)).trans (kg6.out.block j hj (fun e => by cases e)))
  have kc7 := Lib.hid (show w7.heap[fb]? = _ from (kB7.out fb hfl).trans kh.out.hc)
  have kf7 := Lib.hid (show w7.cell? ⟨fb, 0, none⟩ = some (.slice (some ⟨g, 0, none⟩) l.length c) from (cells3 kc7.out).1)
  refine hK.out _ _ (fun _ => kf7.out) (fun hH7 => ?_)
  clear hK K
  try simp only [pz0, pz1, pz2, pz3]
  refine lready (rs := [16]) (by kernel_rfl) (by simp) (lcons rfl (fun K hK => ?_) (lnil))
  rw [if_pos (by rfl)]
  go_simp
  refine hK.out _ _ (fun _ => kf7.out) (fun _ => ?_)
  clear hK K
  try simp only [pz0, pz1, pz2, pz3]
  refine lready (rs := [17]) (by kernel_rfl) (by simp) (lcons rfl (fun K hK => ?_) (lnil))
  rw [if_pos (by rfl)]
  go_simp
  refine hK.out _ _ (fun _ => kf7.out) (fun _ => ?_)
  clear hK K
  try simp only [pz0, pz1, pz2, pz3]
  obtain ⟨s0, s1, s2, sf⟩ := cells3 kc7.out
  have sf0 := sf 0
  have hl7 := heap_lt kc7.out
  clear s1 s2 sf f0 ff
  refine lready (rs := [18]) (by kernel_rfl) (by simp) (lcons rfl (fun K hK => ?_) (lnil))
  rw [if_pos (by rfl)]
  go_simp
  refine hK.out _ _ (fun h => absurd rfl h) (fun _ => ?_)
  clear hK K
  refine ldone (by kernel_rfl) ?_ _
  go_wp2_with fail
  go_end0
  have hset := set_grown w7 fb 0 (.slice a7 n7 c7)
  have hk7' := khk.out
  have := kh.out.turn (fv' := .slice a7 n7 c7) (L' := L.take k ++ L.drop k1') (clock' := clock) (w' := w7.setCell ⟨fb, 0, none⟩ (.slice a7 n7 c7)) (hset.os.trans (kg7.out.os.trans kg6.out.os)) (hset.tape.trans (kg7.out.tape.trans kg6.out.tape)) (hset.output.trans (kg7.out.output.trans kg6.out.output)) (by have := hset.size; omega)
    (fun j hj hne _ => (hset.block j (by omega) (fun e => hne (by injection e))).trans (kB7.out j hj)) (by simpa using set_heap kc7.out 0 (.slice a7 n7 c7)) (by rw [hn7]; exact k7.out.kept hset (Or.inr (fun e => by have := kv7.out fb e; omega))) (fun q hq => Or.inr (kv7.out q hq)) (fun x hx => Or.inl (by rcases List.mem_append.1 hx with hx | hx; exact List.mem_of_mem_take hx; exact List.mem_of_mem_drop hx))
  rw [List.map_append, List.map_take, List.map_drop, kh.out.eq, hk7'] at this
  exact ⟨rfl, _, _, this.1, this.2, fun dv dat hd => hd.of_heap (fun j hj => (hset.block j (by have := kh.out.lt j hj.1; omega) (fun e => hj.2.1 (by injection e))).trans (kB7.out j (kh.out.lt j hj.1))) (fun j hj => ⟨Or.inl hj.1, hj.2.1, fun e => by have := kv7.out j e; have := kh.out.lt j hj.1; omega⟩)⟩
end
end Go.Proofs.YtejofgdglpmlkaaGreatDoor
