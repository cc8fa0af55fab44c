/-
  Spoil of a tree that lies in rows of one's own. Conditions: at most 2^40 nodes, data of at most 2^40 bytes.
-/
import Derived.Test.YtejofgdglpmlkaaGreatDoorM15
import Derived.Test.YtejofgdglpmlkaaGreatDoorM08
import Derived.Lib.SmallJoins
namespace Go.Proofs.YtejofgdglpmlkaaGreatDoor
open Go.RowKit

/-- Bytes that may be written over. -/
def ULoose (w : World) (B hi g : Nat) (v : Value) : Prop :=
  ∃ a n c, v = .slice a n c ∧ n ≤ 1099511627776 ∧ (0 < n → ∃ b off cur, a = some ⟨b, off, none⟩ ∧ B ≤ b ∧ b < hi ∧ b ≠ g ∧ w.heap[b]? = some (.cells cur 5 (0, 0)) ∧ ∀ k, k < n → ∃ u : UInt8, cur[off + k]? = some (.int .u8 u.toNat))
/-- A tree that may be written over, from its node i on. -/
def SpoilAt (w : World) (B hi : Nat) (nv : Value) (n i : Nat) : Prop :=
  ∃ a c, nv = .slice a n c ∧ (0 < n → ∃ g off cur, a = some ⟨g, off, none⟩ ∧ B ≤ g ∧ g < hi ∧ w.heap[g]? = some (.cells cur 54 (0, 0)) ∧ off + n * 4 ≤ cur.size ∧ ∀ j, i ≤ j → j < n → ∃ dv, cur[off + j * 4 + 3]? = some dv ∧ ULoose w B hi g dv)
theorem ULoose.of_heap {w w' : World} {B hi g : Nat} {v : Value} (h : ULoose w B hi g v) (he : ∀ j, B ≤ j → j < hi → j ≠ g → w'.heap[j]? = w.heap[j]?) : ULoose w' B hi g v := by
  obtain ⟨a, n, c, h1, h2, h3⟩ := h
  refine ⟨a, n, c, h1, h2, fun hn => ?_⟩
  obtain ⟨b, off, cur, g1, g2, g3, g4, g5, g6⟩ := h3 hn
  exact ⟨b, off, cur, g1, g2, g3, g4, (he b g2 g3 g4).trans g5, g6⟩
/-- A byte is written over. -/
theorem ULoose.put {w : World} {B hi g : Nat} {v : Value} (h : ULoose w B hi g v) (b o : Nat) (u : UInt8) : ULoose (w.setCell ⟨b, o, none⟩ (.int .u8 u.toNat)) B hi g v := by
  obtain ⟨a, n, c, h1, h2, h3⟩ := h
  refine ⟨a, n, c, h1, h2, fun hn => ?_⟩
  obtain ⟨b', off, cur, g1, g2, g3, g4, g5, g6⟩ := h3 hn
  by_cases e : b' = b
  · subst e
    refine ⟨b', off, _, g1, g2, g3, g4, set_heap g5 o _, fun k hk => ?_⟩
    obtain ⟨u', hu⟩ := g6 k hk
    rw [Array.getElem?_setIfInBounds]
    by_cases e2 : o = off + k
    · rw [if_pos e2]
      have : o < cur.size := by rw [e2]; exact (Array.getElem?_eq_some_iff.1 hu).1
      rw [if_pos this]; exact ⟨u, rfl⟩
    · rw [if_neg e2]; exact ⟨u', hu⟩
  · exact ⟨b', off, cur, g1, g2, g3, g4, ((set_grown w b o _).block b' (heap_lt g5) (fun e' => e (by injection e'))).trans g5, g6⟩
theorem SpoilAt.put {w : World} {B hi n i : Nat} {nv : Value} (h : SpoilAt w B hi nv n i) (b o : Nat) (u : UInt8) (hne : ∀ a c, nv = .slice a n c → ∀ g off, a = some ⟨g, off, none⟩ → b ≠ g) : SpoilAt (w.setCell ⟨b, o, none⟩ (.int .u8 u.toNat)) B hi nv n i := by
  obtain ⟨a, c, h1, h2⟩ := h
  refine ⟨a, c, h1, fun hn => ?_⟩
  obtain ⟨g, off, cur, g1, g2, g3, g4, g5, g6⟩ := h2 hn
  refine ⟨g, off, cur, g1, g2, g3, ((set_grown w b o _).block g (heap_lt g4) (fun e' => hne a c h1 g off g1 (by injection e' with e'; exact e'.symm))).trans g4, g5, fun j hj hjn => ?_⟩
  obtain ⟨dv, k1, k2⟩ := g6 j hj hjn
  exact ⟨dv, k1, k2.put b o u⟩
theorem NodesOwn.spoil {w : World} {B : Nat} {v : Value} {L : List NV} (h : NodesOwn w B v L) (hd : ∀ x ∈ L, x.n.data.length ≤ 1099511627776) : SpoilAt w B w.heap.size v L.length 0 := by
  rcases h.1.2 with ⟨rfl, hn⟩ | ⟨g, cap, cur, rfl, hbg, hg, hn, hm, hs, ht⟩
  · exact ⟨none, 0, by rw [hn], fun h0 => by omega⟩
  · refine ⟨_, cap, rfl, fun _ => ⟨g, 0, cur, rfl, hbg, heap_lt hg, hg, by omega, fun j _ hj => ?_⟩⟩
    obtain ⟨x, hx⟩ : ∃ x, L[j]? = some x := ⟨_, List.getElem?_eq_getElem hj⟩
    refine ⟨x.dv, ?_, ?_⟩
    · have h1 := nflat_get L j 3 x hx (by omega)
      rw [← ht, List.getElem?_take_of_lt (by omega)] at h1
      rw [Nat.zero_add, ← Array.getElem?_toList, h1]; rfl
    · have hu := h.2 x (List.mem_of_getElem? hx)
      obtain ⟨a, c, e, _, _, _, h0⟩ := hu.1
      refine ⟨a, _, c, e, hd x (List.mem_of_getElem? hx), fun hl => ?_⟩
      obtain ⟨b, off, e1, hs, hb, hc⟩ := h0 hl
      subst e1
      obtain ⟨cur', hcur⟩ := hu.2 b off _ c e hl
      refine ⟨b, off, cur', rfl, hs.1, hb, fun e' => hs.2.2 (by simp [Value.ownBlock, e']), hcur, fun k hk => ?_⟩
      obtain ⟨y, hy⟩ : ∃ y, x.n.data[k]? = some y := ⟨_, List.getElem?_eq_getElem hk⟩
      have := hc k y hy
      rw [cell_of_row w b (off + k) cur' 5 (0, 0) hcur] at this
      exact ⟨y, this⟩
theorem SpoilAt.form {w : World} {B hi n i : Nat} {nv : Value} (h : SpoilAt w B hi nv n i) : ∃ a c, nv = .slice a n c := by obtain ⟨a, c, e, _⟩ := h; exact ⟨a, c, e⟩
/-- What the loops of Spoil keep. -/
structure SpoilInv (w : World) (B top : Nat) (nv : Value) (clock room : Int) (n i : Nat) (wr : World) : Prop where make ::
  le : top ≤ w.heap.size
  kept : Kept (fun j => B ≤ j ∧ j < top) w wr
  box : wr.heap[w.heap.size]? = some (.cells #[nv, .int .i64 clock, .int .i64 room] 24 (0, 0))
  at' : SpoilAt wr B top nv n i
section
variable {w : World} {B top n : Nat} {nv : Value} {clock room : Int}
theorem SpoilAt.alloc {o : Obj} (h : SpoilAt w B top nv n 0) (hh : top ≤ w.heap.size) : SpoilAt (w.alloc o) B top nv n 0 := by
  obtain ⟨a, c, h1, h2⟩ := h
  refine ⟨a, c, h1, fun hn => ?_⟩
  obtain ⟨g, off, cur, g1, g2, g3, g4, g5, g6⟩ := h2 hn
  refine ⟨g, off, cur, g1, g2, g3, (heap_alloc_old _ _ (Nat.lt_of_lt_of_le g3 hh)).trans g4, g5, fun j hj hjn => ?_⟩
  obtain ⟨dv, k1, k2⟩ := g6 j hj hjn
  exact ⟨dv, k1, k2.of_heap (fun j _ hj _ => heap_alloc_old _ _ (Nat.lt_of_lt_of_le hj hh))⟩
theorem xor_all : ∀ n : Fin 256, bits BinOp.xor IntKind.u8 ((n.val : Nat) : Int) 255 = ((n.val ^^^ 255 : Nat) : Int) ∧ n.val ^^^ 255 < 256 := by decide +kernel
theorem xor_byte (u : UInt8) : ∃ u' : UInt8, bits BinOp.xor IntKind.u8 (u.toNat : Int) 255 = (u'.toNat : Int) := by
  obtain ⟨h1, h2⟩ := xor_all ⟨u.toNat, u.toNat_lt⟩
  refine ⟨(u.toNat ^^^ 255).toUInt8, h1.trans ?_⟩
  have : ((u.toNat ^^^ 255).toUInt8).toNat = u.toNat ^^^ 255 := by simp
  rw [this]
theorem SpoilInv.more {i : Nat} {wr : World} (h : SpoilInv w B top nv clock room n i wr) : SpoilInv w B top nv clock room n (i + 1) wr := by
  refine ⟨h.le, h.kept, h.box, ?_⟩
  obtain ⟨a, c, h1, h2⟩ := h.at'
  refine ⟨a, c, h1, fun hn => ?_⟩
  obtain ⟨g, off, cur, g1, g2, g3, g4, g5, g6⟩ := h2 hn
  exact ⟨g, off, cur, g1, g2, g3, g4, g5, fun j hj hjn => g6 j (by omega) hjn⟩
theorem SpoilInv.cell {g off c i o : Nat} {v : Value} {wr : World} (h : SpoilInv w B top (.slice (some ⟨g, off, none⟩) n c) clock room n i wr) (hb : B ≤ g) (hg : g < top) (ho : ∀ j, i ≤ j → off + j * 4 + 3 ≠ o) : SpoilInv w B top (.slice (some ⟨g, off, none⟩) n c) clock room n i (wr.setCell ⟨g, o, none⟩ v) := by
  have hgr := set_grown wr g o v
  have hle := h.le
  refine ⟨h.le, h.kept.trans (S' := fun j => B ≤ j ∧ j < top) (Kept.grown hgr (fun k e => by injection e with e; omega)) (fun k hk => Or.inl hk), (hgr.block _ (heap_lt h.box) (fun e => by injection e with e; omega)).trans h.box, ?_⟩
  obtain ⟨a, c', h1, h2⟩ := h.at'
  refine ⟨a, c', h1, fun hn => ?_⟩
  obtain ⟨g', off', cur, g1, g2, g3, g4, g5, g6⟩ := h2 hn
  injection h1 with e1
  rw [← e1] at g1
  injection g1 with g1; injection g1 with g1 g7
  subst g1 g7
  refine ⟨g, off, _, e1.symm, g2, g3, set_heap g4 o v, by simpa using g5, fun j hj hjn => ?_⟩
  obtain ⟨dv, k1, k2⟩ := g6 j hj hjn
  exact ⟨dv, by rw [Array.getElem?_setIfInBounds, if_neg (fun e => ho j hj e.symm)]; exact k1, k2.of_heap (fun j' hj1 hj2 hj3 => hgr.block j' (by have := h.kept.size; omega) (fun e => hj3 (by injection e)))⟩
theorem SpoilInv.byte {g off c i b o : Nat} {u : UInt8} {wr : World} (h : SpoilInv w B top (.slice (some ⟨g, off, none⟩) n c) clock room n i wr) (hb : B ≤ b) (hb' : b < top) (hg : b ≠ g) : SpoilInv w B top (.slice (some ⟨g, off, none⟩) n c) clock room n i (wr.setCell ⟨b, o, none⟩ (.int .u8 u.toNat)) := by
  have hgr := set_grown wr b o (.int .u8 u.toNat)
  have hle := h.le
  refine ⟨h.le, h.kept.trans (S' := fun j => B ≤ j ∧ j < top) (Kept.grown hgr (fun k e => by injection e with e; omega)) (fun k hk => Or.inl hk), (hgr.block _ (heap_lt h.box) (fun e => by injection e with e; omega)).trans h.box, h.at'.put b o u (fun a' c' e g' off' e2 => ?_)⟩
  injection e with e1
  rw [e2] at e1
  injection e1 with e1; injection e1 with e1
  omega
set_option maxRecDepth 100000 in
set_option maxHeartbeats 8000000 in
theorem spoil_calls (h : SpoilAt w B top nv n 0) (hle : top ≤ w.heap.size) (hn : n ≤ 1099511627775) :
    Calls Tryz.prog 13 #[.agg #[nv, .int .i64 clock, .int .i64 room]] w fun e w' => e = .returned (.tuple #[]) ∧ Kept (fun j => B ≤ j ∧ j < top) w w' := by
  obtain ⟨a, c, hf⟩ := h.form
  subst hf
  have k0 := Lib.hid (SpoilInv.make (clock := clock) (room := room) hle (Kept.of_below (below_al (Below.refl _ _))) (heap_alloc_new w _) (h.alloc (o := .cells #[.slice a n c, .int .i64 clock, .int .i64 room] 24) hle))
  clear h
  go_enter Tryz.func13, Tryz.ntmps13
  go_wp2
  go_loopw [2, 3, 4] (fun iv _ _ wr => ∃ i : Nat, i ≤ n ∧ iv = .int .i64 i ∧ SpoilInv w B top (.slice a n c) clock room n i wr) (fun iv _ _ _ => n - (intOf iv).toNat)
  case atStart => exact ⟨0, Nat.zero_le _, rfl, k0.out⟩
  case round =>
    obtain ⟨i, hi, rfl, hI⟩ := hrel
    have kI := Lib.hid hI
    obtain ⟨bx0, -, -, -⟩ := cells3 hI.box
    have hbl := heap_lt hI.box
    clear hI
    by_cases hlt : i < n
    · obtain ⟨a', c', e', h0⟩ := kI.out.at'
      injection e' with e1 e2 e3
      subst e1
      obtain ⟨g, off, cur, rfl, hgB, hgh, hg, hsz, hnodes⟩ := h0 (by omega)
      obtain ⟨dv, hdv, hul⟩ := hnodes i (Nat.le_refl _) hlt
      have hdc : wr.cell? ⟨g, off + i * 4 + 3, none⟩ = some dv := by rw [cell_of_row wr g _ cur 54 (0, 0) hg]; exact hdv
      obtain ⟨da, dn, dc, hdf, hdn, hbytes⟩ := hul
      subst hdf
      have kul := Lib.hid (show ULoose wr B top g (.slice da dn dc) from ⟨da, dn, dc, rfl, hdn, hbytes⟩)
      clear hnodes hdv hbytes hg hsz e2 e3
      go_wp2
      go_loopw [4] (fun kv wr2 => ∃ k : Nat, k ≤ dn ∧ kv = .int .i64 k ∧ SpoilInv w B top (.slice (some ⟨g, off, none⟩) n c) clock room n i wr2 ∧ ULoose wr2 B top g (.slice da dn dc)) (fun kv _ => dn - (intOf kv).toNat)
      case atStart => exact ⟨0, Nat.zero_le _, rfl, kI.out, kul.out⟩
      case round =>
        obtain ⟨k, hk, rfl, hI2, hU2⟩ := hrel
        have kI2 := Lib.hid hI2
        have kU2 := Lib.hid hU2
        obtain ⟨by0, -, -, -⟩ := cells3 hI2.box
        have hbl2 := heap_lt hI2.box
        clear hI2 hU2
        by_cases hlt2 : k < dn
        · obtain ⟨a2, n2, c2, e', -, h2⟩ := kU2.out
          injection e' with e1 e2 e3
          subst e1 e2
          obtain ⟨b, o, cur2, rfl, hbB, hbh, hbg, hbc, hbs⟩ := h2 (by omega)
          obtain ⟨u, hu⟩ := hbs k hlt2
          have hcu : wr.cell? ⟨b, o + k, none⟩ = some (.int .u8 u.toNat) := by rw [cell_of_row wr b _ cur2 5 (0, 0) hbc]; exact hu
          have hfu : wr.frozen? ⟨b, o + k, none⟩ = false := Go.Joins.unfrozen_of_block hbc _
          have hbl3 := heap_lt hbc
          clear hbs hu hbc
          go_wp2
          obtain ⟨u', hu'⟩ := xor_byte u
          rw [hu']
          exact ⟨⟨k + 1, by omega, by go_num, kI2.out.byte hbB hbh hbg, kU2.out.put _ _ _⟩, by simp [intOf]; omega⟩
        · obtain ⟨a', c', e', h0⟩ := kI2.out.at'
          injection e' with e1 e2 e3
          subst e1
          obtain ⟨g', off', cur', e', -, -, hg, hsz, -⟩ := h0 (by omega)
          injection e' with e'; injection e' with e1 e4
          subst e1 e4
          have hfr := fun o => Go.Joins.unfrozen_of_block hg o
          have hgl := heap_lt hg
          have hex : ∀ j, j < 4 → ∃ v, wr.cell? ⟨g, off + i * 4 + j, none⟩ = some v := fun j hj => ⟨_, by rw [cell_of_row wr g _ cur' 54 (0, 0) hg]; exact Array.getElem?_eq_getElem (by omega)⟩
          obtain ⟨v0, hv0⟩ := hex 0 (by omega)
          obtain ⟨v1, hv1⟩ := hex 1 (by omega)
          obtain ⟨v2, hv2⟩ := hex 2 (by omega)
          obtain ⟨v3, hv3⟩ := hex 3 (by omega)
          rw [Nat.add_zero] at hv0
          have f0 := hfr (off + i * 4)
          have f1 := hfr (off + i * 4 + 1)
          have f2 := hfr (off + i * 4 + 2)
          have f3 := hfr (off + i * 4 + 3)
          clear hfr hex hg e2 e3 h0
          go_wp2
          have hm := kI2.out.more
          exact ⟨⟨i + 1, by omega, by go_num, (((hm.cell hgB hgh (by intro j hj; omega)).cell hgB hgh (by intro j hj; omega)).cell hgB hgh (by intro j hj; omega)).cell hgB hgh (by intro j hj; omega)⟩, by simp [intOf]; omega⟩
    · have kk := Lib.hid kI.out.kept
      go_wp2
      go_end0
      exact ⟨rfl, kk.out⟩
end
end Go.Proofs.YtejofgdglpmlkaaGreatDoor
