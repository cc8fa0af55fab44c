/-
  Bytes out of a text, each ':' made a blank. Conditions: at most 2^40 bytes.
-/
import Derived.Test.YtnnepcodghfcmaaGreatDoorSOrderP
import Derived.Lib.SmallJoins
namespace Go.Proofs.YtnnepcodghfcmaaGreatDoor
open Go.RowKit

set_option maxRecDepth 100000 in
theorem bytes_str {w : World} {v : Value} {d : Bs} {S : Nat → Prop} (h : BytesAt w v d S) : (convert 39 9 v).run Tryz.prog w = .ok (.string (mk d)) w := by
  obtain ⟨a, c, rfl, h1, h2, h3, h4⟩ := h
  cases a with
  | none =>
    obtain rfl : c = 0 := h3 rfl
    obtain rfl : d = [] := List.length_eq_zero_iff.1 (by omega)
    exact run_convert_bytes_nil w 39 5 Tryz.underlying39 Tryz.underlying5 0 0 9 Tryz.underlying9
  | some ad =>
    cases d with
    | nil =>
      have hl : (loadCells ad 0).run Tryz.prog w = .ok (([] : List Int).map (Value.int .u8)).toArray w := by simp [loadCells, loadCellsFrom]
      rw [run_convert_bytes_string w 39 9 5 _ _ c Tryz.underlying39 Tryz.underlying5 Tryz.underlying9]
      have := run_bytesToString (P := Tryz.prog) w ad 0 c [] hl
      rw [show (([] : Bs).length) = 0 from rfl, this]; rfl
    | cons y r =>
      obtain ⟨b, off, e, hs, hb, hc⟩ := h4 (by simp)
      injection e with e; subst e
      have := run_convert_bytes_arg (P := Tryz.prog) w 39 5 Tryz.underlying39 Tryz.underlying5 b off (y :: r).length c ((y :: r).map fun x => (x.toNat : Int)) (by simp) (fun i hi => by
        rw [hc i _ (List.getElem?_eq_getElem hi)]
        congr 2
        rw [List.getD, List.getElem?_map, List.getElem?_eq_getElem hi]; rfl) 9 Tryz.underlying9
      rw [this]
      congr 2
      apply ba_ext
      rw [strOfNums_data, mk_list, List.map_map]
      exact (List.map_congr_left (fun x _ => by simp)).trans (List.map_id _)
/-- The world behind '[]byte(s)'. -/
theorem below_drew (w : World) : Below w.heap.size w w.drew := ⟨rfl, rfl, rfl, Nat.le_refl _, fun _ _ => rfl⟩
def byteW (w : World) (s : Bs) : World := w.drew.alloc (.cells (bytesRow (mk s) (grownCap w s.length 0 5)) 5 ((bytesRow (mk s) (grownCap w s.length 0 5)).size, (bytesRow (mk s) (grownCap w s.length 0 5)).size + 1))
theorem byte_conv (w : World) (s : Bs) : (convert 9 39 (.string (mk s))).run Tryz.prog w = .ok (.slice (some ⟨w.heap.size, 0, none⟩) s.length (grownCap w s.length 0 5)) (byteW w s) := by
  have := run_bytes_of_string (P := Tryz.prog) w 9 39 5 (mk s) Tryz.underlying9 Tryz.underlying39 Tryz.underlying5
  rw [mk_size] at this
  exact this
theorem byte_below (w : World) (s : Bs) : Below w.heap.size w (byteW w s) := (below_drew w).alloc (Nat.le_refl _) _
theorem byte_row (w : World) (s : Bs) (hs : s.length ≤ 1099511627776) : BytesAt (byteW w s) (.slice (some ⟨w.heap.size, 0, none⟩) s.length (grownCap w s.length 0 5)) s (fun j => j = w.heap.size) := by
  refine ⟨_, _, rfl, grownCap_ge w _ 0 5, grownCap_le_maxLen w _ 0 5 (by unfold maxLen; omega), (fun e => by cases e), fun _ => ⟨w.heap.size, 0, rfl, rfl, by simp [byteW], fun k y hk => ?_⟩⟩
  rw [Nat.zero_add, cell_of_row (byteW w s) w.heap.size k _ 5 _ (heap_alloc_new w.drew _)]
  have hk' := (List.getElem?_eq_some_iff.1 hk)
  obtain ⟨h1, h2⟩ := hk'
  rw [bytesRow_at (mk s) _ k (by simpa [mk] using h1)]
  subst h2
  simp [mk]
/-- The first k bytes have no colon any more. -/
def colTo (k : Nat) (D : Bs) : Bs := noColon (D.take k) ++ D.drop k
theorem colTo_0 (D : Bs) : colTo 0 D = D := by simp [colTo, noColon]
theorem colTo_all (D : Bs) : colTo D.length D = noColon D := by simp [colTo]
theorem colTo_len (k : Nat) (D : Bs) : (colTo k D).length = D.length := by simp [colTo, noColon]; omega
theorem colTo_step {k : Nat} {D : Bs} {c : UInt8} (h : D[k]? = some c) : colTo (k + 1) D = (colTo k D).set k (if c = 58 then 32 else c) := by
  have hk := (List.getElem?_eq_some_iff.1 h).1
  have hl : (noColon (D.take k)).length = k := by simp [noColon]; omega
  unfold colTo
  rw [take_more h, getElem_split h, List.set_append_right _ _ (by omega), hl, Nat.sub_self, List.set_cons_zero]
  simp [noColon]
theorem colTo_at {k : Nat} {D : Bs} {c : UInt8} (h : D[k]? = some c) : (colTo k D)[k]? = some c := by
  have hk := (List.getElem?_eq_some_iff.1 h).1
  have hl : (noColon (D.take k)).length = k := by simp [noColon]; omega
  unfold colTo
  rw [List.getElem?_append_right (by omega), hl, Nat.sub_self, getElem_split h]; rfl
/-- Bytes in a block of one's own that may be written. -/
structure BRow (w : World) (g c : Nat) (d : Bs) : Prop where make ::
  bytes : BytesAt w (.slice (some ⟨g, 0, none⟩) d.length c) d (fun j => j = g)
  free : ∀ k, k < d.length → w.frozen? ⟨g, k, none⟩ = false
theorem BRow.at {w : World} {g c k : Nat} {d : Bs} {x : UInt8} (h : BRow w g c d) (hk : d[k]? = some x) : w.cell? ⟨g, k, none⟩ = some (.int .u8 x.toNat) ∧ g < w.heap.size := by
  obtain ⟨a, c', e, _, _, _, h4⟩ := h.bytes
  injection e with e1
  subst e1
  obtain ⟨b, off, e, _, hb, hc⟩ := h4 (by have := (List.getElem?_eq_some_iff.1 hk).1; omega)
  injection e with e; injection e with e1 e2
  subst e1 e2
  have := hc k x hk
  rw [Nat.zero_add] at this
  exact ⟨this, hb⟩
theorem BRow.set {w : World} {g c k : Nat} {d : Bs} {u : UInt8} (h : BRow w g c d) (hk : k < d.length) : BRow (w.setCell ⟨g, k, none⟩ (.int .u8 u.toNat)) g c (d.set k u) := by
  have hat := fun (j : Nat) (x : UInt8) (hj : d[j]? = some x) => h.at hj
  obtain ⟨a, c', e, h1, h2, h3, h4⟩ := h.bytes
  injection e with e1 e2 e3
  subst e1 e3
  refine ⟨⟨_, c, by rw [List.length_set], by rw [List.length_set]; exact h1, h2, h3, fun hl => ⟨g, 0, rfl, rfl, ?_, fun j x hj => ?_⟩⟩, fun j hj => ?_⟩
  · have := (hat k _ (List.getElem?_eq_getElem hk)).2
    simpa [World.setCell] using this
  · rw [Nat.zero_add]
    rw [List.getElem?_set] at hj
    by_cases e : k = j
    · subst e
      rw [if_pos rfl, if_pos hk] at hj
      injection hj with hj
      subst hj
      exact World.cell?_setCell_same' _ _ _ (by rw [(hat k _ (List.getElem?_eq_getElem hk)).1]; rfl)
    · rw [if_neg e] at hj
      have h0 := (hat j x hj).1
      have hne : (⟨g, k, none⟩ : Addr) ≠ ⟨g, j, none⟩ := fun e' => by
        injection e' with _ e'
        exact e e'
      rw [World.cell?_setCell_other w _ _ _ hne]
      exact h0
  · rw [World.frozen?_setCell]
    exact h.free j (by rwa [List.length_set] at hj)
theorem BRow.conv (w : World) (D : Bs) (hD : D.length ≤ 1099511627776) : BRow (byteW w D) w.heap.size (grownCap w D.length 0 5) D := by
  refine ⟨byte_row w D hD, fun k hk => ?_⟩
  have hc : (byteW w D).heap[w.heap.size]? = some (.cells (bytesRow (mk D) (grownCap w D.length 0 5)) 5 ((bytesRow (mk D) (grownCap w D.length 0 5)).size, (bytesRow (mk D) (grownCap w D.length 0 5)).size + 1)) := World.alloc_heap_new w.drew _
  have hk' := (Array.getElem?_eq_some_iff.1 (bytesRow_at (mk D) (grownCap w D.length 0 5) k (by simpa [mk] using hk))).1
  simp [World.frozen?, hc]
  omega
end Go.Proofs.YtnnepcodghfcmaaGreatDoor
