/-
  Stat of what is there. Conditions: texts of at most 2^31 bytes.
-/
import Derived.Test.YtejofgdglpmlkaaGreatDoorVRemove
import Derived.Laws.ResultCell
import Derived.LaidEql
import Derived.Deep.MidRow
namespace Go.Proofs.YtejofgdglpmlkaaGreatDoor
open Go.RowKit

set_option maxRecDepth 100000 in
theorem errIs_nil (e0 : Int) (w : World) : Calls Tryz.prog 51 #[.nilIface, .iface 29 (.int .i64 e0)] w fun e w' => e = .returned (.bool false) ∧ w = w' := by
  have he := run_eql_iface_nil_left (P := Tryz.prog) w 29 (.int .i64 e0) Tryz.underlying70
  go_enter Tryz.func51, Tryz.ntmps51
  go_wp2
  go_ret
  exact ⟨rfl, rfl⟩
theorem stat_cells {w w1 : World} {t : TypeId} (h : Below (w.alloc (.cells #[.int .i64 0, .int .i64 0, .int .i64 0] t)).heap.size (w.alloc (.cells #[.int .i64 0, .int .i64 0, .int .i64 0] t)) w1) :
    w1.cell? ⟨w.heap.size, 0, none⟩ = some (.int .i64 0) ∧ w1.cell? ⟨w.heap.size, 1, none⟩ = some (.int .i64 0) ∧ w1.cell? ⟨w.heap.size, 2, none⟩ = some (.int .i64 0) ∧ (w1.frozen? ⟨w.heap.size, 0, none⟩ = false ∧ w1.frozen? ⟨w.heap.size, 1, none⟩ = false ∧ w1.frozen? ⟨w.heap.size, 2, none⟩ = false) ∧ w.heap.size < w1.heap.size := by
  have hb := (h.block w.heap.size (by simp)).trans (heap_alloc_new w _)
  obtain ⟨a, b, c, d⟩ := cells3 hb
  exact ⟨a, b, c, ⟨d 0, d 1, d 2⟩, heap_lt hb⟩
theorem stat_node {w w1 : World} {nb : Nat} {a b c : Value} {t : TypeId} {o : Obj} (h : Below (w.alloc o).heap.size (w.alloc o) w1) (hn : w.heap[nb]? = some (.cells #[a, b, c] t (0, 0))) :
    w1.cell? ⟨nb, 0, none⟩ = some a ∧ w1.cell? ⟨nb, 1, none⟩ = some b ∧ w1.cell? ⟨nb, 2, none⟩ = some c ∧ nb < w1.heap.size ∧ nb < w.heap.size ∧ nb ≠ w.heap.size := by
  have hl := heap_lt hn
  have hb := (h.block nb (by simp; omega)).trans ((heap_alloc_old w o hl).trans hn)
  obtain ⟨a, b, c, _⟩ := cells3 hb
  exact ⟨a, b, c, heap_lt hb, hl, by omega⟩
section
variable {f mb : Nat} {N : Bs → Nat} {S : Nat → Prop} {st : St} {clock room : Int} {p : ByteArray} {q : Bs} {w : World} {n : PN}
set_option maxRecDepth 100000 in
set_option maxHeartbeats 8000000 in
theorem stat_file (h : FsIn w f mb N S st clock room) (hp : p.size ≤ 2147483647) (hq : clean p.data.toList = q) (hr : lookQ st q = .node n) (hnd : n.dir = false) :
    Calls Tryz.prog 27 #[.pointer (some ⟨f, 0, none⟩), .string p] w fun e w' => e = .returned (.agg #[.int .i64 1, .int .i64 n.time, .int .i64 n.data.length]) ∧ Below w.heap.size w w' := by
  have hw0 := Lib.hid (h.below (below_al (o := .cells #[.int .i64 0, .int .i64 0, .int .i64 0] 51) (Below.refl _ _)))
  have hL := Lib.hid (there_node _ hw0.out hp hq hr)
  have kh := Lib.hid h
  obtain ⟨nv, hnb, hnv⟩ := (h.node q n (lookQ_find.2 n hr)).2.2
  have hNl := h.lt _ (h.node q n (lookQ_find.2 n hr)).2.1
  rw [hnd] at hnb
  have knb := Lib.hid hnb
  obtain ⟨na, nc, hnvf⟩ := hnv.form
  subst hnvf
  clear h hnb hnv
  generalize mk q = Q at *
  go_enter Tryz.func27, Tryz.ntmps27
  go_wp2_with (first | (go_at_call 51; refine (errIs_nil 10 _).mono ?_; rintro e w2 ⟨rfl, rfl⟩) | (go_at_call 39; refine hL.out.mono ?_; rintro e w1 ⟨rfl, hb⟩; have kb := Lib.hid hb; clear hb; obtain ⟨r0, r1, r2, ⟨rf0, rf1, rf2⟩, rl⟩ := stat_cells kb.out; obtain ⟨n0, n1, n2, n3, nlt, nne⟩ := stat_node kb.out knb.out))
  go_region
  go_wp2_with fail
  refine bodyPost_ret (v := .agg #[.int .i64 1, .int .i64 n.time, .int .i64 n.data.length]) (by simp [results, Tryz.results27, go_sem, r0, r1, r2]) rfl ⟨rfl, ?_⟩
  have hb0 : Below w.heap.size w w1 := (below_al (Below.refl _ _)).trans (kb.out.mono (by simp))
  exact below_drewN' (((hb0.setCell (Nat.le_refl _) _).setCell (Nat.le_refl _) _).setCell (Nat.le_refl _) _) 1
end
end Go.Proofs.YtejofgdglpmlkaaGreatDoor
