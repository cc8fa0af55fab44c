/-
  right of any tree; New of a tree of which something is wrong. Conditions: paths of at most 2^31 bytes, data of at most 2^40 bytes.
-/
import Derived.Test.YtejofgdglpmlkaaGreatDoorVNew
import Derived.Test.YtejofgdglpmlkaaGreatDoorVBad1
import Derived.Test.YtejofgdglpmlkaaGreatDoorVBad2
import Derived.Test.YtejofgdglpmlkaaGreatDoorVBad3
namespace Go.Proofs.YtejofgdglpmlkaaGreatDoor
open Go.RowKit

section
variable {l : St} {clock room : Int} {nv : Value} {T : Nat → Prop} {w : World}
theorem right_calls (ht : TreeAt w nv l T) (hT : ∀ k, T k → k < w.heap.size) (hp : ∀ x ∈ l, x.1.length ≤ 2147483647) (hd : ∀ x ∈ l, x.2.data.length ≤ 1099511627776) :
    Calls Tryz.prog 28 #[.agg #[nv, .int .i64 clock, .int .i64 room]] w fun e w' => e = .returned (.int .i64 (rightP l clock room)) ∧ Below w.heap.size w w' := by
  cases hok : okFrom clock [] l with
  | true => exact right_ok hok ht hT hp hd
  | false =>
    rcases kind_range l [] hok with h | h | h
    · exact right_bad1 h ht hT hp hd
    · exact right_bad2 h ht hT hp hd
    · exact right_bad3 h ht hT hp hd
set_option maxRecDepth 100000 in
set_option maxHeartbeats 2000000 in
theorem new_bad (ht : TreeAt w nv l T) (hT : ∀ k, T k → k < w.heap.size) (hp : ∀ x ∈ l, x.1.length ≤ 2147483647) (hd : ∀ x ∈ l, x.2.data.length ≤ 1099511627776) (h0 : rightP l clock room ≠ 0) :
    Calls Tryz.prog 9 #[.agg #[nv, .int .i64 clock, .int .i64 room]] w fun e w' => e = .returned (.tuple #[.pointer none, .int .i64 (rightP l clock room)]) ∧ Below w.heap.size w w' := by
  have hbox : Below w.heap.size w (w.alloc (.cells #[nv, .int .i64 clock, .int .i64 room] 24 (0, 0))) := below_al (Below.refl _ _)
  have hR := Lib.hid (right_calls (clock := clock) (room := room) (ht.of_heap (w' := w.alloc (.cells #[nv, .int .i64 clock, .int .i64 room] 24 (0, 0))) (fun k hk => hbox.block k (hT k hk)) (fun _ h => h)) (fun k hk => by have := hT k hk; have := hbox.size; omega) hp hd)
  obtain ⟨ta, tc, hnv⟩ := ht.form
  subst hnv
  have kb := Lib.hid hbox
  clear ht hT hp hd hbox
  have hne : (rightP l clock room == 0) = false := by rw [beq_eq_false_iff_ne]; exact h0
  generalize rightP l clock room = r at *
  go_enter Tryz.func9, Tryz.ntmps9
  go_wp2_with (go_at_call 28; refine hR.out.mono ?_; rintro e w1 ⟨rfl, hb1⟩; have kb1 := Lib.hid hb1; clear hb1)
  go_ret2
  exact ⟨rfl, kb.out.trans (kb1.out.mono kb.out.size)⟩
end
end Go.Proofs.YtejofgdglpmlkaaGreatDoor
