/-
  A file system in memory: nodes and their bytes; what stays. Conditions: none.
-/
import Derived.Test.YtnnepcodghfcmaaGreatDoorVFs
namespace Go.Proofs.YtnnepcodghfcmaaGreatDoor
open Go.RowKit

def BytesAt (w : World) (v : Value) (d : Bs) (S : Nat → Prop) : Prop :=
  ∃ a c, v = .slice a d.length c ∧ d.length ≤ c ∧ c ≤ maxLen ∧ (a = none → c = 0) ∧ (0 < d.length → ∃ b off, a = some ⟨b, off, none⟩ ∧ S b ∧ b < w.heap.size ∧ ∀ (k : Nat) (x : UInt8), d[k]? = some x → w.cell? ⟨b, off + k, none⟩ = some (.int .u8 x.toNat))
theorem lt_of_heap {w w' : World} {b : Nat} (hb : b < w.heap.size) (e : w'.heap[b]? = w.heap[b]?) : b < w'.heap.size := by
  rw [Array.getElem?_eq_getElem hb] at e
  exact (Array.getElem?_eq_some_iff.1 e).1
theorem BytesAt.of_heap {w w' : World} {v : Value} {d : Bs} {S S' : Nat → Prop} (h : BytesAt w v d S) (he : ∀ k, S k → w'.heap[k]? = w.heap[k]?) (hS : ∀ k, S k → S' k) : BytesAt w' v d S' := by
  obtain ⟨a, c, h1, h2, h3, h4, h5⟩ := h
  refine ⟨a, c, h1, h2, h3, h4, fun h0 => ?_⟩
  obtain ⟨b, off, e1, e2, e3, e4⟩ := h5 h0
  exact ⟨b, off, e1, hS _ e2, lt_of_heap e3 (he b e2), fun k x hk => (World.cell?_of_block (a := ⟨b, off + k, none⟩) (he b e2)).trans (e4 k x hk)⟩
theorem BytesAt.nil (w : World) (S : Nat → Prop) : BytesAt w (.slice none 0 0) [] S := ⟨none, 0, rfl, Nat.le_refl _, Nat.zero_le _, fun _ => rfl, fun h => absurd h (Nat.lt_irrefl _)⟩
theorem BytesAt.form {w : World} {v : Value} {d : Bs} {S : Nat → Prop} (h : BytesAt w v d S) : ∃ a c, v = .slice a d.length c := by
  obtain ⟨a, c, h1, _⟩ := h; exact ⟨a, c, h1⟩
def NodeAt (w : World) (nb : Nat) (nd : PN) (S : Nat → Prop) : Prop :=
  ∃ v, w.heap[nb]? = some (.cells #[.bool nd.dir, .int .i64 nd.time, v] 57 (0, 0)) ∧ BytesAt w v nd.data S
theorem NodeAt.of_heap {w w' : World} {nb : Nat} {nd : PN} {S S' : Nat → Prop} (h : NodeAt w nb nd S) (hn : S nb) (he : ∀ k, S k → w'.heap[k]? = w.heap[k]?) (hS : ∀ k, S k → S' k) : NodeAt w' nb nd S' := by
  obtain ⟨v, h1, h2⟩ := h
  exact ⟨v, (he nb hn).trans h1, h2.of_heap he hS⟩
/-- Of what was there nothing has turned but blocks of S. -/
structure Kept (S : Nat → Prop) (w w' : World) : Prop where
  os : w'.os = w.os
  tape : w'.tape = w.tape
  output : w'.output = w.output
  size : w.heap.size ≤ w'.heap.size
  block : ∀ k, k < w.heap.size → ¬ S k → w'.heap[k]? = w.heap[k]?
theorem Kept.refl (S : Nat → Prop) (w : World) : Kept S w w := ⟨rfl, rfl, rfl, Nat.le_refl _, fun _ _ _ => rfl⟩
theorem Kept.of_below {S : Nat → Prop} {w w' : World} (h : Below w.heap.size w w') : Kept S w w' := ⟨h.os, h.tape, h.output, h.size, fun k hk _ => h.block k hk⟩
theorem Kept.trans {S S' : Nat → Prop} {w w1 w2 : World} (h : Kept S w w1) (h' : Kept S' w1 w2) (hs : ∀ k, S' k → S k ∨ w.heap.size ≤ k) : Kept S w w2 :=
  ⟨h'.os.trans h.os, h'.tape.trans h.tape, h'.output.trans h.output, Nat.le_trans h.size h'.size, fun k hk hn =>
    (h'.block k (Nat.lt_of_lt_of_le hk h.size) fun hk' => (hs k hk').elim hn fun h0 => by omega).trans (h.block k hk hn)⟩
theorem Kept.then {S : Nat → Prop} {w w1 w2 : World} (h : Kept S w w1) (h' : Below w1.heap.size w1 w2) : Kept S w w2 := h.trans (S' := fun _ => False) (Kept.of_below h') (fun _ h => h.elim)
theorem Below.kept {S : Nat → Prop} {w w1 w2 : World} (h : Below w.heap.size w w1) (h' : Kept S w1 w2) : Kept S w w2 := (Kept.of_below h).trans h' fun _ h => Or.inl h
theorem Kept.grown {S : Nat → Prop} {w w' : World} {row : Option Nat} (h : w.grownBy w' row) (hr : ∀ k, row = some k → S k) : Kept S w w' :=
  ⟨h.os, h.tape, h.output, h.size, fun k hk hn => h.block k hk fun e => hn (hr k e.symm)⟩
theorem Kept.weaken {S S' : Nat → Prop} {w w' : World} (h : Kept S w w') (hs : ∀ k, S k → S' k) : Kept S' w w' := ⟨h.os, h.tape, h.output, h.size, fun k hk hn => h.block k hk fun h' => hn (hs k h')⟩
theorem Kept.drewN {S : Nat → Prop} {w w' : World} (h : Kept S w w') (n : Nat) : Kept S w (w'.drewN n) := h.then (below_drewN' (Below.refl _ _) n)

structure FsIn (w : World) (f mb : Nat) (N : Bs → Nat) (S : Nat → Prop) (st : St) (clock room : Int) : Prop where
  cells : w.heap[f]? = some (.cells #[.map (some mb), .int .i64 clock, .int .i64 room, .int .i64 (wt st)] 52 (0, 0))
  sf : S f
  sm : S mb
  map : MapAt w mb N st
  rising : Rising st
  node : ∀ p nd, find st p = some nd → p.length ≤ 1000 ∧ S (N p) ∧ NodeAt w (N p) nd S
  inj : ∀ p q, (find st p).isSome → (find st q).isSome → N p = N q → p = q
  lt : ∀ b, S b → b < w.heap.size
def FsAt (w : World) (f : Nat) (S : Nat → Prop) (st : St) (clock room : Int) : Prop := ∃ mb N, FsIn w f mb N S st clock room
theorem FsIn.of_heap {w w' : World} {f mb : Nat} {N : Bs → Nat} {S : Nat → Prop} {st : St} {clock room : Int} (h : FsIn w f mb N S st clock room) (he : ∀ k, S k → w'.heap[k]? = w.heap[k]?) : FsIn w' f mb N S st clock room :=
  ⟨(he f h.sf).trans h.cells, h.sf, h.sm, h.map.of_heap (he mb h.sm), h.rising, fun p nd hf => ⟨(h.node p nd hf).1, (h.node p nd hf).2.1, (h.node p nd hf).2.2.of_heap (h.node p nd hf).2.1 he fun _ h => h⟩, h.inj, fun b hb => lt_of_heap (h.lt b hb) (he b hb)⟩
theorem FsIn.below {w w' : World} {f mb : Nat} {N : Bs → Nat} {S : Nat → Prop} {st : St} {clock room : Int} (h : FsIn w f mb N S st clock room) (hb : Below w.heap.size w w') : FsIn w' f mb N S st clock room := h.of_heap fun k hk => hb.block k (h.lt k hk)
theorem FsIn.other {w w' : World} {f mb : Nat} {N : Bs → Nat} {S T : Nat → Prop} {st : St} {clock room : Int} (h : FsIn w f mb N S st clock room) (hb : Kept T w w') (hd : ∀ k, S k → ¬ T k) : FsIn w' f mb N S st clock room := h.of_heap fun k hk => hb.block k (h.lt k hk) (hd k hk)
theorem cells4 {w : World} {b : Nat} {a0 a1 a2 a3 : Value} {t : TypeId} (h : w.heap[b]? = some (.cells #[a0, a1, a2, a3] t (0, 0))) :
    w.cell? ⟨b, 0, none⟩ = some a0 ∧ w.cell? ⟨b, 1, none⟩ = some a1 ∧ w.cell? ⟨b, 2, none⟩ = some a2 ∧ w.cell? ⟨b, 3, none⟩ = some a3 ∧ (∀ o, w.frozen? ⟨b, o, none⟩ = false) := by
  refine ⟨?_, ?_, ?_, ?_, fun o => ?_⟩
  · simp [World.cell?, h]
  · simp [World.cell?, h]
  · simp [World.cell?, h]
  · simp [World.cell?, h]
  · simp [World.frozen?, h]
theorem cells3 {w : World} {b : Nat} {a0 a1 a2 : Value} {t : TypeId} (h : w.heap[b]? = some (.cells #[a0, a1, a2] t (0, 0))) :
    w.cell? ⟨b, 0, none⟩ = some a0 ∧ w.cell? ⟨b, 1, none⟩ = some a1 ∧ w.cell? ⟨b, 2, none⟩ = some a2 ∧ (∀ o, w.frozen? ⟨b, o, none⟩ = false) := by
  refine ⟨?_, ?_, ?_, fun o => ?_⟩
  · simp [World.cell?, h]
  · simp [World.cell?, h]
  · simp [World.cell?, h]
  · simp [World.frozen?, h]
def errV (q : Bs) (e : Int) : Value := .iface 75 (.agg #[.string (mk q), .iface 24 (.int .i64 e)])
def LookV (N : Bs → Nat) (B : Nat) (w : World) (q : Bs) : LookR → Value → Value → Prop
  | .err e, pv, ev => pv = .pointer none ∧ ev = errV q e
  | .root, pv, ev => (∃ g, B ≤ g ∧ w.heap[g]? = some (.cells #[.bool true, .int .i64 0, .slice none 0 0] 57 (0, 0)) ∧ pv = .pointer (some ⟨g, 0, none⟩)) ∧ ev = .nilIface
  | .none, pv, ev => pv = .pointer none ∧ ev = .nilIface
  | .node _, pv, ev => pv = .pointer (some ⟨N q, 0, none⟩) ∧ ev = .nilIface
end Go.Proofs.YtnnepcodghfcmaaGreatDoor
