/-
  What New keeps while it looks which patterns count and takes down names. Conditions: none.
-/
import Derived.Test.YtfnmncghgmnaaabDbE
namespace Go.Proofs.Ytfnmncghgmnaaab
open Go.RowKit

def Own3 (bd be bn : Nat) : Nat → Prop := fun g => g = bd ∨ g = be ∨ g = bn
structure DbInv (wS : World) (bd be bn nb nE nN : Nat) (v0 v1 v4 : Value) (I : List Int) (S : ByteArray → Bool) (w : World) : Prop where
  only : Only (Own3 bd be bn) wS w
  dcells : w.heap[bd]? = some (.cells #[v0, v1, .int .i64 nb, .map (some be), v4, .map (some bn)] 56 (0, 0))
  r4 : w.ownsRow wS.heap.size 3 1 v4 I.length (I.map (Value.int .i64))
  grp : ∃ n : Nat, ∃ D : DataW Unit, n ≤ nE ∧ w.ownsGroups Try.prog 71 wS.heap.size 3 .i64 be n D
  shun : w.Shuns be (fun g => v4.ownBlock = some g)
  nam : ∃ n : Nat, ∃ D : DataW Unit, n ≤ nN ∧ w.ownsMap Try.prog 71 (plainElem Try.prog 3) bn n D ∧ NamedAs D S
  far : bd < wS.heap.size ∧ be < wS.heap.size ∧ bn < wS.heap.size ∧ bd ≠ be ∧ bd ≠ bn ∧ be ≠ bn
section
variable {wS w w' : World} {bd be bn nb nE nN : Nat} {v0 v1 v4 : Value} {I : List Int} {S : ByteArray → Bool}
theorem DbInv.own4 (h : DbInv wS bd be bn nb nE nN v0 v1 v4 I S w) : ∀ g, v4.ownBlock = some g → wS.heap.size ≤ g ∧ g < w.heap.size := fun g e => h.r4.lt g e
theorem DbInv.below (h : DbInv wS bd be bn nb nE nN v0 v1 v4 I S w) (hb : Below w.heap.size w w') : DbInv wS bd be bn nb nE nN v0 v1 v4 I S w' := by
  have hsz := h.only.size
  obtain ⟨f1, f2, f3, f4, f5, f6⟩ := h.far
  have hg : w.grownBy w' none := ⟨hb.os, hb.tape, hb.output, hb.size, fun k hk _ => hb.block k hk⟩
  obtain ⟨n, D, hn, hE⟩ := h.grp
  obtain ⟨n', D', hn', hN, hS⟩ := h.nam
  exact { only := h.only.trans (Only.of_below hb)
          dcells := (hb.block bd (heap_lt h.dcells)).trans h.dcells
          r4 := ownsRow_only (Tm := fun _ => False) h.r4 (Only.of_below hb) (fun _ _ k => k)
          grp := ⟨n, D, hn, hE.kept hg (by simp) (hE.rowsAbove (by simp))⟩
          shun := h.shun.kept hg (by omega) (by simp)
          nam := ⟨n', D', hn', hN.kept hg (by simp), hS⟩
          far := h.far }
theorem DbInv.mono {nE' nN' : Nat} {S' : ByteArray → Bool} (h : DbInv wS bd be bn nb nE nN v0 v1 v4 I S w) (h1 : nE ≤ nE') (h2 : nN ≤ nN') (hS : ∀ n, S n = S' n) : DbInv wS bd be bn nb nE' nN' v0 v1 v4 I S' w := by
  obtain ⟨n, D, hn, hE⟩ := h.grp
  obtain ⟨n', D', hn', hN, hS'⟩ := h.nam
  exact { h with grp := ⟨n, D, by omega, hE⟩, nam := ⟨n', D', by omega, hN, hS'.congr hS⟩ }
theorem DbInv.implicit {gg cap : Nat} {z : Int} {w5 wa : World} (h : DbInv wS bd be bn nb nE nN v0 v1 v4 I S w) (hwa : wa.heap.size = w.heap.size + 1) (hwo : Only (fun _ => False) w wa)
    (hown5 : w5.ownsRow wS.heap.size 3 1 (.slice (some ⟨gg, 0, none⟩) (I.length + 1) cap) (I.length + 1) (I.map (Value.int .i64) ++ [.int .i64 z])) (hgrow5 : wa.grownBy w5 v4.ownBlock) (hat5 : v4.ownBlock = some gg ∨ gg = w.heap.size + 1) :
    DbInv wS bd be bn nb nE nN v0 v1 (.slice (some ⟨gg, 0, none⟩) (I.length + 1) cap) (I ++ [z]) S (w5.setCell ⟨bd, 4, none⟩ (.slice (some ⟨gg, 0, none⟩) (I.length + 1) cap)) := by
  have hsz := h.only.size
  obtain ⟨f1, f2, f3, f4, f5, f6⟩ := h.far
  obtain ⟨n, D, hn, hE⟩ := h.grp
  obtain ⟨n', D', hn', hN, hS⟩ := h.nam
  have o4 := h.own4
  have ggS : wS.heap.size ≤ gg := by
    rcases hat5 with e | e
    · exact (o4 gg e).1
    · omega
  have hg1 : w.grownBy w5 v4.ownBlock := by
    refine (?_ : w.grownBy wa v4.ownBlock).trans hgrow5
    exact ⟨hwo.os, hwo.tape, hwo.output, hwo.size, fun k hk _ => hwo.block k hk (fun e => e)⟩
  have hg2 : w5.grownBy (w5.setCell ⟨bd, 4, none⟩ (.slice (some ⟨gg, 0, none⟩) (I.length + 1) cap)) (some bd) :=
    ⟨rfl, rfl, rfl, by simp, fun k _ hk => heap_setCell_other _ _ _ _ (fun e => hk (by rw [e]))⟩
  have hd5 : w5.heap[bd]? = some (.cells #[v0, v1, .int .i64 nb, .map (some be), v4, .map (some bn)] 56 (0, 0)) :=
    (hg1.block bd (heap_lt h.dcells) (fun e => by have := (o4 bd e.symm).1; omega)).trans h.dcells
  have hbe4 : some be ≠ v4.ownBlock := fun e => by have := (o4 be e.symm).1; omega
  have hbn4 : some bn ≠ v4.ownBlock := fun e => by have := (o4 bn e.symm).1; omega
  have hbd1 : some be ≠ some bd := fun e => by injection e with e; exact f4 e.symm
  have hbd2 : some bn ≠ some bd := fun e => by injection e with e; exact f5 e.symm
  have hE1 := hE.kept hg1 hbe4 (h.shun.rowsOff (fun j e => e))
  have hE2 := hE1.kept hg2 hbd1 (hE1.rowsAbove (fun j e => by injection e with e; omega))
  have hsz5 := hg1.size
  have hS1 := h.shun.kept hg1 (by omega) hbe4
  have hS2 : w5.Shuns be (fun g => (Value.slice (some ⟨gg, 0, none⟩) (I.length + 1) cap).ownBlock = some g) := by
    rcases hat5 with e | e
    · intro es clock hb x hx g hxg hk
      exact hS1 es clock hb x hx g hxg (e.trans hk)
    · refine (h.shun.reno hE (No' := fun g => v4.ownBlock = some g ∨ g = gg) (fun g k => k.imp id (fun k => by omega))).kept hg1 (by omega) hbe4 |> fun hs => ?_
      intro es clock hb x hx g hxg hk
      exact hs es clock hb x hx g hxg (Or.inr (by simpa [Value.ownBlock] using hk.symm))
  exact { only := ⟨hg2.os.trans (hg1.os.trans h.only.os), hg2.tape.trans (hg1.tape.trans h.only.tape), hg2.output.trans (hg1.output.trans h.only.output), by simp; omega, fun g hg ho => (hg2.block g (by omega) (fun e => ho (Or.inl (by injection e)))).trans ((hg1.block g (by omega) (fun e => by have := (o4 g e.symm).1; omega)).trans (h.only.block g hg ho))⟩
          dcells := by rw [heap_setCell_same _ _ _ _ _ _ hd5]; rfl
          r4 := by
            have := ownsRow_only (Tm := fun g => g = bd) hown5 (Only.setCell (Tm := fun g => g = bd) (Only.refl _ w5) (b := bd) (o := 4) rfl (.slice (some ⟨gg, 0, none⟩) (I.length + 1) cap)) (fun g e k => absurd ((by simpa [Value.ownBlock] using e : gg = g).trans k) (by omega))
            simpa using this
          grp := ⟨n, D, hn, hE2⟩
          shun := hS2.kept hg2 (by omega) hbd1
          nam := ⟨n', D', hn', (hN.kept hg1 hbn4).kept hg2 hbd2, hS⟩
          far := h.far }
theorem DbInv.names {nE2 nN2 : Nat} {S' : ByteArray → Bool} (h : DbInv wS bd be bn nb nE nN v0 v1 v4 I S w) (hK : Keeps be bn wS.heap.size (fun g => v4.ownBlock = some g) w w')
    (hE : ∃ n, ∃ D : DataW Unit, n ≤ nE2 ∧ w'.ownsGroups Try.prog 71 wS.heap.size 3 .i64 be n D) (hS : w'.Shuns be (fun g => v4.ownBlock = some g))
    (hN : ∃ n, ∃ D : DataW Unit, n ≤ nN2 ∧ w'.ownsMap Try.prog 71 (plainElem Try.prog 3) bn n D ∧ NamedAs D S') : DbInv wS bd be bn nb nE2 nN2 v0 v1 v4 I S' w' := by
  have hsz := h.only.size
  obtain ⟨f1, f2, f3, f4, f5, f6⟩ := h.far
  refine { only := ⟨hK.os.trans h.only.os, hK.tape.trans h.only.tape, hK.output.trans h.only.output, Nat.le_trans hsz hK.size, fun g hg ho => (hK.block g (by omega) (Or.inl hg) (fun e => ho (Or.inr (Or.inl e))) (fun e => ho (Or.inr (Or.inr e)))).trans (h.only.block g hg ho)⟩
           dcells := (hK.block bd (by omega) (Or.inl f1) f4 f5).trans h.dcells
           r4 := ?_
           grp := hE
           shun := hS
           nam := hN
           far := h.far }
  obtain ⟨hl, hr⟩ := h.r4
  refine ⟨hl, hr.imp id ?_⟩
  rintro ⟨g, cap, cur, rfl, hb, hg, h1, h2, h3, h4⟩
  exact ⟨g, cap, cur, rfl, hb, (hK.block g (heap_lt hg) (Or.inr rfl) (by omega) (by omega)).trans hg, h1, h2, h3, h4⟩
theorem DbInv.keeps_only (h : DbInv wS bd be bn nb nE nN v0 v1 v4 I S w) {No : Nat → Prop} (hK : Keeps be bn wS.heap.size No w w') : Only (Own3 bd be bn) wS w' := by
  have hsz := h.only.size
  exact ⟨hK.os.trans h.only.os, hK.tape.trans h.only.tape, hK.output.trans h.only.output, Nat.le_trans hsz hK.size, fun g hg ho => (hK.block g (by omega) (Or.inl hg) (fun e => ho (Or.inr (Or.inl e))) (fun e => ho (Or.inr (Or.inr e)))).trans (h.only.block g hg ho)⟩
end
theorem StrsAt.off_map {w : World} {v : Value} {l : List ByteArray} {b : Nat} {es : Array MapEntry} {c : Nat} (h : StrsAt w v l) (hb : w.heap[b]? = some (.map es c)) : offV (fun g => g = b) v := by
  obtain ⟨a, n, c, rfl, h2, h3, h4, h5, h6⟩ := h
  intro a' n' c' e hn hk
  injection e with e1 e2 e3
  subst e1 e2 e3
  obtain ⟨b', off, e, hb', hc⟩ := h5 hn
  injection e with e
  subst e
  dsimp only at hk
  subst hk
  have hl : 0 < l.length := by omega
  have := hc 0 _ (List.getElem?_eq_getElem hl)
  unfold World.cell? at this
  rw [hb] at this
  simp at this
theorem offV_own3 {v : Value} {bd be bn : Nat} (h1 : offV (fun g => g = bd) v) (h2 : offV (fun g => g = be) v) (h3 : offV (fun g => g = bn) v) : offV (Own3 bd be bn) v := fun a n c e hn k =>
  k.elim (h1 a n c e hn) (fun k => k.elim (h2 a n c e hn) (h3 a n c e hn))
/-- A rule of a database stays readable while the loop goes on. -/
theorem NewInv.off3 {w0 w : World} {bd be bn nb : Nat} {vl v0 v1 : Value} {L : List ByteArray} {Tm : Nat → Prop} {X Y : List Pl} (h : NewInv w0 bd be bn nb vl L Tm v0 v1 X Y w) {x : Pl} (hx : x ∈ X ∨ x ∈ Y) : x.off (Own3 bd be bn) := by
  obtain ⟨ha, -, ho⟩ := h.all x hx
  have key : ∀ {v : Value} {l : List ByteArray}, StrsAt w v l → offV (Wr bd v0 v1 Tm) v → offV (Own3 bd be bn) v := fun hs ho =>
    offV_own3 (fun a n c e hn k => ho a n c e hn (Or.inl k)) (hs.off_map h.me) (hs.off_map h.mn)
  exact ⟨key ha.1 ho.1, key ha.2.1 ho.2.1, key ha.2.2.1 ho.2.2.1, key ha.2.2.2 ho.2.2.2⟩
theorem NewInv.rules3 {w0 w w' : World} {bd be bn nb : Nat} {vl v0 v1 : Value} {L : List ByteArray} {Tm : Nat → Prop} {X Y : List Pl} (h : NewInv w0 bd be bn nb vl L Tm v0 v1 X Y w) (hO : Only (Own3 bd be bn) w w') : RulesAt w' v0 X ∧ RulesAt w' v1 Y := by
  obtain ⟨o0, o1⟩ := h.own_ne
  refine ⟨⟨rowAt_own (ownsRow_only h.r0 hO (fun g e k => ?_)), fun x hx => (h.all x (Or.inl hx)).1.only (h.off3 (Or.inl hx)) hO⟩, ⟨rowAt_own (ownsRow_only h.r1 hO (fun g e k => ?_)), fun x hx => (h.all x (Or.inr hx)).1.only (h.off3 (Or.inr hx)) hO⟩⟩
  · rcases k with k | k | k
    · exact (o0 g e).1 k
    · exact (o0 g e).2.1 k
    · exact (o0 g e).2.2.1 k
  · rcases k with k | k | k
    · exact (o1 g e).1 k
    · exact (o1 g e).2.1 k
    · exact (o1 g e).2.2.1 k

def nameStep (S : ByteArray → Bool) (r : Ru) : ByteArray → Bool := fun n => S n || (plainT r.targets && (inL n r.targets || inL n r.prereqs || inL n r.orders))
def namedR (rs : List Ru) : ByteArray → Bool := rs.foldl (fun S r => if r.pattern then S else nameStep S r) (fun _ => false)
theorem namedR_more {rs : List Ru} {q : Nat} {r : Ru} (h : rs[q]? = some r) : namedR (rs.take (q + 1)) = if r.pattern then namedR (rs.take q) else nameStep (namedR (rs.take q)) r := by
  unfold namedR; rw [take_more h, List.foldl_append]; rfl
def implR (rs : List Ru) (nb : Nat) : Nat → List Int
  | 0 => []
  | q + 1 => implR rs nb q ++ (match rs[q]? with
    | some r => if r.pattern && countsR rs nb q r then [(q : Int)] else []
    | none => [])
theorem implR_len (rs : List Ru) (nb : Nat) : ∀ q, (implR rs nb q).length ≤ q
  | 0 => Nat.le_refl _
  | q + 1 => by
    have := implR_len rs nb q
    rw [implR, List.length_append]
    split
    · split <;> simp <;> omega
    · simp; omega
/-- The rules of a database. -/
def newRules (plain : Bool) (rs : List Ru) : List Ru := (rs.map fun r => (turnedR r (sufs plain rs)).getD r) ++ (if plain then [] else builtinRs)
theorem turned_pattern {r r' : Ru} {L : List ByteArray} (h : turnedR r L = some r') : r'.pattern = true := by
  unfold turnedR turnT at h
  split at h
  · split at h
    · injection h with h; rw [← h]
    · split at h
      · injection h with h; rw [← h]
      · cases h
  · cases h
theorem newRules_plain {plain : Bool} {rs : List Ru} {r : Ru} (h : r ∈ newRules plain rs) (hp : r.pattern = false) : r ∈ rs := by
  rcases List.mem_append.1 h with h | h
  · obtain ⟨q, hq, rfl⟩ := List.mem_map.1 h
    cases ht : turnedR q (sufs plain rs) with
    | none => exact hq
    | some r' => rw [ht] at hp; have := turned_pattern ht; simp [this] at hp
  · cases plain
    · simp only [Bool.false_eq_true, if_false, builtinRs, List.mem_cons, List.not_mem_nil, or_false] at h
      rcases h with rfl | rfl | rfl | rfl <;> simp [bR1, bR2, bR3, bR4, madeR] at hp
    · simp at h
theorem intsAt_own {w : World} {base : Nat} {v : Value} {l : List Int} (h : w.ownsRow base 3 1 v l.length (l.map (Value.int .i64))) : IntsAt w v l := by
  have hc := fun g => h.cells (g := g)
  obtain ⟨hl, h⟩ := h
  rcases h with ⟨rfl, hn⟩ | ⟨g, cap, cur, rfl, hb, hg, hn, hm, _⟩
  · exact ⟨none, 0, 0, rfl, hn.symm, Nat.le_refl _, Nat.zero_le _, fun h => absurd h (Nat.lt_irrefl _), fun _ => rfl⟩
  · have ad : ∀ j, (⟨g, 0, none⟩ : Addr).add j = ⟨g, j, none⟩ := fun j => by unfold Addr.add; split <;> simp_all
    refine ⟨_, _, _, rfl, rfl, hn, hm, fun _ => ⟨g, 0, rfl, heap_lt hg, fun k s hk => ?_⟩, fun h => by cases h⟩
    rw [Nat.zero_add, ← ad]
    exact hc g rfl k _ (by simp [hk])
/-- A database in memory. -/
structure DbAt (base bd nb : Nat) (rules given : List Ru) (I : List Int) (S : ByteArray → Bool) (w : World) : Prop where
  ex : ∃ (v0 v1 v4 : Value) (be bn : Nat) (X Y : List Pl), w.heap[bd]? = some (.cells #[v0, v1, .int .i64 nb, .map (some be), v4, .map (some bn)] 56 (0, 0)) ∧ (RulesAt w v0 X ∧ X.map Pl.r = rules) ∧ (RulesAt w v1 Y ∧ Y.map Pl.r = given) ∧
    (NewAt base v0 ∧ NewAt base v1 ∧ NewAt base v4 ∧ base ≤ bd ∧ base ≤ bn) ∧ (∀ x, x ∈ X ∨ x ∈ Y → x.new base) ∧ IntsAt w v4 I ∧ ∃ n : Nat, ∃ D : DataW Unit, w.ownsMap Try.prog 71 (plainElem Try.prog 3) bn n D ∧ NamedAs D S
theorem DbAt.below {base bd nb : Nat} {rules given : List Ru} {I : List Int} {S : ByteArray → Bool} {w w' : World} (h : DbAt base bd nb rules given I S w) (hb : Below w.heap.size w w') : DbAt base bd nb rules given I S w' := by
  obtain ⟨v0, v1, v4, be, bn, X, Y, h1, ⟨h2, h3⟩, ⟨h4, h5⟩, h6, h7, h8, n, D, h9, h10⟩ := h.ex
  exact ⟨v0, v1, v4, be, bn, X, Y, (hb.block bd (heap_lt h1)).trans h1, ⟨h2.below hb, h3⟩, ⟨h4.below hb, h5⟩, h6, h7, h8.below hb, n, D, h9.kept (row := none) ⟨hb.os, hb.tape, hb.output, hb.size, fun k hk _ => hb.block k hk⟩ (by simp), h10⟩
end Go.Proofs.Ytfnmncghgmnaaab
