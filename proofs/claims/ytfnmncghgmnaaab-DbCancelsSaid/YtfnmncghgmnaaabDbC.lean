/-
  The maps of a database: their keys, what stays beside them. Conditions: none.
-/
import Derived.Test.YtfnmncghgmnaaabDbB
import Derived.Maps.GroupsBeside
import Derived.Maps.OwnOps
import Derived.Maps.OwnSet
import Derived.Maps.Views
import Derived.DeepKeys4
import Derived.WideKeyArgs2
import Derived.Deep.AppendLies
namespace Go.Proofs.Ytfnmncghgmnaaab
open Go.RowKit

theorem laidOutT : laidOutB Try.prog = true := by kernel_rfl
theorem row71 : (71 : TypeId) < Try.prog.types.size := of_decide_eq_true (by kernel_rfl)
theorem wide71 : (match Try.prog.underlying 71 with | some (.array _ _) | some (.struct _) => true | _ => false) = true := by kernel_rfl
theorem law71 : Maps.Keyed Try.prog 71 := Maps.Keyed.of_law (deep_law_laid laidOutT (m := 2) (by omega) row71 (by kernel_rfl) wide71)
theorem underlying71' : ∃ fs, Try.prog.underlying 71 = some (.struct fs) := ⟨_, Try.underlying71⟩
theorem cells71 : Try.prog.cellsOf 71 = 2 := by kernel_rfl
theorem cells9 : Try.prog.cellsOf 9 = 1 := by kernel_rfl
theorem types71 : Try.prog.types.size = 105 := by kernel_rfl
theorem keyType71 : Try.prog.keyType 71 = true := by kernel_rfl
def keyLit (a b : ByteArray) : Lit := .string (keyBytes [.string a.data.toList, .string b.data.toList])
theorem keyLits9 (d : Nat) (a : ByteArray) (ha : a.size ≤ maxLen) : Try.prog.keyLits (d + 1) 9 [.string a] = some [.string a.data.toList] := by
  unfold Program.keyLits
  rw [Try.underlying9]
  simp only [ha, if_true]
theorem keyLits71 (d : Nat) (a b : ByteArray) (ha : a.size ≤ maxLen) (hb : b.size ≤ maxLen) : Try.prog.keyLits (d + 2) 71 [.string a, .string b] = some [.string a.data.toList, .string b.data.toList] := by
  have h1 := keyLits9 d a ha
  have h2 := keyLits9 d b hb
  unfold Program.keyLits
  rw [Try.underlying71]
  simp [cells71, cells9, h1, h2]
theorem formed71 (a b : ByteArray) : (Value.agg #[.string a, .string b]).formed Try.prog 71 = true := by
  obtain ⟨fs, hu⟩ := underlying71'
  simp [Value.formed, hu, cells71]
theorem key71 (a b : ByteArray) (ha : a.size ≤ maxLen) (hb : b.size ≤ maxLen) : keyOf Try.prog 71 (.agg #[.string a, .string b]) = some (keyLit a b) := by
  have h := keyLits71 104 a b ha hb
  obtain ⟨fs, hu⟩ := underlying71'
  unfold keyOf keyLit
  simp only [hu, keyType71, formed71, types71, Bool.and_self, if_true]
  show Option.map _ (Try.prog.keyLits (104 + 2) 71 [.string a, .string b]) = _
  rw [h]
  rfl
theorem keyLit_inj {a b c d : ByteArray} (ha : a.size ≤ maxLen) (hb : b.size ≤ maxLen) (hc : c.size ≤ maxLen) (hd : d.size ≤ maxLen) (h : keyLit a b = keyLit c d) : a = c ∧ b = d := by
  have h1 := key71 a b ha hb
  have h2 := key71 c d hc hd
  rw [← h] at h2
  have := law71.inj h1 h2
  injection this with this
  have e := congrArg Array.toList this
  simp at e
  exact e

/-- A look-up hangs on the map's block alone. -/
theorem groups_look {w w' : World} {base b n : Nat} {D : DataW Unit} {key v : Value} {kl : Lit} (h : w.ownsGroups Try.prog 71 base 3 .i64 b n D) (hz : ∀ w, (zeroValue 45).run Try.prog w = .ok (.slice none 0 0) w) (hkey : keyOf Try.prog 71 key = some kl)
    (hrun : (Instr.lookup 53 (.map (some b)) key false).run Try.prog w = .ok v w) (hw : w'.heap[b]? = w.heap[b]?) : (Instr.lookup 53 (.map (some b)) key false).run Try.prog w' = .ok v w' := by
  obtain ⟨es, clock, hb, F, _⟩ := h
  have hb' : w'.heap[b]? = some (.map es clock) := hw.trans hb
  rcases Maps.fit_look false law71 Try.underlying53 (hz w) hb F hkey with ⟨r1, no1, _⟩ | ⟨e1, y1, m1, k1, r1, _⟩
  · rcases Maps.fit_look false law71 Try.underlying53 (hz w') hb' F hkey with ⟨r2, _, _⟩ | ⟨e2, y2, m2, k2, r2, _⟩
    · rw [hrun] at r1; injection r1 with r1; rw [r2, r1]
    · exact absurd k2 (no1 e2 m2)
  · rcases Maps.fit_look false law71 Try.underlying53 (hz w') hb' F hkey with ⟨r2, no2, _⟩ | ⟨e2, y2, m2, k2, r2, _⟩
    · exact absurd k1 (no2 e1 m1)
    · rw [hrun] at r1; injection r1 with r1
      have he : e1 = e2 := by
        have hnd := F.stamped.2.2
        obtain ⟨i1, h1, g1⟩ := List.mem_iff_getElem.1 m1
        obtain ⟨i2, h2, g2⟩ := List.mem_iff_getElem.1 m2
        have hi : i1 = i2 := by
          have := List.pairwise_iff_getElem.1 hnd
          rcases Nat.lt_trichotomy i1 i2 with hl | hl | hl
          · exact (this i1 i2 (by simpa using h1) (by simpa using h2) hl (by simp [g1, g2, k1, k2])).elim
          · exact hl
          · exact (this i2 i1 (by simpa using h2) (by simpa using h1) hl (by simp [g1, g2, k1, k2])).elim
        subst hi
        rw [← g1, ← g2]
      subst he
      rw [r2, r1]

theorem shuns_stored {w0 w w2 : World} {base b n : Nat} {D : DataW Unit} {key : Value} {kl : Lit} {u v' : Value} {zs : List Int} {No : Nat → Prop} (hkey : keyOf Try.prog 71 key = some kl) (hown0 : w0.ownsGroups Try.prog 71 base 3 .i64 b n D) (hn : n < maxLen)
    (hu : w0.ownsInts base 3 .i64 u zs) (hsh : w0.Shuns b No) (hno : ∀ g, v'.ownBlock = some g → ¬ No g) (hgr : w0.grownBy w u.ownBlock) (hrun : (Instr.mapUpdate 53 (.map (some b)) key v').run Try.prog w = .ok () w2) : w2.Shuns b No := by
  obtain ⟨es, clock, hb, F, hs, _, hbb, _⟩ := hown0
  have hblt : b < w0.heap.size := (Array.getElem?_eq_some_iff.1 hb).1
  have hb1 : w.heap[b]? = some (.map es clock) := (hgr.block b hblt (fun e1 => by have := (hu.1.lt b e1.symm).1; omega)).trans hb
  obtain ⟨es', clock', hb2, hwho⟩ := stored_who law71 Try.underlying53 hb1 F (Nat.lt_of_le_of_lt hs hn) hkey hrun
  intro es2 clock2 hb2' y hy g hyg
  obtain ⟨rfl, rfl⟩ : es' = es2 ∧ clock' = clock2 := by rw [hb2] at hb2'; simpa using hb2'
  rcases hwho y hy with ⟨hy0, _⟩ | ⟨_, hval⟩
  · exact hsh es clock hb y hy0 g hyg
  · exact hno g (hval ▸ hyg)

theorem groups_shun {w : World} {base b n : Nat} {D : DataW Unit} {key v : Value} {kl : Lit} {No : Nat → Prop} (h : w.ownsGroups Try.prog 71 base 3 .i64 b n D) (hz : ∀ w, (zeroValue 45).run Try.prog w = .ok (.slice none 0 0) w) (hkey : keyOf Try.prog 71 key = some kl)
    (hrun : (Instr.lookup 53 (.map (some b)) key false).run Try.prog w = .ok v w) (hs : w.Shuns b No) : ∀ g, v.ownBlock = some g → ¬ No g := by
  obtain ⟨es, clock, hb, F, _⟩ := h
  rcases Maps.fit_look false law71 Try.underlying53 (hz w) hb F hkey with ⟨r1, _, _⟩ | ⟨e0, y, hm0, _, r1, _⟩
  · rw [hrun] at r1
    obtain rfl : v = .slice none 0 0 := by simpa using r1
    intro g hg; cases hg
  · rw [hrun] at r1
    obtain rfl : v = e0.val := by simpa using r1
    exact fun g hg => hs es clock hb e0 hm0 g hg

/-- All but the maps be, bn stays; of what lies from G on, just what No holds of. -/
structure Keeps (be bn G : Nat) (No : Nat → Prop) (w w' : World) : Prop where
  os : w'.os = w.os
  tape : w'.tape = w.tape
  output : w'.output = w.output
  size : w.heap.size ≤ w'.heap.size
  block : ∀ k, k < w.heap.size → (k < G ∨ No k) → k ≠ be → k ≠ bn → w'.heap[k]? = w.heap[k]?
section
variable {be bn G : Nat} {No : Nat → Prop} {w w' w2 : World}
theorem Keeps.refl (w : World) : Keeps be bn G No w w := ⟨rfl, rfl, rfl, Nat.le_refl _, fun _ _ _ _ _ => rfl⟩
theorem Keeps.trans (h : Keeps be bn G No w w') (h' : Keeps be bn G No w' w2) : Keeps be bn G No w w2 :=
  ⟨h'.os.trans h.os, h'.tape.trans h.tape, h'.output.trans h.output, Nat.le_trans h.size h'.size, fun k hk a b c => (h'.block k (Nat.lt_of_lt_of_le hk h.size) a b c).trans (h.block k hk a b c)⟩
theorem Keeps.of_below (h : Below w.heap.size w w') : Keeps be bn G No w w' := ⟨h.os, h.tape, h.output, h.size, fun k hk _ _ _ => h.block k hk⟩
theorem Keeps.of_grown {row : Option Nat} (h : w.grownBy w' row) (hr : ∀ j, row = some j → (G ≤ j ∧ ¬ No j) ∨ j = be ∨ j = bn ∨ w.heap.size ≤ j) : Keeps be bn G No w w' :=
  ⟨h.os, h.tape, h.output, h.size, fun k hk a b c => h.block k hk fun e => by
    rcases hr k e.symm with ⟨h1, h2⟩ | h1 | h1 | h1
    · exact a.elim (fun a => by omega) h2
    · exact b h1
    · exact c h1
    · omega⟩
theorem Keeps.weaken {No' : Nat → Prop} (h : Keeps be bn G No' w w') (hn : ∀ g, No g → No' g) : Keeps be bn G No w w' :=
  ⟨h.os, h.tape, h.output, h.size, fun k hk a b c => h.block k hk (a.imp id (hn k)) b c⟩
theorem Keeps.cell (h : Keeps be bn G No w w') {b o : Nat} (hb : b < w.heap.size) (hg : b < G ∨ No b) (h1 : b ≠ be) (h2 : b ≠ bn) : w'.cell? ⟨b, o, none⟩ = w.cell? ⟨b, o, none⟩ :=
  World.cell?_of_block (h.block b hb hg h1 h2)
theorem Keeps.below {B : Nat} {a : World} (h : Keeps be bn G No w w') (hb : Below B a w) (hB : B ≤ w.heap.size) (hG : B ≤ G) (h1 : B ≤ be) (h2 : B ≤ bn) : Below B a w' :=
  ⟨h.os.trans hb.os, h.tape.trans hb.tape, h.output.trans hb.output, Nat.le_trans hb.size h.size, fun k hk => (h.block k (by omega) (Or.inl (by omega)) (by omega) (by omega)).trans (hb.block k hk)⟩
end

/-- What the first loop of names keeps. -/
def NameInv (be bn G nE nN : Nat) (DN : DataW Unit) (No : Nat → Prop) (cs : List Value) (w wr : World) : Prop :=
  Keeps be bn G No w wr ∧ w.heap.size < wr.heap.size ∧ wr.rangeAt w.heap.size 0 cs ∧ (∃ nE' : Nat, ∃ DE' : DataW Unit, nE' ≤ nE ∧ wr.ownsGroups Try.prog 71 G 3 .i64 be nE' DE') ∧ wr.Shuns be (fun g => No g ∨ g = w.heap.size) ∧ wr.ownsMap Try.prog 71 (plainElem Try.prog 3) bn nN DN
theorem NameInv.step {be bn G nE nN : Nat} {DN : DataW Unit} {No : Nat → Prop} {cs : List Value} {w wr w1 : World} (h : NameInv be bn G nE nN DN No cs w wr) (hg : wr.grownBy w1 none) (hbe : be < w.heap.size) (hbn : bn < w.heap.size) : NameInv be bn G (nE + 1) nN DN No cs w w1 := by
  obtain ⟨hK, hsz, hRa, ⟨nE', DE', hn, hE⟩, hS, hN⟩ := h
  have hX : Keeps be bn G (fun g => No g ∨ g = w.heap.size) wr w1 := Keeps.of_grown hg (by simp)
  exact ⟨hK.trans (hX.weaken fun _ h => Or.inl h), Nat.lt_of_lt_of_le hsz hg.size, fun j u hu => (hX.cell hsz (Or.inr (Or.inr rfl)) (by omega) (by omega)).trans (hRa j u hu), ⟨_, _, by omega, hE.kept hg (by simp) (hE.rowsAbove (by simp))⟩, hS.kept hg (by omega) (by simp), hN.kept hg (by simp)⟩
theorem NameInv.store {be bn G nE nE' nN M cap2 gg i : Nat} {DN DE' : DataW Unit} {No : Nat → Prop} {cs : List Value} {w wr w1 w5 : World} {key v : Value} {kl : Lit} {zs : List Int} (h : NameInv be bn G nE nN DN No cs w wr)
    (hbe : be < w.heap.size) (hbn : bn < w.heap.size) (hbnG : bn < G) (hben : be ≠ bn) (hNo : ∀ g, No g → g < w.heap.size) (hkey : keyOf Try.prog 71 key = some kl)
    (hE1 : wr.ownsGroups Try.prog 71 G 3 .i64 be nE' DE') (hnE : nE' ≤ nE) (hmax : nE' < maxLen) (hoi : wr.ownsInts G 3 .i64 v zs) (hzl : M ≤ nE') (hback : wr.groupBack Try.prog 53 71 G 3 .i64 be nE' DE' key kl v) (hvsh : ∀ g, v.ownBlock = some g → ¬ (No g ∨ g = w.heap.size))
    (hW2 : ∀ row, wr.grownBy w1 row) (hsz1 : w1.heap.size = wr.heap.size + 1) (hni : (Lit.int .i64 (i : Int)).wf = true) (hm : zs.length = M)
    (hown5 : w5.ownsRow G 3 1 (.slice (some ⟨gg, 0, none⟩) (M + 1) cap2) (M + 1) (zs.map (Value.int .i64) ++ [.int .i64 i])) (hgrow5 : ((w1.alloc (.cells #[.int .i64 i] 3)).drew).grownBy w5 v.ownBlock) (hat5 : v.ownBlock = some gg ∨ gg = wr.heap.size + 1 + 1) :
    ∃ w6, (Instr.mapUpdate 53 (.map (some be)) key (.slice (some ⟨gg, 0, none⟩) (M + 1) cap2)).run Try.prog w5 = .ok () w6 ∧ NameInv be bn G (nE + 1) nN DN No cs w w6 ∧ ∀ b o, b ≤ wr.heap.size → b ≠ be → w6.cell? ⟨b, o, none⟩ = w5.cell? ⟨b, o, none⟩ := by
  obtain ⟨hK, hsz, hRa, -, hS, hN⟩ := h
  subst hm
  have hall : wr.grownBy w5 v.ownBlock := ((hW2 _).trans (World.grownBy_alloc w1 (.cells #[.int .i64 i] 3) _)).trans ⟨hgrow5.os, hgrow5.tape, hgrow5.output, hgrow5.size, hgrow5.block⟩
  have hoi5 : w5.ownsInts G 3 .i64 (.slice (some ⟨gg, 0, none⟩) (zs.length + 1) cap2) (zs ++ [(i : Int)]) := hoi.appended hown5 hni
  have hloc5 : (Value.slice (some ⟨gg, 0, none⟩) (zs.length + 1) cap2).ownBlock = v.ownBlock ∨ ∃ g, (Value.slice (some ⟨gg, 0, none⟩) (zs.length + 1) cap2).ownBlock = some g ∧ wr.heap.size ≤ g := hat5.imp (fun e => e.symm) (fun e => ⟨gg, rfl, by omega⟩)
  obtain ⟨w6, hrun6, hown6, hgrow6⟩ := hback w5 _ _ hall hoi5 (by rw [List.length_append]; simp; omega) hloc5
  have hvlt := fun g hg => hoi.1.lt g hg
  have hsh6 := shuns_stored hkey hE1 hmax hoi hS (fun g' hg' => by
    rcases hat5 with e | e
    · exact hvsh g' (e.trans hg')
    · injection hg' with hg'
      intro h
      have h2 : g' < wr.heap.size := h.elim (fun h => by have := hNo g' h; omega) (fun h => by omega)
      dsimp only at hg'
      omega) hall hrun6
  have hX1 : Keeps be bn G (fun g => No g ∨ g = w.heap.size) wr w5 := Keeps.of_grown hall (fun j hj => Or.inl ⟨(hvlt j hj).1, hvsh j hj⟩)
  have hX2 : Keeps be bn G (fun g => No g ∨ g = w.heap.size) w5 w6 := Keeps.of_grown hgrow6 (fun j hj => by injection hj with hj; exact Or.inr (Or.inl hj.symm))
  have hX := hX1.trans hX2
  refine ⟨w6, hrun6, ?_, fun b o hb hne => hgrow6.cell_far _ (by have := hgrow5.size; simp at this; show b < w5.heap.size; omega) (fun e => by injection e with e; exact hne e)⟩
  exact ⟨hK.trans (hX.weaken fun _ h => Or.inl h), Nat.lt_of_lt_of_le hsz hX.size, fun j u hu => (hX.cell hsz (Or.inr (Or.inr rfl)) (by omega) (by omega)).trans (hRa j u hu), ⟨_, _, by omega, hown6⟩, hsh6, (hN.kept hall (fun e => by have := (hvlt bn e.symm).1; omega)).kept hgrow6 (fun e => by injection e with e; omega)⟩

def nmB : ByteArray := ⟨#[110, 97, 109, 101]⟩
def tgB : ByteArray := ⟨#[116, 97, 114, 103, 101, 116]⟩
/-- The map of names reads as a set. -/
def NamedAs (D : DataW Unit) (S : ByteArray → Bool) : Prop := ∀ n, n.size ≤ maxLen → D.atKey (keyLit nmB n) (.lit (.int .i64 0)) = .lit (.int .i64 (if S n then 1 else 0))
theorem NamedAs.put {D : DataW Unit} {S : ByteArray → Bool} {x : ByteArray} (h : NamedAs D S) (hm : Maps.IsMap D) (hx : x.size ≤ maxLen) : NamedAs (D.put (keyLit nmB x) (.lit (.int .i64 1))) (fun n => S n || decide (n = x)) := by
  intro n hn
  by_cases hnx : n = x
  · subst hnx
    rw [Maps.atKey_put_same hm (law71.key (key71 nmB n (by decide) hn))]
    simp
  · rw [Maps.atKey_put_other (fun e => hnx (keyLit_inj (by decide) hn (by decide) hx e).2), h n hn]
    simp [hnx]
theorem NamedAs.congr {D : DataW Unit} {S S' : ByteArray → Bool} (h : NamedAs D S) (e : ∀ n, S n = S' n) : NamedAs D S' := fun n hn => by rw [h n hn, e n]
theorem namedAs_none : NamedAs (.map []) (fun _ => false) := fun n _ => by
  rw [Go.WideAt.atKey_none _ (by simp)]; rfl
theorem ownsGroups_empty {w : World} {b base : Nat} (hb : w.heap[b]? = some (.map #[] 0)) (h : b < base) : w.ownsGroups (H := Unit) Try.prog 71 base 3 .i64 b 0 (.map []) :=
  ⟨#[], 0, hb, ⟨by simp, Go.MapKept.stamped_empty 0, by simp⟩, Nat.le_refl _, rfl, h, by simp, by simp⟩
theorem shuns_empty {w : World} {b : Nat} {No : Nat → Prop} (hb : w.heap[b]? = some (.map #[] 0)) : w.Shuns b No := fun es clock h x hx => by
  rw [hb] at h; cases h; simp at hx
/-- What the second loop of names keeps. -/
def NamedInv (bn nN : Nat) (S : ByteArray → Bool) (W wr : World) : Prop :=
  W.grownBy wr (some bn) ∧ ∃ n' : Nat, ∃ D' : DataW Unit, n' ≤ nN ∧ wr.ownsMap Try.prog 71 (plainElem Try.prog 3) bn n' D' ∧ NamedAs D' S
theorem NamedInv.congr {bn nN nN' : Nat} {S S' : ByteArray → Bool} {W wr : World} (h : NamedInv bn nN S W wr) (hn : nN ≤ nN') (e : ∀ n, S n = S' n) : NamedInv bn nN' S' W wr := by
  obtain ⟨hg, n', D', h1, h2, h3⟩ := h
  exact ⟨hg, n', D', by omega, h2, h3.congr e⟩
theorem NamedInv.put {bn nN n' : Nat} {S : ByteArray → Bool} {W wr w2 : World} {D' : DataW Unit} {x : ByteArray} (hg : W.grownBy wr (some bn)) (hn : n' ≤ nN) (hD : wr.ownsMap Try.prog 71 (plainElem Try.prog 3) bn n' D') (hS : NamedAs D' S) (hx : x.size ≤ maxLen)
    (hg2 : wr.grownBy w2 (some bn)) (hD2 : w2.ownsMap Try.prog 71 (plainElem Try.prog 3) bn (n' + 1) (D'.put (keyLit nmB x) (.lit (.int .i64 1)))) : NamedInv bn (nN + 1) (fun n => S n || decide (n = x)) W w2 :=
  ⟨hg.trans hg2, _, _, by omega, hD2, hS.put hD.isMap hx⟩
theorem inL_append (x : ByteArray) : ∀ l m : List ByteArray, inL x (l ++ m) = (inL x l || inL x m)
  | [], m => by simp [inL]
  | y :: l, m => by simp [inL, inL_append x l m, Bool.or_assoc]
theorem inL_more {l : List ByteArray} {j : Nat} {s : ByteArray} (h : l[j]? = some s) (x : ByteArray) : inL x (l.take (j + 1)) = (inL x (l.take j) || decide (x = s)) := by
  rw [take_more h, inL_append]
  simp [inL, eq_comm]
theorem shuns_weaken {w : World} {b : Nat} {No No' : Nat → Prop} (h : w.Shuns b No') (hn : ∀ g, No g → No' g) : w.Shuns b No := fun es clock hb x hx g hg hN => h es clock hb x hx g hg (hn g hN)
def Uf (S : ByteArray → Bool) (pl : Bool) (T P O : List ByteArray) (k : Nat) (n : ByteArray) : Bool :=
  S n || (pl && (decide (1 ≤ k) && inL n T || decide (2 ≤ k) && inL n P || decide (3 ≤ k) && inL n O))
end Go.Proofs.Ytfnmncghgmnaaab
