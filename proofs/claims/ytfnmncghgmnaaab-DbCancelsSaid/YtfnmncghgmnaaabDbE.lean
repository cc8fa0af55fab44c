/-
  What New keeps while it puts rules in order. Conditions: none.
-/
import Derived.Test.YtfnmncghgmnaaabDbD
namespace Go.Proofs.Ytfnmncghgmnaaab
open Go.RowKit

/-- Nothing but the blocks of Tm, and new ones, has turned. -/
structure Only (Tm : Nat → Prop) (w w' : World) : Prop where
  os : w'.os = w.os
  tape : w'.tape = w.tape
  output : w'.output = w.output
  size : w.heap.size ≤ w'.heap.size
  block : ∀ g, g < w.heap.size → ¬ Tm g → w'.heap[g]? = w.heap[g]?
theorem Only.refl (Tm : Nat → Prop) (w : World) : Only Tm w w := ⟨rfl, rfl, rfl, Nat.le_refl _, fun _ _ _ => rfl⟩
theorem Only.trans {Tm : Nat → Prop} {w w1 w2 : World} (h : Only Tm w w1) (h' : Only Tm w1 w2) : Only Tm w w2 :=
  ⟨h'.os.trans h.os, h'.tape.trans h.tape, h'.output.trans h.output, Nat.le_trans h.size h'.size, fun g hg ht => (h'.block g (Nat.lt_of_lt_of_le hg h.size) ht).trans (h.block g hg ht)⟩
theorem Only.of_below {Tm : Nat → Prop} {w w' : World} (h : Below w.heap.size w w') : Only Tm w w' := ⟨h.os, h.tape, h.output, h.size, fun g hg _ => h.block g hg⟩
theorem Only.mono {Tm Tm' : Nat → Prop} {w w' : World} (h : Only Tm w w') (ht : ∀ g, Tm g → Tm' g) : Only Tm' w w' := ⟨h.os, h.tape, h.output, h.size, fun g hg hn => h.block g hg fun k => hn (ht g k)⟩
theorem Only.of_grown {Tm : Nat → Prop} {w w' : World} {row : Option Nat} (h : w.grownBy w' row) (hr : ∀ j, row = some j → Tm j) : Only Tm w w' :=
  ⟨h.os, h.tape, h.output, h.size, fun g hg hn => h.block g hg fun e => hn (hr g e.symm)⟩
theorem Only.setCell {Tm : Nat → Prop} {w w' : World} (h : Only Tm w w') {b o : Nat} (hb : Tm b) (v : Value) : Only Tm w (w'.setCell ⟨b, o, none⟩ v) :=
  ⟨h.os, h.tape, h.output, by simpa using h.size, fun g hg hn => (heap_setCell_other _ _ _ _ (fun e => hn (by rw [e]; exact hb))).trans (h.block g hg hn)⟩
theorem Only.setCells {Tm : Nat → Prop} {w : World} {b : Nat} (hb : Tm b) : ∀ (vs : List Value) (o : Nat) (w' : World), Only Tm w w' → Only Tm w (w'.setCells b o vs)
  | [], _, _, h => h
  | v :: vs, o, w', h => Only.setCells hb vs (o + 1) _ (h.setCell hb v)
theorem Only.below {Tm : Nat → Prop} {B : Nat} {a w w' : World} (h : Only Tm w w') (hb : Below B a w) (hB : B ≤ w.heap.size) (ht : ∀ g, Tm g → B ≤ g) : Below B a w' :=
  ⟨h.os.trans hb.os, h.tape.trans hb.tape, h.output.trans hb.output, Nat.le_trans hb.size h.size, fun g hg => (h.block g (by omega) (fun k => by have := ht g k; omega)).trans (hb.block g hg)⟩

def offV (W : Nat → Prop) (v : Value) : Prop := ∀ a n c, v = .slice (some a) n c → 0 < n → ¬ W a.block
theorem StrsAt.only {Tm : Nat → Prop} {w w' : World} {v : Value} {l : List ByteArray} (h : StrsAt w v l) (ho : offV Tm v) (hw : Only Tm w w') : StrsAt w' v l := by
  obtain ⟨a, n, c, rfl, h2, h3, h4, h5, h6⟩ := h
  refine ⟨a, n, c, rfl, h2, h3, h4, fun hn => ?_, h6⟩
  obtain ⟨b, off, rfl, hb, hc⟩ := h5 hn
  exact ⟨b, off, rfl, Nat.lt_of_lt_of_le hb hw.size, fun k s hk => (World.cell?_of_block (hw.block b hb (ho _ _ _ rfl hn))).trans (hc k s hk)⟩
theorem StrsAt.off {W W' : Nat → Prop} {w : World} {v : Value} {l : List ByteArray} (h : StrsAt w v l) (ho : offV W v) (hW : ∀ g, W' g → W g ∨ w.heap.size ≤ g) : offV W' v := by
  obtain ⟨a, n, c, rfl, h2, h3, h4, h5, h6⟩ := h
  intro a' n' c' e hn hk
  injection e with e1 e2 e3
  subst e1 e2 e3
  obtain ⟨b, off, e, hb, hc⟩ := h5 hn
  injection e with e
  subst e
  rcases hW _ hk with h | h
  · exact ho _ _ _ rfl hn h
  · dsimp only at h; omega
theorem StrsAt.off_new {W : Nat → Prop} {w : World} {v : Value} {l : List ByteArray} {base : Nat} (h : StrsAt w v l) (hnew : NewAt base v) (hW : ∀ g, W g → g < base ∨ w.heap.size ≤ g) : offV W v := by
  obtain ⟨a, n, c, rfl, h2, h3, h4, h5, h6⟩ := h
  intro a' n' c' e hn hk
  injection e with e1 e2 e3
  subst e1 e2 e3
  obtain ⟨b, off, e, hb, hc⟩ := h5 hn
  injection e with e
  subst e
  have := hnew _ _ _ rfl
  rcases hW _ hk with h | h <;> dsimp only at h this <;> omega
def Pl.off (x : Pl) (W : Nat → Prop) : Prop := offV W x.t ∧ offV W x.p ∧ offV W x.o ∧ offV W x.rc
theorem Pl.at.only {Tm : Nat → Prop} {w w' : World} {x : Pl} (h : x.at w) (ho : x.off Tm) (hw : Only Tm w w') : x.at w' :=
  ⟨h.1.only ho.1 hw, h.2.1.only ho.2.1 hw, h.2.2.1.only ho.2.2.1 hw, h.2.2.2.only ho.2.2.2 hw⟩
theorem Pl.at.off {W W' : Nat → Prop} {w : World} {x : Pl} (h : x.at w) (ho : x.off W) (hW : ∀ g, W' g → W g ∨ w.heap.size ≤ g) : x.off W' :=
  ⟨h.1.off ho.1 hW, h.2.1.off ho.2.1 hW, h.2.2.1.off ho.2.2.1 hW, h.2.2.2.off ho.2.2.2 hW⟩
theorem Pl.at.off_new {W : Nat → Prop} {w : World} {x : Pl} {base : Nat} (h : x.at w) (hn : x.new base) (hW : ∀ g, W g → g < base ∨ w.heap.size ≤ g) : x.off W :=
  ⟨h.1.off_new hn.1 hW, h.2.1.off_new hn.2.1 hW, h.2.2.1.off_new hn.2.2.1 hW, h.2.2.2.off_new hn.2.2.2 hW⟩
theorem Pl.off.mono {x : Pl} {W W' : Nat → Prop} (h : x.off W) (hW : ∀ g, W' g → W g) : x.off W' :=
  ⟨fun a n c e hn k => h.1 a n c e hn (hW _ k), fun a n c e hn k => h.2.1 a n c e hn (hW _ k), fun a n c e hn k => h.2.2.1 a n c e hn (hW _ k), fun a n c e hn k => h.2.2.2 a n c e hn (hW _ k)⟩
theorem ownsRow_only {Tm : Nat → Prop} {w w' : World} {base e size n : Nat} {v : Value} {xs : List Value} (h : w.ownsRow base e size v n xs) (hw : Only Tm w w') (ho : ∀ g, v.ownBlock = some g → ¬ Tm g) : w'.ownsRow base e size v n xs := by
  obtain ⟨hl, h⟩ := h
  refine ⟨hl, h.imp id ?_⟩
  rintro ⟨g, cap, cur, rfl, hb, hg, h1, h2, h3, h4⟩
  exact ⟨g, cap, cur, rfl, hb, (hw.block g (heap_lt hg) (ho g rfl)).trans hg, h1, h2, h3, h4⟩

theorem range_only {Tm : Nat → Prop} {w w' : World} {b o : Nat} {cs : List Value} (h : w.rangeAt b o cs) (hw : Only Tm w w') (hb : b < w.heap.size) (ht : ¬ Tm b) : w'.rangeAt b o cs :=
  fun j v hv => (World.cell?_of_block (hw.block b hb ht)).trans (h j v hv)
theorem there_only {Tm : Nat → Prop} {w w' : World} {b o n : Nat} (h : w.there b o n) (hw : Only Tm w w') (hb : b < w.heap.size) (ht : ¬ Tm b) : w'.there b o n := fun j hj => by
  rw [World.cell?_of_block (a := ⟨b, o + j, none⟩) (hw.block b hb ht), World.frozen?_of_block (a := ⟨b, o + j, none⟩) (hw.block b hb ht)]
  exact h j hj
theorem append_only {w wa w5 : World} {V : Value} {bd o : Nat} {u : Value} (hwo : Only (fun _ => False) w wa) (hg : wa.grownBy w5 V.ownBlock) : Only (fun g => V.ownBlock = some g ∨ g = bd) w (w5.setCell ⟨bd, o, none⟩ u) :=
  Only.setCell (Tm := fun g => V.ownBlock = some g ∨ g = bd) ((hwo.mono (fun _ k => k.elim)).trans (Only.of_grown hg (fun j e => Or.inl e))) (b := bd) (o := o) (Or.inr rfl) _
/-- The blocks that New writes. -/
def Wr (bd : Nat) (v0 v1 : Value) (Tm : Nat → Prop) : Nat → Prop := fun g => g = bd ∨ v0.ownBlock = some g ∨ v1.ownBlock = some g ∨ Tm g
structure NewInv (w0 : World) (bd be bn : Nat) (nb : Nat) (vl : Value) (L : List ByteArray) (Tm : Nat → Prop) (v0 v1 : Value) (X Y : List Pl) (w : World) : Prop where
  below : Below w0.heap.size w0 w
  dcells : w.heap[bd]? = some (.cells #[v0, v1, .int .i64 nb, .map (some be), .slice none 0 0, .map (some bn)] 56 (0, 0))
  r0 : w.ownsRow w0.heap.size 43 11 v0 X.length (flat X)
  r1 : w.ownsRow w0.heap.size 43 11 v1 Y.length (flat Y)
  ne : ∀ g, v0.ownBlock = some g → v1.ownBlock = some g → False
  me : w.heap[be]? = some (.map #[] 0)
  mn : w.heap[bn]? = some (.map #[] 0)
  far : w0.heap.size ≤ bd ∧ w0.heap.size ≤ be ∧ w0.heap.size ≤ bn ∧ be ≠ bn
  all : ∀ x, x ∈ X ∨ x ∈ Y → x.at w ∧ x.new w0.heap.size ∧ x.off (Wr bd v0 v1 Tm)
  l : StrsAt w vl L ∧ offV (Wr bd v0 v1 Tm) vl
  tm : ∀ g, Tm g → g ≠ bd ∧ v0.ownBlock ≠ some g ∧ v1.ownBlock ≠ some g ∧ g ≠ be ∧ g ≠ bn ∧ w0.heap.size ≤ g
section
variable {w0 w w' : World} {bd be bn nb : Nat} {vl v0 v1 : Value} {L : List ByteArray} {Tm : Nat → Prop} {X Y : List Pl}
theorem NewInv.lts (h : NewInv w0 bd be bn nb vl L Tm v0 v1 X Y w) : bd < w.heap.size ∧ be < w.heap.size ∧ bn < w.heap.size ∧ w0.heap.size ≤ w.heap.size := ⟨heap_lt h.dcells, heap_lt h.me, heap_lt h.mn, h.below.size⟩
theorem NewInv.own_ne (h : NewInv w0 bd be bn nb vl L Tm v0 v1 X Y w) : (∀ g, v0.ownBlock = some g → g ≠ bd ∧ g ≠ be ∧ g ≠ bn ∧ g < w.heap.size) ∧ (∀ g, v1.ownBlock = some g → g ≠ bd ∧ g ≠ be ∧ g ≠ bn ∧ g < w.heap.size) := by
  have key : ∀ (v : Value) (n : Nat) (xs : List Value), w.ownsRow w0.heap.size 43 11 v n xs → ∀ g, v.ownBlock = some g → g ≠ bd ∧ g ≠ be ∧ g ≠ bn ∧ g < w.heap.size := by
    intro v n xs hr g hg
    rcases hr.2 with ⟨rfl, _⟩ | ⟨g', cap, cur, rfl, hb, hgh, _⟩
    · cases hg
    · obtain rfl : g' = g := by simpa [Value.ownBlock] using hg
      refine ⟨fun e => ?_, fun e => ?_, fun e => ?_, heap_lt hgh⟩
      · rw [e, h.dcells] at hgh; simp at hgh
      · rw [e, h.me] at hgh; simp at hgh
      · rw [e, h.mn] at hgh; simp at hgh
  exact ⟨key _ _ _ h.r0, key _ _ _ h.r1⟩
theorem NewInv.only (h : NewInv w0 bd be bn nb vl L Tm v0 v1 X Y w) (hw : Only Tm w w') : NewInv w0 bd be bn nb vl L Tm v0 v1 X Y w' := by
  obtain ⟨l1, l2, l3, l4⟩ := h.lts
  obtain ⟨o0, o1⟩ := h.own_ne
  have hbd : ¬ Tm bd := fun k => (h.tm bd k).1 rfl
  have hbe : ¬ Tm be := fun k => (h.tm be k).2.2.2.1 rfl
  have hbn : ¬ Tm bn := fun k => (h.tm bn k).2.2.2.2.1 rfl
  exact { below := hw.below h.below l4 (fun g k => (h.tm g k).2.2.2.2.2)
          dcells := (hw.block bd l1 hbd).trans h.dcells
          r0 := ownsRow_only h.r0 hw (fun g e k => (h.tm g k).2.1 e)
          r1 := ownsRow_only h.r1 hw (fun g e k => (h.tm g k).2.2.1 e)
          ne := h.ne
          me := (hw.block be l2 hbe).trans h.me
          mn := (hw.block bn l3 hbn).trans h.mn
          far := h.far
          all := fun x hx => ⟨(h.all x hx).1.only ((h.all x hx).2.2.mono fun g k => Or.inr (Or.inr (Or.inr k))) hw, (h.all x hx).2.1, (h.all x hx).2.2⟩
          l := ⟨h.l.1.only (fun a n c e hn k => h.l.2 a n c e hn (Or.inr (Or.inr (Or.inr k)))) hw, h.l.2⟩
          tm := h.tm }
/-- Other temporaries: old ones, or blocks to come. -/
theorem NewInv.temps (h : NewInv w0 bd be bn nb vl L Tm v0 v1 X Y w) (Tm' : Nat → Prop) (ht : ∀ g, Tm' g → Tm g ∨ w.heap.size ≤ g) : NewInv w0 bd be bn nb vl L Tm' v0 v1 X Y w := by
  obtain ⟨l1, l2, l3, l4⟩ := h.lts
  obtain ⟨o0, o1⟩ := h.own_ne
  have hW : ∀ g, Wr bd v0 v1 Tm' g → Wr bd v0 v1 Tm g ∨ w.heap.size ≤ g := by
    intro g k
    rcases k with k | k | k | k
    · exact Or.inl (Or.inl k)
    · exact Or.inl (Or.inr (Or.inl k))
    · exact Or.inl (Or.inr (Or.inr (Or.inl k)))
    · exact (ht g k).imp (fun k => Or.inr (Or.inr (Or.inr k))) id
  refine { h with all := fun x hx => ⟨(h.all x hx).1, (h.all x hx).2.1, (h.all x hx).1.off (h.all x hx).2.2 hW⟩, l := ⟨h.l.1, h.l.1.off h.l.2 hW⟩, tm := fun g k => ?_ }
  rcases ht g k with k | k
  · exact h.tm g k
  · exact ⟨by omega, fun e => by have := (o0 g e).2.2.2; omega, fun e => by have := (o1 g e).2.2.2; omega, by omega, by omega, by omega⟩
end
theorem heap_at3 (w : World) (a b c : Obj) (d : Obj) : ((((w.alloc a).alloc b).alloc c).alloc d).heap[w.heap.size + 3]? = some d := by
  have := heap_alloc_new (((w.alloc a).alloc b).alloc c) d
  simpa using this
theorem heap_at2 (w : World) (a b c : Obj) (d : Obj) : ((((w.alloc a).alloc b).alloc c).alloc d).heap[w.heap.size + 2]? = some c := by
  rw [heap_alloc_old _ _ (by simp)]
  have := heap_alloc_new ((w.alloc a).alloc b) c
  simpa using this
theorem heap_at1 (w : World) (a b c : Obj) (d : Obj) : ((((w.alloc a).alloc b).alloc c).alloc d).heap[w.heap.size + 1]? = some b := by
  rw [heap_alloc_old _ _ (by simp <;> omega), heap_alloc_old _ _ (by simp <;> omega)]
  have := heap_alloc_new (w.alloc a) b
  simpa using this
theorem heap_at0 (w : World) (a b c : Obj) (d : Obj) : ((((w.alloc a).alloc b).alloc c).alloc d).heap[w.heap.size]? = some a := by
  rw [heap_alloc_old _ _ (by simp <;> omega), heap_alloc_old _ _ (by simp <;> omega), heap_alloc_old _ _ (by simp)]
  exact heap_alloc_new w a
section
variable {w0 w w' : World} {bd be bn nb : Nat} {vl v0 v1 : Value} {L : List ByteArray} {Tm : Nat → Prop} {X Y : List Pl}
theorem NewInv.given {x : Pl} {gg cap : Nat} {w5 : World} (h : NewInv w0 bd be bn nb vl L Tm v0 v1 X Y w) (hx : x.at w ∧ x.new w0.heap.size ∧ x.off (Wr bd v0 v1 Tm)) {wa : World} (hTm : ∀ g, Tm g → g < w.heap.size) (hwa : wa.heap.size = w.heap.size + 1) (hwo : Only (fun _ => False) w wa)
    (hown5 : w5.ownsRow w0.heap.size 43 11 (.slice (some ⟨gg, 0, none⟩) (Y.length + 1) cap) (Y.length + 1) (flat Y ++ x.cells)) (hgrow5 : wa.grownBy w5 v1.ownBlock) (hat5 : v1.ownBlock = some gg ∨ gg = w.heap.size + 1) :
    NewInv w0 bd be bn nb vl L Tm v0 (.slice (some ⟨gg, 0, none⟩) (Y.length + 1) cap) X (Y ++ [x]) (w5.setCell ⟨bd, 1, none⟩ (.slice (some ⟨gg, 0, none⟩) (Y.length + 1) cap)) := by
  obtain ⟨l1, l2, l3, l4⟩ := h.lts
  obtain ⟨o0, o1⟩ := h.own_ne
  have ggn : gg ≠ bd ∧ gg ≠ be ∧ gg ≠ bn := by
    rcases hat5 with e | e
    · exact ⟨(o1 gg e).1, (o1 gg e).2.1, (o1 gg e).2.2.1⟩
    · exact ⟨by omega, by omega, by omega⟩
  have ggo : v0.ownBlock ≠ some gg := fun e => by
    rcases hat5 with e' | e'
    · exact h.ne gg e e'
    · have := (o0 gg e).2.2.2; omega
  have hO : Only (fun g => v1.ownBlock = some g ∨ g = bd) w (w5.setCell ⟨bd, 1, none⟩ (.slice (some ⟨gg, 0, none⟩) (Y.length + 1) cap)) :=
    Only.setCell (Tm := fun g => v1.ownBlock = some g ∨ g = bd) ((hwo.mono (fun _ k => k.elim)).trans (Only.of_grown hgrow5 (fun j e => Or.inl e))) (b := bd) (o := 1) (Or.inr rfl) _
  have hWW : ∀ g, (v1.ownBlock = some g ∨ g = bd) → Wr bd v0 v1 Tm g := fun g k => k.elim (fun e => Or.inr (Or.inr (Or.inl e))) (fun e => Or.inl e)
  have hW : ∀ g, Wr bd v0 (.slice (some ⟨gg, 0, none⟩) (Y.length + 1) cap) Tm g → Wr bd v0 v1 Tm g ∨ w.heap.size ≤ g := by
    intro g k
    rcases k with k | k | k | k
    · exact Or.inl (Or.inl k)
    · exact Or.inl (Or.inr (Or.inl k))
    · obtain rfl : gg = g := by simpa [Value.ownBlock] using k
      rcases hat5 with e | e
      · exact Or.inl (Or.inr (Or.inr (Or.inl e)))
      · exact Or.inr (by omega)
    · exact Or.inl (Or.inr (Or.inr (Or.inr k)))
  have hdc := h.dcells
  have hd5 : w5.heap[bd]? = some (.cells #[v0, v1, .int .i64 nb, .map (some be), .slice none 0 0, .map (some bn)] 56 (0, 0)) :=
    (hgrow5.block bd (by omega) (fun e => (o1 bd e.symm).1 rfl)).trans ((hwo.block bd l1 (fun k => k)).trans h.dcells)
  exact { below := hO.below h.below l4 (fun g k => k.elim (fun e => (h.r1.lt g e).1) (fun e => by have := h.far.1; omega))
          dcells := by rw [heap_setCell_same _ _ _ _ _ _ hd5]; rfl
          r0 := ownsRow_only h.r0 hO (fun g e k => k.elim (fun e' => h.ne g e e') (fun e' => (o0 g e).1 e'))
          r1 := by
            have := ownsRow_only (Tm := fun g => g = bd) hown5 (Only.setCell (Tm := fun g => g = bd) (Only.refl _ w5) (b := bd) (o := 1) rfl (.slice (some ⟨gg, 0, none⟩) (Y.length + 1) cap)) (fun g e k => ggn.1 (by rw [(by simpa [Value.ownBlock] using e : gg = g)]; exact k))
            rw [flat_append]
            simpa [flat] using this
          ne := fun g e e' => ggo (by rw [(by simpa [Value.ownBlock] using e' : gg = g)]; exact e)
          me := (hO.block be l2 (fun k => k.elim (fun e => (o1 be e).2.1 rfl) (fun e => by rw [← e, h.me] at hdc; simp at hdc))).trans h.me
          mn := (hO.block bn l3 (fun k => k.elim (fun e => (o1 bn e).2.2.1 rfl) (fun e => by rw [← e, h.mn] at hdc; simp at hdc))).trans h.mn
          far := h.far
          all := fun y hy => by
            have hy' : y ∈ X ∨ y ∈ Y ∨ y = x := by
              rcases hy with hy | hy
              · exact Or.inl hy
              · simp only [List.mem_append, List.mem_singleton] at hy; exact Or.inr hy
            have hy2 : y.at w ∧ y.new w0.heap.size ∧ y.off (Wr bd v0 v1 Tm) := by
              rcases hy' with hy | hy | rfl
              · exact h.all y (Or.inl hy)
              · exact h.all y (Or.inr hy)
              · exact hx
            exact ⟨hy2.1.only (hy2.2.2.mono hWW) hO, hy2.2.1, hy2.1.off hy2.2.2 hW⟩
          l := ⟨h.l.1.only (fun a n c e hn k => h.l.2 a n c e hn (hWW _ k)) hO, h.l.1.off h.l.2 hW⟩
          tm := fun g k => by
            obtain ⟨t1, t2, t3, t4, t5, t6⟩ := h.tm g k
            have hgg : gg ≠ g := fun e => by
              rcases hat5 with e' | e'
              · exact t3 (by rw [← e]; exact e')
              · have := hTm g k; omega
            refine ⟨t1, t2, fun e => hgg (by simpa [Value.ownBlock] using e), t4, t5, t6⟩ }
theorem NewInv.rules {x : Pl} {gg cap : Nat} {w5 : World} (h : NewInv w0 bd be bn nb vl L Tm v0 v1 X Y w) (hx : x.at w ∧ x.new w0.heap.size ∧ x.off (Wr bd v0 v1 Tm)) {wa : World} (hTm : ∀ g, Tm g → g < w.heap.size) (hwa : wa.heap.size = w.heap.size + 1) (hwo : Only (fun _ => False) w wa)
    (hown5 : w5.ownsRow w0.heap.size 43 11 (.slice (some ⟨gg, 0, none⟩) (X.length + 1) cap) (X.length + 1) (flat X ++ x.cells)) (hgrow5 : wa.grownBy w5 v0.ownBlock) (hat5 : v0.ownBlock = some gg ∨ gg = w.heap.size + 1) :
    NewInv w0 bd be bn nb vl L Tm (.slice (some ⟨gg, 0, none⟩) (X.length + 1) cap) v1 (X ++ [x]) Y (w5.setCell ⟨bd, 0, none⟩ (.slice (some ⟨gg, 0, none⟩) (X.length + 1) cap)) := by
  obtain ⟨l1, l2, l3, l4⟩ := h.lts
  obtain ⟨o0, o1⟩ := h.own_ne
  have ggn : gg ≠ bd ∧ gg ≠ be ∧ gg ≠ bn := by
    rcases hat5 with e | e
    · exact ⟨(o0 gg e).1, (o0 gg e).2.1, (o0 gg e).2.2.1⟩
    · exact ⟨by omega, by omega, by omega⟩
  have ggo : v1.ownBlock ≠ some gg := fun e => by
    rcases hat5 with e' | e'
    · exact h.ne gg e' e
    · have := (o1 gg e).2.2.2; omega
  have hO : Only (fun g => v0.ownBlock = some g ∨ g = bd) w (w5.setCell ⟨bd, 0, none⟩ (.slice (some ⟨gg, 0, none⟩) (X.length + 1) cap)) :=
    Only.setCell (Tm := fun g => v0.ownBlock = some g ∨ g = bd) ((hwo.mono (fun _ k => k.elim)).trans (Only.of_grown hgrow5 (fun j e => Or.inl e))) (b := bd) (o := 0) (Or.inr rfl) _
  have hWW : ∀ g, (v0.ownBlock = some g ∨ g = bd) → Wr bd v0 v1 Tm g := fun g k => k.elim (fun e => Or.inr (Or.inl e)) (fun e => Or.inl e)
  have hW : ∀ g, Wr bd (.slice (some ⟨gg, 0, none⟩) (X.length + 1) cap) v1 Tm g → Wr bd v0 v1 Tm g ∨ w.heap.size ≤ g := by
    intro g k
    rcases k with k | k | k | k
    · exact Or.inl (Or.inl k)
    · obtain rfl : gg = g := by simpa [Value.ownBlock] using k
      rcases hat5 with e | e
      · exact Or.inl (Or.inr (Or.inl e))
      · exact Or.inr (by omega)
    · exact Or.inl (Or.inr (Or.inr (Or.inl k)))
    · exact Or.inl (Or.inr (Or.inr (Or.inr k)))
  have hdc := h.dcells
  have hd5 : w5.heap[bd]? = some (.cells #[v0, v1, .int .i64 nb, .map (some be), .slice none 0 0, .map (some bn)] 56 (0, 0)) :=
    (hgrow5.block bd (by omega) (fun e => (o0 bd e.symm).1 rfl)).trans ((hwo.block bd l1 (fun k => k)).trans h.dcells)
  exact { below := hO.below h.below l4 (fun g k => k.elim (fun e => (h.r0.lt g e).1) (fun e => by have := h.far.1; omega))
          dcells := by rw [heap_setCell_same _ _ _ _ _ _ hd5]; rfl
          r1 := ownsRow_only h.r1 hO (fun g e k => k.elim (fun e' => h.ne g e' e) (fun e' => (o1 g e).1 e'))
          r0 := by
            have := ownsRow_only (Tm := fun g => g = bd) hown5 (Only.setCell (Tm := fun g => g = bd) (Only.refl _ w5) (b := bd) (o := 0) rfl (.slice (some ⟨gg, 0, none⟩) (X.length + 1) cap)) (fun g e k => ggn.1 (by rw [(by simpa [Value.ownBlock] using e : gg = g)]; exact k))
            rw [flat_append]
            simpa [flat] using this
          ne := fun g e e' => ggo (by rw [(by simpa [Value.ownBlock] using e : gg = g)]; exact e')
          me := (hO.block be l2 (fun k => k.elim (fun e => (o0 be e).2.1 rfl) (fun e => by rw [← e, h.me] at hdc; simp at hdc))).trans h.me
          mn := (hO.block bn l3 (fun k => k.elim (fun e => (o0 bn e).2.2.1 rfl) (fun e => by rw [← e, h.mn] at hdc; simp at hdc))).trans h.mn
          far := h.far
          all := fun y hy => by
            have hy' : y ∈ X ∨ y ∈ Y ∨ y = x := by
              rcases hy with hy | hy
              · simp only [List.mem_append, List.mem_singleton] at hy; exact hy.elim Or.inl (fun e => Or.inr (Or.inr e))
              · exact Or.inr (Or.inl hy)
            have hy2 : y.at w ∧ y.new w0.heap.size ∧ y.off (Wr bd v0 v1 Tm) := by
              rcases hy' with hy | hy | rfl
              · exact h.all y (Or.inl hy)
              · exact h.all y (Or.inr hy)
              · exact hx
            exact ⟨hy2.1.only (hy2.2.2.mono hWW) hO, hy2.2.1, hy2.1.off hy2.2.2 hW⟩
          l := ⟨h.l.1.only (fun a n c e hn k => h.l.2 a n c e hn (hWW _ k)) hO, h.l.1.off h.l.2 hW⟩
          tm := fun g k => by
            obtain ⟨t1, t2, t3, t4, t5, t6⟩ := h.tm g k
            have hgg : gg ≠ g := fun e => by
              rcases hat5 with e' | e'
              · exact t2 (by rw [← e]; exact e')
              · have := hTm g k; omega
            refine ⟨t1, fun e => hgg (by simpa [Value.ownBlock] using e), t3, t4, t5, t6⟩ }
theorem NewInv.rules_keep {x y : Pl} {gg cap : Nat} {w5 : World} (h : NewInv w0 bd be bn nb vl L Tm v0 v1 X Y w) (hy2 : y.at w ∧ y.new w0.heap.size ∧ y.off (Wr bd v0 v1 Tm)) (hx : x.at w ∧ x.new w0.heap.size ∧ x.off (Wr bd v0 v1 Tm)) {wa : World} (hTm : ∀ g, Tm g → g < w.heap.size) (hwa : wa.heap.size = w.heap.size + 1) (hwo : Only (fun _ => False) w wa)
    (hown5 : w5.ownsRow w0.heap.size 43 11 (.slice (some ⟨gg, 0, none⟩) (X.length + 1) cap) (X.length + 1) (flat X ++ x.cells)) (hgrow5 : wa.grownBy w5 v0.ownBlock) (hat5 : v0.ownBlock = some gg ∨ gg = w.heap.size + 1) :
    y.at (w5.setCell ⟨bd, 0, none⟩ (.slice (some ⟨gg, 0, none⟩) (X.length + 1) cap)) ∧ y.off (Wr bd (.slice (some ⟨gg, 0, none⟩) (X.length + 1) cap) v1 Tm) := by
  obtain ⟨l1, l2, l3, l4⟩ := h.lts
  obtain ⟨o0, o1⟩ := h.own_ne
  have ggn : gg ≠ bd ∧ gg ≠ be ∧ gg ≠ bn := by
    rcases hat5 with e | e
    · exact ⟨(o0 gg e).1, (o0 gg e).2.1, (o0 gg e).2.2.1⟩
    · exact ⟨by omega, by omega, by omega⟩
  have ggo : v1.ownBlock ≠ some gg := fun e => by
    rcases hat5 with e' | e'
    · exact h.ne gg e' e
    · have := (o1 gg e).2.2.2; omega
  have hO : Only (fun g => v0.ownBlock = some g ∨ g = bd) w (w5.setCell ⟨bd, 0, none⟩ (.slice (some ⟨gg, 0, none⟩) (X.length + 1) cap)) :=
    Only.setCell (Tm := fun g => v0.ownBlock = some g ∨ g = bd) ((hwo.mono (fun _ k => k.elim)).trans (Only.of_grown hgrow5 (fun j e => Or.inl e))) (b := bd) (o := 0) (Or.inr rfl) _
  have hWW : ∀ g, (v0.ownBlock = some g ∨ g = bd) → Wr bd v0 v1 Tm g := fun g k => k.elim (fun e => Or.inr (Or.inl e)) (fun e => Or.inl e)
  have hW : ∀ g, Wr bd (.slice (some ⟨gg, 0, none⟩) (X.length + 1) cap) v1 Tm g → Wr bd v0 v1 Tm g ∨ w.heap.size ≤ g := by
    intro g k
    rcases k with k | k | k | k
    · exact Or.inl (Or.inl k)
    · obtain rfl : gg = g := by simpa [Value.ownBlock] using k
      rcases hat5 with e | e
      · exact Or.inl (Or.inr (Or.inl e))
      · exact Or.inr (by omega)
    · exact Or.inl (Or.inr (Or.inr (Or.inl k)))
    · exact Or.inl (Or.inr (Or.inr (Or.inr k)))
  exact ⟨hy2.1.only (hy2.2.2.mono hWW) hO, hy2.1.off hy2.2.2 hW⟩
end
theorem sufStep_sizes {l : List ByteArray} {r : Ru} {B : Nat} (h : ∀ s ∈ l, s.size ≤ B) (hr : ∀ s ∈ r.prereqs, s.size ≤ B) : ∀ s ∈ sufStep l r, s.size ≤ B := by
  intro s hs
  unfold sufStep at hs
  split at hs
  · exact h s hs
  · rcases List.mem_append.1 hs with hs | hs
    · split at hs
      · simp at hs
      · exact h s hs
    · exact hr s hs
theorem foldl_sizes {B : Nat} : ∀ (rs : List Ru) (l : List ByteArray), (∀ s ∈ l, s.size ≤ B) → (∀ r ∈ rs, ∀ s ∈ r.prereqs, s.size ≤ B) → ∀ s ∈ rs.foldl sufStep l, s.size ≤ B
  | [], l, h, _ => h
  | r :: rs, l, h, hr => foldl_sizes rs _ (sufStep_sizes h (hr r (List.mem_cons_self))) (fun q hq => hr q (List.mem_cons_of_mem _ hq))
theorem sufs_sizes (plain : Bool) (rs : List Ru) (h : ∀ r ∈ rs, ∀ s ∈ r.prereqs, s.size ≤ big) : ∀ s ∈ sufs plain rs, s.size ≤ big :=
  foldl_sizes rs _ (by cases plain <;> simp [sufInit, big] <;> decide) h
theorem Wr_lt {w0 w : World} {bd be bn nb : Nat} {vl v0 v1 : Value} {L : List ByteArray} {Tm : Nat → Prop} {X Y : List Pl} (h : NewInv w0 bd be bn nb vl L Tm v0 v1 X Y w) (hT : ∀ g, Tm g → g < w.heap.size) : ∀ g, Wr bd v0 v1 Tm g → g < w.heap.size := by
  intro g k
  rcases k with k | k | k | k
  · have := h.lts.1; omega
  · exact (h.own_ne.1 g k).2.2.2
  · exact (h.own_ne.2 g k).2.2.2
  · exact hT g k
end Go.Proofs.Ytfnmncghgmnaaab
