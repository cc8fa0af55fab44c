/-
  Remove of what is there. Conditions: texts of at most 2^31 bytes; a weight of at most 2^40; a clock of at most 2^62.
-/
import Derived.Test.YtejofgdglpmlkaaGreatDoorM10
import Derived.Sort.KeysCollected
namespace Go.Proofs.YtejofgdglpmlkaaGreatDoor
open Go.RowKit

theorem there_node {f mb : Nat} {N : Bs → Nat} {S : Nat → Prop} {st : St} {clock room : Int} {p : ByteArray} {q : Bs} {n : PN} (w : World) (h : FsIn w f mb N S st clock room) (hp : p.size ≤ 2147483647) (hq : clean p.data.toList = q) (hr : lookQ st q = .node n) :
    Calls Tryz.prog 39 #[.pointer (some ⟨f, 0, none⟩), .string p] w fun e w' => e = .returned (.tuple #[.string (mk q), .pointer (some ⟨N q, 0, none⟩), .nilIface]) ∧ Below w.heap.size w w' := by
  refine (there_calls p w h hp).mono ?_
  rintro e w' ⟨pv, ev, rfl, hv, hb⟩
  rw [hq, hr] at hv
  obtain ⟨rfl, rfl⟩ := hv
  exact ⟨by rw [hq], hb⟩
def mkP : Option Nat → Value
  | none => .pointer none
  | some b => .pointer (some ⟨b, 0, none⟩)
theorem inv_str : ∀ key kl, keyOf Tryz.prog 9 key = some kl → ∃ x, key = Go.Proofs.encStr x := fun key kl h => by
  obtain ⟨x, hx, _⟩ := Maps.keyOf_str Tryz.underlying9 h; exact ⟨x, hx⟩
theorem inv_ptr : ∀ v y, ptrElem v = some y → ∃ c, v = mkP c := fun v y h => by
  rcases ptrElem_inv h with ⟨rfl, _⟩ | ⟨b, rfl, _⟩
  · exact ⟨none, rfl⟩
  · exact ⟨some b, rfl⟩
section
variable {f mb : Nat} {N : Bs → Nat} {S : Nat → Prop} {st : St} {clock room : Int} {p : ByteArray} {q : Bs} {w : World} {n : PN}
/-- Has a path something below it? -/
def belowQ (st : St) (q : Bs) : Bool := st.any fun x => Lib.hasPrefix x.1 (q ++ [47])
def removeP (st : St) (clock : Int) (q : Bs) (n : PN) : Int × St × Int := if n.dir && belowQ st q then (14, st, clock) else (0, delSt st q, clock + 1)
/-- What Remove's loop keeps: none of the paths that have come is below. -/
def RemInv (w : World) (f mb r : Nat) (N : Bs → Nat) (S : Nat → Prop) (st : St) (clock room : Int) (Pn : Bs → Prop) (wr : World) : Prop :=
  ∃ (D : DataW Unit) (left : Lit → Bool) (cnt : Nat), wr.ranges Tryz.prog 9 ptrElem mb r (Maps.size D) D left cnt ∧ (∀ x : Bs, x.length ≤ maxLen → Maps.has D (.string x) = (find st x).isSome) ∧ (∀ x, (find st x).isSome = true → left (.string x) = false → Pn x) ∧ FsIn wr f mb N S st clock room ∧ Below w.heap.size w wr
theorem FsIn.del {w6 w7 : World} (h : FsIn w f mb N S st clock room) (hm : MapAt w6 mb N (delSt st q)) (hg6 : w.grownBy w6 (some mb)) (hg7 : w6.grownBy w7 (some f))
    (hc : w7.heap[f]? = some (.cells #[.map (some mb), .int .i64 clock, .int .i64 room, .int .i64 (wt (delSt st q))] 58 (0, 0))) : FsIn w7 f mb N S (delSt st q) clock room := by
  have hne := h.ne_map
  have far : ∀ k, k < w.heap.size → k ≠ f → k ≠ mb → w7.heap[k]? = w.heap[k]? := fun k hk h1 h2 =>
    (hg7.block k (Nat.lt_of_lt_of_le hk hg6.size) (fun e => h1 (by injection e))).trans (hg6.block k hk (fun e => h2 (by injection e)))
  have hsz : w.heap.size ≤ w7.heap.size := Nat.le_trans hg6.size hg7.size
  have some_of : ∀ x y, find (delSt st q) x = some y → find st x = some y := fun x y hx => by
    rw [find_del] at hx
    by_cases e : x = q
    · rw [if_pos e] at hx; cases hx
    · rwa [if_neg e] at hx
  refine ⟨hc, h.sf, h.sm, hm.of_heap (hg7.block mb (by have := hg6.size; have := h.lt mb h.sm; omega) (fun e => hne (by injection e with e; exact e.symm))), rising_del q h.rising, fun x y hx => ?_, fun x y hx hy => ?_, fun b hb => Nat.lt_of_lt_of_le (h.lt b hb) hsz⟩
  · have hf := some_of x y hx
    obtain ⟨h1, h2, v, h3, h4⟩ := h.node x y hf
    obtain ⟨n1, n2⟩ := h.node_ne hf
    exact ⟨h1, h2, v, (far _ (h.lt _ h2) n1 n2).trans h3, h.bytes_far h4 (fun k hk a b => far k (h.lt k hk) a b) (fun _ hk => hk) hsz⟩
  · obtain ⟨x', hx'⟩ := Option.isSome_iff_exists.1 hx
    obtain ⟨y', hy'⟩ := Option.isSome_iff_exists.1 hy
    exact h.inj x y (by rw [some_of _ _ hx']; rfl) (by rw [some_of _ _ hy']; rfl)
theorem del_cells {w6 : World} (h : FsIn w f mb N S st clock room) (hg : w.grownBy w6 (some mb)) : w6.heap[f]? = some (.cells #[.map (some mb), .int .i64 clock, .int .i64 room, .int .i64 (wt st)] 58 (0, 0)) := by
  rw [hg.block f (h.lt f h.sf) (fun e => h.ne_map (by injection e))]
  exact h.cells
theorem del_node {w6 : World} {o : Obj} (h : FsIn w f mb N S st clock room) (hg : w.grownBy w6 (some mb)) (hf : find st q = some n) (hn : w.heap[N q]? = some o) : w6.heap[N q]? = some o := by
  rw [hg.block _ (heap_lt hn) (fun e => (h.node_ne hf).2 (by injection e))]
  exact hn
theorem wpList_del {ops : Array Oper} {rest : List Oper} {o : Oper} {a : Act} {Q' : Exit → Act → World → Prop} (w : World) (hg : o.guard = none) (m x : Operand) (hop : o.op = Op.call { callee := Callee.builtin Builtin.delete, args := #[m, x], argTypes := #[56, 9] })
    (hm : a.eval m = .map (some mb)) (s : ByteArray) (hx : a.eval x = .string s) (hmap : MapAt w mb N st) (hr : Rising st) (hs : s.size ≤ maxLen)
    (hK : ∀ w', MapAt w' mb N (delSt st s.data.toList) → w.grownBy w' (some mb) → w'.heap.size = w.heap.size → wpList Tryz.prog ops Q' rest (a.put o.dst (.tuple #[])) w') : wpList Tryz.prog ops Q' (o :: rest) a w := by
  refine wpList_plain hg fun K hK' => ?_
  obtain ⟨w', hrun, h1, h2, h3⟩ := hmap.del hr s hs o.type
  unfold Oper.wp
  simp [execOp, hop, resolve, invoke, builtin, hm, hx, hrun, Result.andThen]
  exact hK' _ _ (hK w' h1 h2 h3)
theorem RemInv.start {r : Nat} {Pn : Bs → Prop} {D : DataW Unit} {w1 w0 : World} (h : FsIn w1 f mb N S st clock room) (hb : Below w.heap.size w w1) (hrg : w0.ranges Tryz.prog 9 ptrElem mb r (Maps.size D) D (Maps.has D) (Maps.size D)) (hg : w1.grownBy w0 none) (hD : ∀ x : Bs, x.length ≤ maxLen → Maps.has D (.string x) = (find st x).isSome) : RemInv w f mb r N S st clock room Pn w0 := by
  refine ⟨D, _, _, hrg, hD, fun x hx hl => ?_, h.of_heap fun k hk => hg.block k (h.lt k hk) (by simp), hb.trans ⟨hg.os, hg.tape, hg.output, Nat.le_trans hb.size hg.size |> fun _ => ?_, fun k hk => hg.block k (Nat.lt_of_lt_of_le hk hb.size) (by simp)⟩⟩
  · obtain ⟨y, hy⟩ := Option.isSome_iff_exists.1 hx
    have := (h.node x y hy).1
    rw [hD x (by unfold maxLen; omega), hx] at hl; cases hl
  · exact hg.size
theorem belowQ_of {x : Bs} (hf : (find st x).isSome = true) (hp : Lib.hasPrefix x (q ++ [47]) = true) : belowQ st q = true := by
  obtain ⟨y, hy⟩ := Option.isSome_iff_exists.1 hf
  exact List.any_eq_true.2 ⟨_, find_mem hy, hp⟩
theorem belowQ_none (h : ∀ x, (find st x).isSome = true → Lib.hasPrefix x (q ++ [47]) = false) (hr : Rising st) : belowQ st q = false := by
  rw [← Bool.not_eq_true]
  intro hb
  obtain ⟨⟨x, y⟩, hm, hp⟩ := List.any_eq_true.1 hb
  have := h x (by rw [find_of_mem hr hm]; rfl)
  dsimp only at hp
  rw [this] at hp; cases hp
theorem RemInv.step {r : Nat} {Pn : Bs → Prop} {x : Bs} {D : DataW Unit} {left : Lit → Bool} {cnt2 : Nat} {wr w2 : World} (hD : ∀ x : Bs, x.length ≤ maxLen → Maps.has D (.string x) = (find st x).isSome) (hno : ∀ x, (find st x).isSome = true → left (.string x) = false → Pn x) (hF : FsIn wr f mb N S st clock room) (hB : Below w.heap.size w wr) (hr : w.heap.size ≤ r) (hS : ∀ k, S k → k < w.heap.size)
    (hrg2 : w2.ranges Tryz.prog 9 ptrElem mb r (Maps.size D) D (fun z => left z && !z.sameKey (.string x)) cnt2) (hg2 : wr.grownBy w2 (some r)) (hx : Pn x) : RemInv w f mb r N S st clock room Pn w2 := by
  refine ⟨D, _, cnt2, hrg2, hD, fun y hy hl => ?_, hF.of_heap fun k hk => hg2.block k (hF.lt k hk) (fun e => by injection e with e; have := hS k hk; omega), hB.trans ⟨hg2.os, hg2.tape, hg2.output, hg2.size, fun k hk => hg2.block k (Nat.lt_of_lt_of_le hk hB.size) (fun e => by injection e with e; omega)⟩⟩
  by_cases e : y = x
  · rw [e]; exact hx
  · refine hno y hy ?_
    have hne : (Lit.string y).sameKey (.string x) = false := Maps.sameKey_ne (fun e' => e (by injection e'))
    rw [hne] at hl; simpa using hl
set_option maxRecDepth 100000 in
set_option maxHeartbeats 8000000 in
theorem remove_dir (h : FsIn w f mb N S st clock room) (hp : p.size ≤ 2147483647) (hq : clean p.data.toList = q) (hr : lookQ st q = .node n) (hnd : n.dir = true) (hl : wt st ≤ 1099511627776) (h0 : 0 ≤ clock) (h1 : clock ≤ 4611686018427387904) :
    Calls Tryz.prog 19 #[.pointer (some ⟨f, 0, none⟩), .string p] w fun e w' => OpPost w f S room (removeP st clock q n) e w' := by
  have hL := Lib.hid (there_node w h hp hq hr)
  have kh := Lib.hid h
  have hQe := mk_isEmpty (lookQ_valid (Or.inr ⟨n, hr⟩)).2.1
  have kfind := Lib.hid (lookQ_find.2 n hr)
  have hql := valid_len (lookQ_valid (Or.inr ⟨n, hr⟩)).1
  obtain ⟨nv, hnb, hnv⟩ := (h.node q n (lookQ_find.2 n hr)).2.2
  have hNl := h.lt _ (h.node q n (lookQ_find.2 n hr)).2.1
  rw [hnd] at hnb
  have knb := Lib.hid hnb
  obtain ⟨na, nc, hnvf⟩ := hnv.form
  subst hnvf
  have hdl : n.data.length ≤ 1099511627776 := by have := find_len h.rising (lookQ_find.2 n hr); omega
  have hQs : (mk q).size ≤ 1000 := by rw [mk_size]; exact hql
  generalize hQ : mk q = Q at *
  have kQ := Lib.hid hQ
  clear hQ h hnb hnv
  have hP := Lib.hid (show ∀ (w : World) (x : Bs) (b : Bool), Lib.hasPrefix x (q ++ [47]) = b → Calls Tryz.prog 40 #[Go.Proofs.encStr x, .string (Q ++ ⟨#[47]⟩)] w fun e w' => e = .returned (.bool b) ∧ w = w' from fun w x b hx => by
    have := Tryz.strings_HasPrefix (mk x) (Q ++ ⟨#[47]⟩) w
    have e : (Q ++ ⟨#[47]⟩ : ByteArray).data.toList = q ++ [47] := by rw [ba_append, ← kQ.out, mk_list]
    rw [mk_list, e] at this
    refine this.mono ?_
    rintro e w' ⟨rfl, rfl⟩
    exact ⟨by rw [← hx], rfl⟩)
  have kmax := Lib.hid (show Q.size ≤ maxLen by unfold maxLen; omega)
  go_enter Tryz.func19, Tryz.ntmps19
  go_wp2_with (first | (go_at_call 39; refine hL.out.mono ?_; rintro e w1 ⟨rfl, hb⟩; have kb := Lib.hid hb; clear hb; have kh1 := Lib.hid (kh.out.below kb.out); have hc0 := (cells4 kh1.out.cells).1; obtain ⟨D, hown, hsz, hD⟩ := kh1.out.map; have kD := Lib.hid (fun x hx => (hD x hx).2); have kown := Lib.hid hown; clear hD hsz hown) | (at_range; refine wpList_range_own _ rfl _ 56 rfl 9 59 lawS Tryz.underlying56 ptrElem mb (Maps.size D) D rfl kown.out ?_; intro w0 hrg0 hg0 hs0; have kI0 := Lib.hid (RemInv.start (Pn := fun x => Lib.hasPrefix x (q ++ [47]) = false) kh1.out kb.out hrg0 hg0 kD.out); clear hrg0 hg0 hs0))
  go_frame
  go_loopw [7] (fun _ wr => RemInv w f mb w1.heap.size N S st clock room (fun x => Lib.hasPrefix x (q ++ [47]) = false) wr) (fun _ wr => wr.rangeLeft mb w1.heap.size)
  case atStart => exact kI0.out
  case round =>
    have kI := Lib.hid hrel
    clear hrel
    obtain ⟨D2, left, cnt, hrg, hD2, hno, hF, hB⟩ := kI.out
    have krg := Lib.hid hrg
    have kD2 := Lib.hid hD2
    have kno := Lib.hid hno
    have kF := Lib.hid hF
    have kB := Lib.hid hB
    have hd0 : wr.cell? ⟨N q, 0, none⟩ = some (.bool true) := (cells3 ((hB.block _ (heap_lt knb.out)).trans knb.out)).1
    have kvr := Lib.hid ((hB.block _ (heap_lt knb.out)).trans knb.out)
    have hNr : N q < wr.heap.size := Nat.lt_of_lt_of_le hNl hB.size
    have hc0r := (cells4 hF.cells).1
    have hfr := hF.lt f hF.sf
    clear hrg hD2 hno hF hB
    go_wp2_with (at_next; refine wpList_next_ranges _ rfl _ rfl 9 lawS ptrElem Go.Proofs.encStr mkP inv_str inv_ptr mb w1.heap.size (Maps.size D2) D2 left cnt rfl krg.out ?_ ?_)
    · intro _ hl0
      have kl0 := Lib.hid hl0
      clear hl0
      go_wp2_with (at_delete; refine wpList_del _ rfl _ _ rfl rfl Q rfl kF.out.map kF.out.rising kmax.out ?_; intro w6 hm6 hg6 hs6; have km6 := Lib.hid hm6; have kg6 := Lib.hid hg6; clear hm6 hg6 hs6; obtain ⟨e60, e61, e62, e63, e6f⟩ := cells4 (del_cells kF.out kg6.out); have e6f3 := e6f 3; have en0 := del_node kF.out kg6.out kfind.out kvr.out; have hN6 := heap_lt en0; obtain ⟨en1, en2, en3, enf⟩ := cells3 en0; clear e60 e61 e62 e6f en0 en1 en2 enf)
      go_frame
      have hs1 : IntKind.i64.wrap (1 + (n.data.length : Int)) = 1 + (n.data.length : Int) := IntWalk.i64_in _ (by omega)
      have hs2 : IntKind.i64.wrap ((wt st : Int) - (1 + (n.data.length : Int))) = (wt st : Int) - (1 + (n.data.length : Int)) := IntWalk.i64_in _ (by omega)
      go_region
      have hbel : belowQ st q = false := belowQ_none (fun x hx => kno.out x hx (kl0.out _)) kF.out.rising
      have hr0 : removeP st clock q n = (0, delSt st q, clock + 1) := by unfold removeP; rw [hbel]; simp
      have hwt : ((wt st : Int) - (1 + (n.data.length : Int))) = wt (delSt st q) := by
        have := wt_del q kF.out.rising
        rw [kfind.out] at this; simp only [own1] at this; omega
      have hQq : Q.data.toList = q := by rw [← kQ.out, mk_list]
      have hF7 := kF.out.del (q := q) (w6 := w6) (w7 := (w6.setCell ⟨f, 3, none⟩ (.int .i64 ((wt st : Int) - (1 + (n.data.length : Int))))).drew) (by have := km6.out; rwa [hQq] at this) kg6.out ⟨rfl, rfl, rfl, by simp, (set_grown w6 f 3 _).block⟩ (by rw [← hwt]; exact set_heap (del_cells kF.out kg6.out) 3 _)
      have kF7 := Lib.hid hF7
      have kr0 := Lib.hid hr0
      have kK7 := Lib.hid (show Kept S wr ((w6.setCell ⟨f, 3, none⟩ (.int .i64 ((wt st : Int) - (1 + (n.data.length : Int))))).drew) from (Kept.grown kg6.out (fun k e => by injection e with e; exact e ▸ kF.out.sm)).trans (S' := S) ((Kept.grown (set_grown w6 f 3 _) (fun k e => by injection e with e; exact e ▸ kF.out.sf)).drewN 1) (fun k h => Or.inl h))
      clear hF7 hr0 hwt hbel hQq
      go_wp2_with (go_at_call 38; refine (change_calls _ kF7.out h0 h1).mono ?_; rintro e w8 ⟨rfl, hg8, hs8, hI8⟩; have kg8 := Lib.hid hg8; have kI8 := Lib.hid hI8; clear hg8 hs8 hI8)
      go_ret
      exact OpPost.done kr0.out kB.out kI8.out (fun k hk => Or.inl hk) (kK7.out.trans (Kept.grown kg8.out (fun k e => by injection e with e; exact e ▸ kF.out.sf)) (fun k h => Or.inl h))
    · intro x c kl yd yp w2 cnt2 hkey hlk hv hat hrg2 hlt hg2 hs2 hen
      clear hs2
      obtain ⟨x', ex, rfl, hxl⟩ := Maps.keyOf_str Tryz.underlying9 hkey
      obtain rfl : x = x' := encStr_inj ex
      clear ex hkey hv
      have hfx : (find st x).isSome = true := by rw [← kD2.out x hxl]; exact Maps.has_true_of_atKey hat
      have hd2 : w2.cell? ⟨N q, 0, none⟩ = some (.bool true) := (World.cell?_of_block (a := ⟨N q, 0, none⟩) (hg2.block (N q) hNr (fun e => by injection e with e; have := kb.out.size; omega))).trans hd0
      have kfx := Lib.hid hfx
      have krg2 := Lib.hid hrg2
      have kg2 := Lib.hid hg2
      clear hfx hlk hat hrg2 hg2
      cases hpx : Lib.hasPrefix x (q ++ [47]) with
      | true =>
        have hPx := Lib.hid (show ∀ w, Calls Tryz.prog 40 #[Go.Proofs.encStr x, .string (Q ++ ⟨#[47]⟩)] w fun e w' => e = .returned (.bool true) ∧ w = w' from fun w => hP.out w x true hpx)
        have kpx := Lib.hid hpx
        clear hpx
        go_wp2_with (go_at_call 40; refine (hPx.out _).mono ?_; rintro e w3 ⟨rfl, rfl⟩)
        go_ret
        have hr14 : removeP st clock q n = (14, st, clock) := by unfold removeP; rw [hnd, belowQ_of kfx.out kpx.out]; rfl
        exact OpPost.same kh.out hr14 rfl (kB.out.trans ⟨kg2.out.os, kg2.out.tape, kg2.out.output, kg2.out.size, fun k hk => kg2.out.block k (Nat.lt_of_lt_of_le hk kB.out.size) (fun e => by injection e with e; have := kb.out.size; omega)⟩)
      | false =>
        have hPx := Lib.hid (show ∀ w, Calls Tryz.prog 40 #[Go.Proofs.encStr x, .string (Q ++ ⟨#[47]⟩)] w fun e w' => e = .returned (.bool false) ∧ w = w' from fun w => hP.out w x false hpx)
        have kpx := Lib.hid hpx
        clear hpx
        go_wp2_with (go_at_call 40; refine (hPx.out _).mono ?_; rintro e w3 ⟨rfl, rfl⟩)
        go_roundw
        case rel => exact RemInv.step kD2.out kno.out kF.out kB.out kb.out.size kh.out.lt krg2.out kg2.out kpx.out
        case measure => rw [krg2.out.left_eq, krg.out.left_eq]; omega
set_option maxRecDepth 100000 in
set_option maxHeartbeats 8000000 in
theorem remove_file (h : FsIn w f mb N S st clock room) (hp : p.size ≤ 2147483647) (hq : clean p.data.toList = q) (hr : lookQ st q = .node n) (hnd : n.dir = false) (hl : wt st ≤ 1099511627776) (h0 : 0 ≤ clock) (h1 : clock ≤ 4611686018427387904) :
    Calls Tryz.prog 19 #[.pointer (some ⟨f, 0, none⟩), .string p] w fun e w' => OpPost w f S room (removeP st clock q n) e w' := by
  have hL := Lib.hid (there_node w h hp hq hr)
  have kh := Lib.hid h
  have hQe := mk_isEmpty (lookQ_valid (Or.inr ⟨n, hr⟩)).2.1
  have kfind := Lib.hid (lookQ_find.2 n hr)
  have hql := valid_len (lookQ_valid (Or.inr ⟨n, hr⟩)).1
  obtain ⟨nv, hnb, hnv⟩ := (h.node q n (lookQ_find.2 n hr)).2.2
  have hNl := h.lt _ (h.node q n (lookQ_find.2 n hr)).2.1
  rw [hnd] at hnb
  have knb := Lib.hid hnb
  obtain ⟨na, nc, hnvf⟩ := hnv.form
  subst hnvf
  have hdl : n.data.length ≤ 1099511627776 := by have := find_len h.rising (lookQ_find.2 n hr); omega
  have hQs : (mk q).size ≤ 1000 := by rw [mk_size]; exact hql
  generalize hQ : mk q = Q at *
  have kQ := Lib.hid hQ
  clear hQ h hnb hnv
  have kmax := Lib.hid (show Q.size ≤ maxLen by unfold maxLen; omega)
  go_enter Tryz.func19, Tryz.ntmps19
  go_wp2_with (first | (go_at_call 39; refine hL.out.mono ?_; rintro e w1 ⟨rfl, hb⟩; have kb := Lib.hid hb; clear hb; have kh1 := Lib.hid (kh.out.below kb.out); have hc0 := (cells4 kh1.out.cells).1; obtain ⟨D, hown, hsz, hD⟩ := kh1.out.map; have kD := Lib.hid (fun x hx => (hD x hx).2); have kown := Lib.hid hown; clear hD hsz hown) | (at_range; refine wpList_range_own _ rfl _ 56 rfl 9 59 lawS Tryz.underlying56 ptrElem mb (Maps.size D) D rfl kown.out ?_; intro w0 hrg0 hg0 hs0; have kI0 := Lib.hid (RemInv.start (Pn := fun _ => True) kh1.out kb.out hrg0 hg0 kD.out); clear hrg0 hg0 hs0))
  go_frame
  go_loopw [7] (fun _ wr => RemInv w f mb w1.heap.size N S st clock room (fun _ => True) wr) (fun _ wr => wr.rangeLeft mb w1.heap.size)
  case atStart => exact kI0.out
  case round =>
    have kI := Lib.hid hrel
    clear hrel
    obtain ⟨D2, left, cnt, hrg, hD2, hno, hF, hB⟩ := kI.out
    have krg := Lib.hid hrg
    have kD2 := Lib.hid hD2
    have kno := Lib.hid hno
    have kF := Lib.hid hF
    have kB := Lib.hid hB
    have hd0 : wr.cell? ⟨N q, 0, none⟩ = some (.bool false) := (cells3 ((hB.block _ (heap_lt knb.out)).trans knb.out)).1
    have kvr := Lib.hid ((hB.block _ (heap_lt knb.out)).trans knb.out)
    have hNr : N q < wr.heap.size := Nat.lt_of_lt_of_le hNl hB.size
    have hc0r := (cells4 hF.cells).1
    have hfr := hF.lt f hF.sf
    clear hrg hD2 hno hF hB
    go_wp2_with (at_next; refine wpList_next_ranges _ rfl _ rfl 9 lawS ptrElem Go.Proofs.encStr mkP inv_str inv_ptr mb w1.heap.size (Maps.size D2) D2 left cnt rfl krg.out ?_ ?_)
    · intro _ hl0
      have kl0 := Lib.hid hl0
      clear hl0
      go_wp2_with (at_delete; refine wpList_del _ rfl _ _ rfl rfl Q rfl kF.out.map kF.out.rising kmax.out ?_; intro w6 hm6 hg6 hs6; have km6 := Lib.hid hm6; have kg6 := Lib.hid hg6; clear hm6 hg6 hs6; obtain ⟨e60, e61, e62, e63, e6f⟩ := cells4 (del_cells kF.out kg6.out); have e6f3 := e6f 3; have en0 := del_node kF.out kg6.out kfind.out kvr.out; have hN6 := heap_lt en0; obtain ⟨en1, en2, en3, enf⟩ := cells3 en0; clear e60 e61 e62 e6f en0 en1 en2 enf)
      go_frame
      have hs1 : IntKind.i64.wrap (1 + (n.data.length : Int)) = 1 + (n.data.length : Int) := IntWalk.i64_in _ (by omega)
      have hs2 : IntKind.i64.wrap ((wt st : Int) - (1 + (n.data.length : Int))) = (wt st : Int) - (1 + (n.data.length : Int)) := IntWalk.i64_in _ (by omega)
      go_region
      have hr0 : removeP st clock q n = (0, delSt st q, clock + 1) := by unfold removeP; rw [hnd]; simp
      have hwt : ((wt st : Int) - (1 + (n.data.length : Int))) = wt (delSt st q) := by
        have := wt_del q kF.out.rising
        rw [kfind.out] at this; simp only [own1] at this; omega
      have hQq : Q.data.toList = q := by rw [← kQ.out, mk_list]
      have hF7 := kF.out.del (q := q) (w6 := w6) (w7 := (w6.setCell ⟨f, 3, none⟩ (.int .i64 ((wt st : Int) - (1 + (n.data.length : Int))))).drew) (by have := km6.out; rwa [hQq] at this) kg6.out ⟨rfl, rfl, rfl, by simp, (set_grown w6 f 3 _).block⟩ (by rw [← hwt]; exact set_heap (del_cells kF.out kg6.out) 3 _)
      have kF7 := Lib.hid hF7
      have kr0 := Lib.hid hr0
      have kK7 := Lib.hid (show Kept S wr ((w6.setCell ⟨f, 3, none⟩ (.int .i64 ((wt st : Int) - (1 + (n.data.length : Int))))).drew) from (Kept.grown kg6.out (fun k e => by injection e with e; exact e ▸ kF.out.sm)).trans (S' := S) ((Kept.grown (set_grown w6 f 3 _) (fun k e => by injection e with e; exact e ▸ kF.out.sf)).drewN 1) (fun k h => Or.inl h))
      clear hF7 hr0 hwt hQq
      go_wp2_with (go_at_call 38; refine (change_calls _ kF7.out h0 h1).mono ?_; rintro e w8 ⟨rfl, hg8, hs8, hI8⟩; have kg8 := Lib.hid hg8; have kI8 := Lib.hid hI8; clear hg8 hs8 hI8)
      go_ret
      exact OpPost.done kr0.out kB.out kI8.out (fun k hk => Or.inl hk) (kK7.out.trans (Kept.grown kg8.out (fun k e => by injection e with e; exact e ▸ kF.out.sf)) (fun k h => Or.inl h))
    · intro x c kl yd yp w2 cnt2 hkey hlk hv hat hrg2 hlt hg2 hs2 hen
      clear hs2
      obtain ⟨x', ex, rfl, hxl⟩ := Maps.keyOf_str Tryz.underlying9 hkey
      obtain rfl : x = x' := encStr_inj ex
      clear ex hkey hv
      have hfx : (find st x).isSome = true := by rw [← kD2.out x hxl]; exact Maps.has_true_of_atKey hat
      have hd2 : w2.cell? ⟨N q, 0, none⟩ = some (.bool false) := (World.cell?_of_block (a := ⟨N q, 0, none⟩) (hg2.block (N q) hNr (fun e => by injection e with e; have := kb.out.size; omega))).trans hd0
      have kfx := Lib.hid hfx
      have krg2 := Lib.hid hrg2
      have kg2 := Lib.hid hg2
      clear hfx hlk hat hrg2 hg2
      go_wp2
      go_roundw
      case rel => exact RemInv.step kD2.out kno.out kF.out kB.out kb.out.size kh.out.lt krg2.out kg2.out trivial
      case measure => rw [krg2.out.left_eq, krg.out.left_eq]; omega
end
end Go.Proofs.YtejofgdglpmlkaaGreatDoor
