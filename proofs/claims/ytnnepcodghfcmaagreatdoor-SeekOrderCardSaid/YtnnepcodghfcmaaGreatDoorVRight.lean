/-
  What is wrong of a tree. Conditions: paths of at most 2^31 bytes, data of at most 2^40 bytes.
-/
import Derived.Sort.Walk0
import Derived.Test.YtnnepcodghfcmaaGreatDoorVTree
import Derived.Test.YtnnepcodghfcmaaGreatDoorVMkdir
namespace Go.Proofs.YtnnepcodghfcmaaGreatDoor
open Go.RowKit

theorem okFrom_drop {clock : Int} {l : St} {k : Nat} {x : Bs × PN} (h : l[k]? = some x) : okFrom clock (l.take k) (l.drop k) = (okNode clock (l.take k) x && okFrom clock (l.take (k + 1)) (l.drop (k + 1))) := by
  rw [getElem_split h, okFrom, take_more h]
theorem any_take {l : St} {k : Nat} {x : Bs × PN} (h : l[k]? = some x) : (l.take (k + 1)).any longN = ((l.take k).any longN || longN x) := by
  rw [take_more h, List.any_append]; simp
theorem bytes_take {l : St} {k : Nat} {x : Bs × PN} (h : l[k]? = some x) : bytesOf (l.take (k + 1)) = bytesOf (l.take k) + x.2.data.length := by
  rw [take_more h]; unfold bytesOf; simp
theorem bytes_le {l : St} (h : ∀ x ∈ l, x.2.data.length ≤ 1099511627776) : bytesOf l ≤ l.length * 1099511627776 := by
  induction l with
  | nil => simp [bytesOf]
  | cons x r ih =>
    have := ih fun y hy => h y (List.mem_cons_of_mem _ hy)
    have := h x (by simp)
    unfold bytesOf at *; simp only [List.map_cons, List.sum_cons, List.length_cons]; omega
theorem bytes_small {l : St} (h0 : l.length ≤ 1000) (h : ∀ x ∈ l, x.2.data.length ≤ 1099511627776) : bytesOf l ≤ 1099511627776000 := by have := bytes_le h; omega
theorem any_of {l : St} {x : Bs × PN} (hm : x ∈ l) (h : longN x = true) : l.any longN = true := List.any_eq_true.2 ⟨x, hm, h⟩
theorem okNode_parts {clock : Int} {pre : St} {x : Bs × PN} (h : okNode clock pre x = true) : validB x.1 = true ∧ x.1 ≠ [] ∧ (∀ y, pre.getLast? = some y → y.1 < x.1) ∧ isDirB pre (parentP x.1) = true ∧ (x.2.dir = true → x.2.data.length = 0) ∧ 0 ≤ x.2.time ∧ x.2.time ≤ clock := by
  unfold okNode at h
  simp only [Bool.and_eq_true, decide_eq_true_eq, Bool.not_eq_true', Bool.and_eq_false_iff, decide_eq_false_iff_not] at h
  obtain ⟨⟨⟨⟨⟨⟨h1, h2⟩, h3⟩, h4⟩, h5⟩, h6⟩, h7⟩ := h
  refine ⟨h1, h2, fun y hy => ?_, h4, fun hd => ?_, h6, h7⟩
  · rw [hy] at h3; simpa using h3
  · rcases h5 with h5 | h5
    · rw [hd] at h5; cases h5
    · omega
def BoxT (w wr : World) (nv : Value) (clock room : Int) : Prop := wr.heap[w.heap.size]? = some (.cells #[nv, .int .i64 clock, .int .i64 room] 29 (0, 0)) ∧ Below w.heap.size w wr
theorem BoxT.below {w w1 w2 : World} {nv : Value} {clock room : Int} (h : BoxT w w1 nv clock room) (hb : Below w1.heap.size w1 w2) : BoxT w w2 nv clock room :=
  ⟨(hb.block _ (heap_lt h.1)).trans h.1, h.2.trans (hb.mono h.2.size)⟩
theorem BoxT.cell {w w1 : World} {nv : Value} {clock room : Int} (h : BoxT w w1 nv clock room) : w1.cell? ⟨w.heap.size, 0, none⟩ = some nv ∧ w1.cell? ⟨w.heap.size, 1, none⟩ = some (.int .i64 clock) ∧ w1.cell? ⟨w.heap.size, 2, none⟩ = some (.int .i64 room) := by
  obtain ⟨h0, h1, h2, _⟩ := cells3 h.1
  exact ⟨h0, h1, h2⟩


section
variable {P : Program} {ops : Array Oper} {Q : Exit → Act → World → Prop} {md : Region.Mode} {S : World → Prop}
theorem rtake (i : Nat) (d : Option Tmp) (v : Value) {oi : Oper} {rest : List Oper} {fuel : Nat} {listed : Array Bool} {a : Act} {w : World} (hi : ops.toList.drop i = oi :: rest) (hd : oi.dst = d)
    (hs : Region.noSelect ops = true) (hf : Region.free md ops listed i = true) (hr : (Region.ready md ops listed).contains i = true)
    (hQ : ∀ c a w, Q (.panic c) (a.put d v) w → Q (.panic c) a w) (hw : Region.wanted oi (yielded ops a.tmps) = true) (hy : ∀ w, S w → (execOp a.eval oi).run P w = .ok (.value v) w) (hS : S w)
    (h : wpAnyH P md ops Q S fuel (listed.setIfInBounds i true) (a.put d v) w) : wpAnyH P md ops Q S (fuel + 1) listed a w := by
  have e : ops[i]? = some oi := by
    have := congrArg (fun l => l[0]?) hi
    simpa [List.getElem?_drop] using this
  subst hd
  exact wpAnyH_take e hs hf hr hQ (Or.inl ⟨hw, hy⟩) hS h
theorem rskip (i : Nat) (d : Option Tmp) {oi : Oper} {rest : List Oper} {fuel : Nat} {listed : Array Bool} {a : Act} {w : World} (hi : ops.toList.drop i = oi :: rest) (hd : oi.dst = d)
    (hs : Region.noSelect ops = true) (hf : Region.free md ops listed i = true) (hr : (Region.ready md ops listed).contains i = true)
    (hQ : ∀ c a w, Q (.panic c) (a.put d undef) w → Q (.panic c) a w) (hw : Region.wanted oi (yielded ops a.tmps) = false) (hS : S w)
    (h : wpAnyH P md ops Q S fuel (listed.setIfInBounds i true) (a.put d undef) w) : wpAnyH P md ops Q S (fuel + 1) listed a w := by
  have e : ops[i]? = some oi := by
    have := congrArg (fun l => l[0]?) hi
    simpa [List.getElem?_drop] using this
  subst hd
  exact wpAnyH_take e hs hf hr hQ (Or.inr ⟨hw, rfl⟩) hS h
end
/-- What holds while a node is looked at. -/
structure RHold (w : World) (nv : Value) (clock room : Int) (db : Nat) (pre : St) (xb : Nat) (xp : ByteArray) (xd : Bool) (xt : Int) (dv : Value) (pa : Addr) (pp : Option Bs) (w' : World) : Prop where make ::
  box : BoxT w w' nv clock room
  dirs : DirsAt w' db pre
  xc : w'.heap[xb]? = some (.cells #[.string xp, .bool xd, .int .i64 xt, dv] 54 (0, 0))
  pl : pa.block < w'.heap.size
  prev : ∀ y, pp = some y → w'.cell? pa = some (.string (mk y))
theorem RHold.below {w : World} {nv : Value} {clock room : Int} {db : Nat} {pre : St} {xb : Nat} {xp : ByteArray} {xd : Bool} {xt : Int} {dv : Value} {pa : Addr} {pp : Option Bs} {w1 w2 : World} (h : RHold w nv clock room db pre xb xp xd xt dv pa pp w1) (hb : Below w1.heap.size w1 w2) : RHold w nv clock room db pre xb xp xd xt dv pa pp w2 :=
  ⟨h.box.below hb, h.dirs.of_heap (hb.block _ h.dirs.lt), (hb.block _ (heap_lt h.xc)).trans h.xc, Nat.lt_of_lt_of_le h.pl hb.size, fun y hy => (hb.cell (p := pa) h.pl).trans (h.prev y hy)⟩
theorem RHold.cells {w : World} {nv : Value} {clock room : Int} {db : Nat} {pre : St} {xb : Nat} {xp : ByteArray} {xd : Bool} {xt : Int} {dv : Value} {pa : Addr} {y : Bs} {w' : World} (h : RHold w nv clock room db pre xb xp xd xt dv pa (some y) w') :
    w'.cell? ⟨w.heap.size, 0, none⟩ = some nv ∧ w'.cell? ⟨w.heap.size, 1, none⟩ = some (.int .i64 clock) ∧ w'.cell? ⟨w.heap.size, 2, none⟩ = some (.int .i64 room) ∧ w'.cell? ⟨xb, 0, none⟩ = some (.string xp) ∧ w'.cell? ⟨xb, 1, none⟩ = some (.bool xd) ∧ w'.cell? ⟨xb, 2, none⟩ = some (.int .i64 xt) ∧ w'.cell? ⟨xb, 3, none⟩ = some dv ∧ w'.cell? pa = some (.string (mk y)) := by
  obtain ⟨a0, a1, a2⟩ := h.box.cell
  obtain ⟨b0, b1, b2, b3, _⟩ := cells4 h.xc
  exact ⟨a0, a1, a2, b0, b1, b2, b3, h.prev y rfl⟩

theorem BoxT.dirs {w wr w3 : World} {nv : Value} {clock room : Int} {o : Obj} (h : BoxT w wr nv clock room) (hg : (wr.alloc o).grownBy w3 (some wr.heap.size)) : BoxT w w3 nv clock room := by
  have far : ∀ k, k < wr.heap.size → w3.heap[k]? = wr.heap[k]? := fun k hk => (hg.block k (by simp; omega) (fun e => by injection e with e; omega)).trans (heap_alloc_old _ _ hk)
  refine ⟨(far _ (heap_lt h.1)).trans h.1, h.2.trans ⟨hg.os, hg.tape, hg.output, ?_, fun k hk => far k (Nat.lt_of_lt_of_le hk h.2.size)⟩⟩
  have := hg.size; simp at this; have := h.2.size; omega
theorem BoxT.store {w wr w3 : World} {nv : Value} {clock room : Int} {db : Nat} (h : BoxT w wr nv clock room) (hg : wr.grownBy w3 (some db)) (hd : w.heap.size < db) : BoxT w w3 nv clock room :=
  ⟨(hg.block _ (heap_lt h.1) (fun e => by injection e with e; omega)).trans h.1, h.2.trans ⟨hg.os, hg.tape, hg.output, hg.size, fun k hk => hg.block k (Nat.lt_of_lt_of_le hk h.2.size) (fun e => by injection e with e; omega)⟩⟩
theorem RHold.first {w wr : World} {nv : Value} {clock room : Int} {db : Nat} {pre : St} {xp : ByteArray} {xd : Bool} {xt : Int} {dv : Value} {pa : Addr} {y : Bs} (hB : BoxT w wr nv clock room) (hD : DirsAt wr db pre) (hl : pa.block < wr.heap.size) (hp : wr.cell? pa = some (.string (mk y))) :
    RHold w nv clock room db pre wr.heap.size xp xd xt dv pa (some y) (wr.alloc (.cells #[.string xp, .bool xd, .int .i64 xt, dv] 54 (0, 0))).drew := by
  have hb : Below wr.heap.size wr (wr.alloc (.cells #[.string xp, .bool xd, .int .i64 xt, dv] 54 (0, 0))).drew := (below_al (Below.refl _ _)).trans ⟨rfl, rfl, rfl, Nat.le_refl _, fun _ _ => rfl⟩
  refine ⟨hB.below hb, hD.of_heap (hb.block _ hD.lt), heap_alloc_new _ _, Nat.lt_of_lt_of_le hl hb.size, fun z hz => ?_⟩
  injection hz with hz
  subst hz
  exact (hb.cell (p := pa) hl).trans hp
theorem tot_drop : ∀ l : List Bs, tot l.dropLast ≤ tot l
  | [] => Nat.le_refl _
  | [x] => by simp [tot]
  | x :: y :: r => by
    have := tot_drop (y :: r)
    simp only [tot, List.dropLast_cons_cons, List.map_cons, List.sum_cons] at *; omega
theorem parent_mk (q : Bs) (w : World) (h : q.length ≤ 1099511627775) : Calls Tryz.prog 22 #[.string (mk q)] w fun e w' => e = .returned (.string (mk (parentP q))) ∧ Below w.heap.size w w' := by
  have := parent_calls (mk q) w (by rw [mk_size]; exact h)
  rwa [mk_list] at this
theorem valid_yes (p : ByteArray) (w : World) (hp : p.size ≤ 2147483647) (h : validB p.data.toList = true) : Calls Tryz.prog 21 #[.string p] w fun e w' => e = .returned (.bool true) ∧ Below w.heap.size w w' := by
  have := valid_calls p w hp
  rwa [h] at this
theorem dirs_yes {w : World} {db : Nat} {pre : St} {q : Bs} (h : DirsAt w db pre) (hv : validB q = true) (hd : isDirB pre (parentP q) = true) : (Instr.lookup 71 (.map (some db)) (.string (mk (parentP q))) false).run Tryz.prog w = .ok (.int .i64 1) w := by
  have hl : (parentP q).length ≤ maxLen := by
    have h1 := joinS_len (cnames q).dropLast
    have h2 := tot_drop (cnames q)
    have h3 := cnames_tot q
    have h4 := (validB_iff.1 hv).1
    unfold parentP maxLen; omega
  have := h.look (mk (parentP q)) (by rw [mk_size]; exact hl)
  rw [mk_list, hd] at this
  exact this
theorem less_mk {p y : Bs} (h : y < p) : Op.bytesLess (mk y).toList (mk p).toList = true := by
  rw [Go.Lib.toList_data, Go.Lib.toList_data, mk_list, mk_list, bytesLess_eq]
  simpa using h
theorem last_take {l : St} {j : Nat} {y : Bs × PN} (h : l[j]? = some y) : (l.take (j + 1)).getLast? = some y := by
  rw [take_more h, List.getLast?_append]; simp
section
variable {l : St} {clock room : Int} {nv : Value} {T : Nat → Prop} {w : World}
set_option maxRecDepth 100000 in
set_option maxHeartbeats 8000000 in
theorem right_ok (hok : okFrom clock [] l = true) (ht : TreeAt w nv l T) (hT : ∀ k, T k → k < w.heap.size) (hp : ∀ x ∈ l, x.1.length ≤ 2147483647) (hd : ∀ x ∈ l, x.2.data.length ≤ 1099511627776) :
    Calls Tryz.prog 12 #[.agg #[nv, .int .i64 clock, .int .i64 room]] w fun e w' => e = .returned (.int .i64 (rightP l clock room)) ∧ Below w.heap.size w w' := by
  obtain ⟨ta, tc, hnv⟩ := ht.form
  subst hnv
  have kt := Lib.hid ht
  have kT := Lib.hid hT
  have kp := Lib.hid hp
  have kd := Lib.hid hd
  clear ht hT hp hd
  by_cases h1 : 1000 < l.length
  · have kf := Lib.hid (show rightP l clock room = 2 by unfold rightP; rw [if_pos h1])
    go_enter Tryz.func12, Tryz.ntmps12
    go_wp2
    go_ret
    exact ⟨by rw [kf.out]; rfl, by repeat first | exact Below.refl _ _ | apply below_al⟩
  have h1' : l.length ≤ 1000 := by omega
  clear h1
  go_enter Tryz.func12, Tryz.ntmps12
  go_wp2
  have kB1 := Lib.hid (show BoxT w (w.alloc (.cells #[.slice ta l.length tc, .int .i64 clock, .int .i64 room] 29 (0, 0))) (.slice ta l.length tc) clock room from ⟨heap_alloc_new _ _, below_al (Below.refl _ _)⟩)
  go_loopw [3, 19] (fun wv kv wr => ∃ k : Nat, k ≤ l.length ∧ kv = .int .i64 k ∧ wv = .int .i64 ((l.length + bytesOf (l.take k) : Nat) : Int) ∧ (l.take k).any longN = false ∧ BoxT w wr (.slice ta l.length tc) clock room) (fun _ kv _ => l.length - (intOf kv).toNat)
  case atStart => exact ⟨0, Nat.zero_le _, rfl, rfl, rfl, kB1.out⟩
  case round =>
    obtain ⟨k, hk, rfl, rfl, hall, hB⟩ := hrel
    have kall := Lib.hid hall
    have kB := Lib.hid hB
    clear hall hB
    by_cases hlt : k < l.length
    · obtain ⟨x, hx⟩ : ∃ x, l[k]? = some x := ⟨_, List.getElem?_eq_getElem hlt⟩
      have kx := Lib.hid hx
      obtain ⟨b, off, dv, hta, hTb, hbl, hc0, hc1, hc2, hc3, hdv⟩ := (kt.out.of_heap (w' := wr) (T' := T) (fun j hj => kB.out.2.block j (kT.out j hj)) (fun _ h => h)).at hx
      obtain ⟨da, dc, hdf⟩ := hdv.form
      subst hta hdf
      clear hTb hdv hx
      have hdl := kd.out x (List.mem_of_getElem? kx.out)
      have hsum := bytes_small (l := l.take k) (by simp; omega) (fun y hy => kd.out y (List.mem_of_mem_take hy))
      have htk := bytes_take kx.out
      have hat := any_take kx.out
      generalize hxd : x.2.dir = xd at *
      have kxd := Lib.hid hxd
      clear hxd
      cases xd with
      | true =>
        go_wp2
        exact ⟨⟨k + 1, by omega, by go_num, by rw [htk]; congr 1; omega, by rw [hat, kall.out]; unfold longN; rw [kxd.out]; rfl, kB.out.below (below_al (Below.refl _ _))⟩, by simp [intOf]; omega⟩
      | false =>
        by_cases hlong : (65536 : Int) < x.2.data.length
        · have kf := Lib.hid (show rightP l clock room = 2 by
            unfold rightP
            rw [if_neg (by omega), if_pos (any_of (List.mem_of_getElem? kx.out) (by unfold longN; rw [kxd.out]; simp; omega))])
          go_wp2
          go_ret
          exact ⟨by rw [kf.out]; rfl, kB.out.2.trans ((below_al (Below.refl _ _)).mono kB.out.2.size)⟩
        · go_wp2
          exact ⟨⟨k + 1, by omega, by go_num, by rw [htk]; congr 1; omega, by rw [hat, kall.out]; unfold longN; rw [kxd.out]; simp; omega, kB.out.below (below_al (Below.refl _ _))⟩, by simp [intOf]; omega⟩
    · have hkl : k = l.length := by omega
      subst hkl
      have kal := Lib.hid (show l.any longN = false by have := kall.out; rwa [List.take_length] at this)
      rw [List.take_length]
      clear kall hlt hk
      have hsum := bytes_small h1' kd.out
      obtain ⟨hb0, hb1, hb2⟩ := kB.out.cell
      have hbl := heap_lt kB.out.1
      have hbad : badArg clock room = true → rightP l clock room = 1 := fun h => by unfold rightP; rw [if_neg (by omega), if_neg (by rw [kal.out]; simp), if_pos h]
      have kbad := Lib.hid hbad
      clear hbad
      by_cases g1 : clock < 0
      · have kf := Lib.hid (kbad.out (by unfold badArg; simp [g1]))
        go_wp2
        go_ret
        exact ⟨by rw [kf.out]; rfl, kB.out.2⟩
      by_cases g2 : 1099511627776 < clock
      · have kf := Lib.hid (kbad.out (by unfold badArg; simp [g2]))
        go_wp2
        go_ret
        exact ⟨by rw [kf.out]; rfl, kB.out.2⟩
      by_cases g3 : room < 0
      · have kf := Lib.hid (kbad.out (by unfold badArg; simp [g3]))
        go_wp2
        go_ret
        exact ⟨by rw [kf.out]; rfl, kB.out.2⟩
      by_cases g4 : 1048576 < room
      · have kf := Lib.hid (kbad.out (by unfold badArg; simp [g4]))
        go_wp2
        go_ret
        exact ⟨by rw [kf.out]; rfl, kB.out.2⟩
      have hgood : ∀ n : Int, (if okFrom clock [] l = false then 1 else if room < wt l then 15 else 0) = n → rightP l clock room = n := fun n h => by
        unfold rightP; rw [if_neg (by omega), if_neg (by rw [kal.out]; simp), if_neg (by unfold badArg; simp; omega)]; exact h
      have kgood := Lib.hid hgood
      clear hgood kbad kal
      have hmm := @run_makeMap Tryz.prog
      go_wp2_with (refine wpList_dirs0 _ rfl _ _ _ rfl rfl rfl rfl (heap_alloc_new _ _) ?_; intro w3 hD3 hg3 hs3; have kD3 := Lib.hid hD3; have kB3 := Lib.hid (kB.out.dirs hg3); clear hD3 hg3 hs3; have hb3 := kB3.out.cell.1; have hl3 := heap_lt kB3.out.1)
      generalize wr.heap.size = db at *
      have kok := Lib.hid hok
      have kdb := Lib.hid hbl
      clear hok hbl
      go_loopw [61] (fun kv wr => ∃ k : Nat, k ≤ l.length ∧ kv = .int .i64 k ∧ okFrom clock (l.take k) (l.drop k) = true ∧ BoxT w wr (.slice ta l.length tc) clock room ∧ DirsAt wr db (l.take k)) (fun kv _ => l.length - (intOf kv).toNat)
      case atStart => exact ⟨0, Nat.zero_le _, rfl, kok.out, kB3.out, kD3.out⟩
      case round =>
        obtain ⟨k, hk, rfl, hokk, hB, hD⟩ := hrel
        have kBk := Lib.hid hB
        have kDk := Lib.hid hD
        clear hB hD hb3 hl3 kD3 kB3
        by_cases hlt : k < l.length
        · obtain ⟨x, hx⟩ : ∃ x, l[k]? = some x := ⟨_, List.getElem?_eq_getElem hlt⟩
          have kx := Lib.hid hx
          obtain ⟨b, off, dv, hta, hTb, hbl, hc0, hc1, hc2, hc3, hdv⟩ := (kt.out.of_heap (T' := T) (fun j hj => kBk.out.2.block j (kT.out j hj)) (fun _ h => h)).at hx
          obtain ⟨da, dc, hdf⟩ := hdv.form
          subst hta hdf
          clear hTb hdv hx
          rw [okFrom_drop kx.out, Bool.and_eq_true] at hokk
          obtain ⟨hon, hnext⟩ := hokk
          have knext := Lib.hid hnext
          obtain ⟨v1, v2, v3, v4, v5, v6, v7⟩ := okNode_parts hon
          have kv3 := Lib.hid v3
          have kv5 := Lib.hid v5
          clear hon hnext v3 v5
          have hps := kp.out x (List.mem_of_getElem? kx.out)
          have hV := Lib.hid (fun w => valid_yes (mk x.1) w (by rw [mk_size]; exact hps) (by rw [mk_list]; exact v1))
          have hP := Lib.hid (fun w => parent_mk x.1 w (by omega))
          have kD := Lib.hid (fun (w' : World) (h : DirsAt w' db (l.take k)) => dirs_yes h v1 v4)
          have hQe := mk_isEmpty v2
          have kmax := Lib.hid (show (mk x.1).size ≤ maxLen by rw [mk_size]; unfold maxLen; omega)
          have ktk := Lib.hid (show (l.take k).length + 1 < maxLen by simp only [List.length_take]; unfold maxLen; omega)
          generalize hxd : x.2.dir = xd at *
          have kxd := Lib.hid hxd
          clear hxd
          by_cases hk0 : 0 < k
          · obtain ⟨j, rfl⟩ : ∃ j, k = j + 1 := ⟨k - 1, by omega⟩
            obtain ⟨y, hy⟩ : ∃ y, l[j]? = some y := ⟨_, List.getElem?_eq_getElem (by omega)⟩
            have hlt3 : Op.bytesLess (mk y.1).toList (mk x.1).toList = true := less_mk (kv3.out y (by rw [last_take hy]))
            have hpc0 := (((kt.out.of_heap (T' := T) (fun j hj => kBk.out.2.block j (kT.out j hj)) (fun _ h => h)).at hy))
            have hpl : b < wr.heap.size := hbl
            have hpc : wr.cell? ⟨b, off + j * 4, none⟩ = some (.string (mk y.1)) := by
              obtain ⟨b', off', dv', e, _, _, h, _⟩ := hpc0
              injection e with e; injection e with e1 e2
              subst e1 e2
              exact h
            have hwj : IntKind.i64.wrap (j : Int) = j := IntWalk.i64_in _ (by omega)
            have hj0 : (0 : Int) ≤ j := by omega
            have hj1 : (j : Int) < l.length := by omega
            clear hpc0 hy
            cases xd with
            | true =>
              rw [kv5.out rfl] at hc3
              have kR := Lib.hid (show RHold w (.slice (some ⟨b, off, none⟩) l.length tc) clock room db (l.take (j + 1)) wr.heap.size (mk x.1) true x.2.time (.slice da 0 dc) ⟨b, off + j * 4, none⟩ (some y.1) (wr.alloc (.cells #[.string (mk x.1), .bool true, .int .i64 x.2.time, .slice da 0 dc] 54 (0, 0))).drew from RHold.first kBk.out kDk.out hpl hpc)
              have e2 : l.take ((j + 1) + 1) = l.take (j + 1) ++ [x] := take_more kx.out
              go_wp2
              refine wp_region_held_drew (by kernel_rfl) kR.out (fun hHeld => ?_)
              clear kR
              have d6 : decide (x.2.time < 0) = false := by simpa using v6
              have d7 : decide (clock < x.2.time) = false := by simpa using v7
              refine rtake 0 (some 66) ?_ rfl rfl (by kernel_rfl) (by kernel_rfl) (by kernel_rfl) (fun _ _ _ h => h) (by rfl) (fun w' hw => ?_) hHeld ?_
              rotate_left 1
              · obtain ⟨c0, c1, c2, x0, x1, x2, x3, p0⟩ := hw.cells; go_simp; first | done | with_reducible rfl
              simp only [Act.put, List.setIfInBounds_toArray, List.set_cons_zero, List.set_cons_succ]
              refine rtake 1 (some 67) ?_ rfl rfl (by kernel_rfl) (by kernel_rfl) (by kernel_rfl) (fun _ _ _ h => h) (by rfl) (fun w' hw => ?_) hHeld ?_
              rotate_left 1
              · obtain ⟨c0, c1, c2, x0, x1, x2, x3, p0⟩ := hw.cells; go_simp; first | done | with_reducible rfl
              simp only [Act.put, List.setIfInBounds_toArray, List.set_cons_zero, List.set_cons_succ]
              refine wpAnyH_all (rs := [2]) (by kernel_rfl) (by simp) (AllReadyH.cons rfl (fun K hK => ?_) AllReadyH.nil)
              rw [if_pos (by rfl)]
              go_simp
              refine (hV.out _).mono ?_
              rintro e w2 ⟨rfl, hb2⟩
              go_wp2_with fail
              refine hK.out _ _ (hHeld.below hb2) (fun hHeld2 => ?_)
              clear hK K hHeld hb2
              refine rtake 3 (some 69) ?_ rfl rfl (by kernel_rfl) (by kernel_rfl) (by kernel_rfl) (fun _ _ _ h => h) (by rfl) (fun w' hw => ?_) hHeld2 ?_
              rotate_left 1
              · obtain ⟨c0, c1, c2, x0, x1, x2, x3, p0⟩ := hw.cells; go_simp; first | done | with_reducible rfl
              simp only [Act.put, List.setIfInBounds_toArray, List.set_cons_zero, List.set_cons_succ]
              refine rtake 4 (some 70) ?_ rfl rfl (by kernel_rfl) (by kernel_rfl) (by kernel_rfl) (fun _ _ _ h => h) (by rfl) (fun w' hw => ?_) hHeld2 ?_
              rotate_left 1
              · obtain ⟨c0, c1, c2, x0, x1, x2, x3, p0⟩ := hw.cells; go_simp; first | done | with_reducible rfl
              simp only [Act.put, List.setIfInBounds_toArray, List.set_cons_zero, List.set_cons_succ]
              refine rtake 5 (some 71) ?_ rfl rfl (by kernel_rfl) (by kernel_rfl) (by kernel_rfl) (fun _ _ _ h => h) (by rfl) (fun w' hw => ?_) hHeld2 ?_
              rotate_left 1
              · obtain ⟨c0, c1, c2, x0, x1, x2, x3, p0⟩ := hw.cells; go_simp; first | done | with_reducible rfl
              simp only [Act.put, List.setIfInBounds_toArray, List.set_cons_zero, List.set_cons_succ]
              refine rtake 6 (some 72) ?_ rfl rfl (by kernel_rfl) (by kernel_rfl) (by kernel_rfl) (fun _ _ _ h => h) (by rfl) (fun w' hw => ?_) hHeld2 ?_
              rotate_left 1
              · obtain ⟨c0, c1, c2, x0, x1, x2, x3, p0⟩ := hw.cells; go_simp; first | done | with_reducible rfl
              simp only [Act.put, List.setIfInBounds_toArray, List.set_cons_zero, List.set_cons_succ]
              refine rtake 7 (some 73) ?_ rfl rfl (by kernel_rfl) (by kernel_rfl) (by kernel_rfl) (fun _ _ _ h => h) (by rfl) (fun w' hw => ?_) hHeld2 ?_
              rotate_left 1
              · obtain ⟨c0, c1, c2, x0, x1, x2, x3, p0⟩ := hw.cells; go_simp; first | done | with_reducible rfl
              simp only [Act.put, List.setIfInBounds_toArray, List.set_cons_zero, List.set_cons_succ]
              refine rtake 8 (some 74) ?_ rfl rfl (by kernel_rfl) (by kernel_rfl) (by kernel_rfl) (fun _ _ _ h => h) (by rfl) (fun w' hw => ?_) hHeld2 ?_
              rotate_left 1
              · obtain ⟨c0, c1, c2, x0, x1, x2, x3, p0⟩ := hw.cells; go_simp; first | done | with_reducible rfl
              simp only [Act.put, List.setIfInBounds_toArray, List.set_cons_zero, List.set_cons_succ]
              refine rtake 9 (some 75) ?_ rfl rfl (by kernel_rfl) (by kernel_rfl) (by kernel_rfl) (fun _ _ _ h => h) (by rfl) (fun w' hw => ?_) hHeld2 ?_
              rotate_left 1
              · obtain ⟨c0, c1, c2, x0, x1, x2, x3, p0⟩ := hw.cells; go_simp; first | done | with_reducible rfl
              simp only [Act.put, List.setIfInBounds_toArray, List.set_cons_zero, List.set_cons_succ]
              refine rtake 10 (some 76) ?_ rfl rfl (by kernel_rfl) (by kernel_rfl) (by kernel_rfl) (fun _ _ _ h => h) (by rfl) (fun w' hw => ?_) hHeld2 ?_
              rotate_left 1
              · obtain ⟨c0, c1, c2, x0, x1, x2, x3, p0⟩ := hw.cells; go_simp; first | done | with_reducible rfl
              simp only [Act.put, List.setIfInBounds_toArray, List.set_cons_zero, List.set_cons_succ]
              refine rtake 11 (some 77) ?_ rfl rfl (by kernel_rfl) (by kernel_rfl) (by kernel_rfl) (fun _ _ _ h => h) (by rfl) (fun w' hw => ?_) hHeld2 ?_
              rotate_left 1
              · obtain ⟨c0, c1, c2, x0, x1, x2, x3, p0⟩ := hw.cells; go_simp; first | done | with_reducible rfl
              simp only [Act.put, List.setIfInBounds_toArray, List.set_cons_zero, List.set_cons_succ]
              refine rtake 12 (some 78) ?_ rfl rfl (by kernel_rfl) (by kernel_rfl) (by kernel_rfl) (fun _ _ _ h => h) (by rfl) (fun w' hw => ?_) hHeld2 ?_
              rotate_left 1
              · obtain ⟨c0, c1, c2, x0, x1, x2, x3, p0⟩ := hw.cells; go_simp; first | done | with_reducible rfl
              simp only [Act.put, List.setIfInBounds_toArray, List.set_cons_zero, List.set_cons_succ]
              refine rtake 13 (some 79) ?_ rfl rfl (by kernel_rfl) (by kernel_rfl) (by kernel_rfl) (fun _ _ _ h => h) (by rfl) (fun w' hw => ?_) hHeld2 ?_
              rotate_left 1
              · obtain ⟨c0, c1, c2, x0, x1, x2, x3, p0⟩ := hw.cells; go_simp; first | done | with_reducible rfl
              simp only [Act.put, List.setIfInBounds_toArray, List.set_cons_zero, List.set_cons_succ]
              refine rtake 14 (some 80) ?_ rfl rfl (by kernel_rfl) (by kernel_rfl) (by kernel_rfl) (fun _ _ _ h => h) (by rfl) (fun w' hw => ?_) hHeld2 ?_
              rotate_left 1
              · obtain ⟨c0, c1, c2, x0, x1, x2, x3, p0⟩ := hw.cells; go_simp; first | done | with_reducible rfl
              simp only [Act.put, List.setIfInBounds_toArray, List.set_cons_zero, List.set_cons_succ]
              refine rtake 15 (some 81) ?_ rfl rfl (by kernel_rfl) (by kernel_rfl) (by kernel_rfl) (fun _ _ _ h => h) (by rfl) (fun w' hw => ?_) hHeld2 ?_
              rotate_left 1
              · obtain ⟨c0, c1, c2, x0, x1, x2, x3, p0⟩ := hw.cells; go_simp; first | done | with_reducible rfl
              simp only [Act.put, List.setIfInBounds_toArray, List.set_cons_zero, List.set_cons_succ]
              refine rtake 16 (some 82) ?_ rfl rfl (by kernel_rfl) (by kernel_rfl) (by kernel_rfl) (fun _ _ _ h => h) (by rfl) (fun w' hw => ?_) hHeld2 ?_
              rotate_left 1
              · obtain ⟨c0, c1, c2, x0, x1, x2, x3, p0⟩ := hw.cells; go_simp; first | done | with_reducible rfl
              simp only [Act.put, List.setIfInBounds_toArray, List.set_cons_zero, List.set_cons_succ]
              refine rtake 17 (some 83) ?_ rfl rfl (by kernel_rfl) (by kernel_rfl) (by kernel_rfl) (fun _ _ _ h => h) (by rfl) (fun w' hw => ?_) hHeld2 ?_
              rotate_left 1
              · obtain ⟨c0, c1, c2, x0, x1, x2, x3, p0⟩ := hw.cells; go_simp; first | done | with_reducible rfl
              simp only [Act.put, List.setIfInBounds_toArray, List.set_cons_zero, List.set_cons_succ]
              refine rtake 18 (some 84) ?_ rfl rfl (by kernel_rfl) (by kernel_rfl) (by kernel_rfl) (fun _ _ _ h => h) (by rfl) (fun w' hw => ?_) hHeld2 ?_
              rotate_left 1
              · obtain ⟨c0, c1, c2, x0, x1, x2, x3, p0⟩ := hw.cells; go_simp; first | done | with_reducible rfl
              simp only [Act.put, List.setIfInBounds_toArray, List.set_cons_zero, List.set_cons_succ]
              refine rtake 19 (some 85) ?_ rfl rfl (by kernel_rfl) (by kernel_rfl) (by kernel_rfl) (fun _ _ _ h => h) (by rfl) (fun w' hw => ?_) hHeld2 ?_
              rotate_left 1
              · obtain ⟨c0, c1, c2, x0, x1, x2, x3, p0⟩ := hw.cells; go_simp; first | done | with_reducible rfl
              simp only [Act.put, List.setIfInBounds_toArray, List.set_cons_zero, List.set_cons_succ]
              refine rtake 20 (some 86) ?_ rfl rfl (by kernel_rfl) (by kernel_rfl) (by kernel_rfl) (fun _ _ _ h => h) (by rfl) (fun w' hw => ?_) hHeld2 ?_
              rotate_left 1
              · obtain ⟨c0, c1, c2, x0, x1, x2, x3, p0⟩ := hw.cells; go_simp; first | done | with_reducible rfl
              simp only [Act.put, List.setIfInBounds_toArray, List.set_cons_zero, List.set_cons_succ]
              refine rtake 21 (some 87) ?_ rfl rfl (by kernel_rfl) (by kernel_rfl) (by kernel_rfl) (fun _ _ _ h => h) (by rfl) (fun w' hw => ?_) hHeld2 ?_
              rotate_left 1
              · obtain ⟨c0, c1, c2, x0, x1, x2, x3, p0⟩ := hw.cells; go_simp; first | done | with_reducible rfl
              simp only [Act.put, List.setIfInBounds_toArray, List.set_cons_zero, List.set_cons_succ]
              refine rtake 22 (some 88) ?_ rfl rfl (by kernel_rfl) (by kernel_rfl) (by kernel_rfl) (fun _ _ _ h => h) (by rfl) (fun w' hw => ?_) hHeld2 ?_
              rotate_left 1
              · obtain ⟨c0, c1, c2, x0, x1, x2, x3, p0⟩ := hw.cells; go_simp; first | done | with_reducible rfl
              simp only [Act.put, List.setIfInBounds_toArray, List.set_cons_zero, List.set_cons_succ]
              refine rtake 23 (some 89) ?_ rfl rfl (by kernel_rfl) (by kernel_rfl) (by kernel_rfl) (fun _ _ _ h => h) (by rfl) (fun w' hw => ?_) hHeld2 ?_
              rotate_left 1
              · obtain ⟨c0, c1, c2, x0, x1, x2, x3, p0⟩ := hw.cells; go_simp; first | done | with_reducible rfl
              simp only [Act.put, List.setIfInBounds_toArray, List.set_cons_zero, List.set_cons_succ]
              refine rtake 24 (some 90) ?_ rfl rfl (by kernel_rfl) (by kernel_rfl) (by kernel_rfl) (fun _ _ _ h => h) (by rfl) (fun w' hw => ?_) hHeld2 ?_
              rotate_left 1
              · obtain ⟨c0, c1, c2, x0, x1, x2, x3, p0⟩ := hw.cells; go_simp; first | done | with_reducible rfl
              simp only [Act.put, List.setIfInBounds_toArray, List.set_cons_zero, List.set_cons_succ]
              refine rtake 25 (some 91) ?_ rfl rfl (by kernel_rfl) (by kernel_rfl) (by kernel_rfl) (fun _ _ _ h => h) (by rfl) (fun w' hw => ?_) hHeld2 ?_
              rotate_left 1
              · obtain ⟨c0, c1, c2, x0, x1, x2, x3, p0⟩ := hw.cells; go_simp; first | done | with_reducible rfl
              simp only [Act.put, List.setIfInBounds_toArray, List.set_cons_zero, List.set_cons_succ]
              refine rtake 26 (some 92) ?_ rfl rfl (by kernel_rfl) (by kernel_rfl) (by kernel_rfl) (fun _ _ _ h => h) (by rfl) (fun w' hw => ?_) hHeld2 ?_
              rotate_left 1
              · obtain ⟨c0, c1, c2, x0, x1, x2, x3, p0⟩ := hw.cells; go_simp; first | done | with_reducible rfl
              simp only [Act.put, List.setIfInBounds_toArray, List.set_cons_zero, List.set_cons_succ]
              refine rtake 27 (some 93) ?_ rfl rfl (by kernel_rfl) (by kernel_rfl) (by kernel_rfl) (fun _ _ _ h => h) (by rfl) (fun w' hw => ?_) hHeld2 ?_
              rotate_left 1
              · obtain ⟨c0, c1, c2, x0, x1, x2, x3, p0⟩ := hw.cells; go_simp; first | done | with_reducible rfl
              simp only [Act.put, List.setIfInBounds_toArray, List.set_cons_zero, List.set_cons_succ]
              refine rtake 28 (some 94) ?_ rfl rfl (by kernel_rfl) (by kernel_rfl) (by kernel_rfl) (fun _ _ _ h => h) (by rfl) (fun w' hw => ?_) hHeld2 ?_
              rotate_left 1
              · obtain ⟨c0, c1, c2, x0, x1, x2, x3, p0⟩ := hw.cells; go_simp; first | done | with_reducible rfl
              simp only [Act.put, List.setIfInBounds_toArray, List.set_cons_zero, List.set_cons_succ]
              refine wpAnyH_all (rs := [29]) (by kernel_rfl) (by simp) (AllReadyH.cons rfl (fun K hK => ?_) AllReadyH.nil)
              rw [if_pos (by rfl)]
              go_simp
              refine (hP.out _).mono ?_
              rintro e w3 ⟨rfl, hb3⟩
              go_wp2_with fail
              refine hK.out _ _ (hHeld2.below hb3) (fun hHeld3 => ?_)
              clear hK K hHeld2 hb3
              refine rtake 30 (some 96) (.int .i64 1) rfl rfl (by kernel_rfl) (by kernel_rfl) (by kernel_rfl) (fun _ _ _ h => h) (by rfl) (fun w' hw => ?_) hHeld3 ?_
              · have hl := kD.out w' hw.dirs; simp [execOp, Act.eval, hl, Result.andThen]
              simp only [Act.put, List.setIfInBounds_toArray, List.set_cons_zero, List.set_cons_succ]
              refine rtake 31 (some 97) ?_ rfl rfl (by kernel_rfl) (by kernel_rfl) (by kernel_rfl) (fun _ _ _ h => h) (by rfl) (fun w' hw => ?_) hHeld3 ?_
              rotate_left 1
              · obtain ⟨c0, c1, c2, x0, x1, x2, x3, p0⟩ := hw.cells; go_simp; first | done | with_reducible rfl
              simp only [Act.put, List.setIfInBounds_toArray, List.set_cons_zero, List.set_cons_succ]
              refine rtake 32 (some 98) ?_ rfl rfl (by kernel_rfl) (by kernel_rfl) (by kernel_rfl) (fun _ _ _ h => h) (by rfl) (fun w' hw => ?_) hHeld3 ?_
              rotate_left 1
              · obtain ⟨c0, c1, c2, x0, x1, x2, x3, p0⟩ := hw.cells; go_simp; first | done | with_reducible rfl
              simp only [Act.put, List.setIfInBounds_toArray, List.set_cons_zero, List.set_cons_succ]
              refine rtake 33 (some 99) ?_ rfl rfl (by kernel_rfl) (by kernel_rfl) (by kernel_rfl) (fun _ _ _ h => h) (by rfl) (fun w' hw => ?_) hHeld3 ?_
              rotate_left 1
              · obtain ⟨c0, c1, c2, x0, x1, x2, x3, p0⟩ := hw.cells; go_simp; first | done | with_reducible rfl
              simp only [Act.put, List.setIfInBounds_toArray, List.set_cons_zero, List.set_cons_succ]
              refine rtake 34 (some 100) ?_ rfl rfl (by kernel_rfl) (by kernel_rfl) (by kernel_rfl) (fun _ _ _ h => h) (by rfl) (fun w' hw => ?_) hHeld3 ?_
              rotate_left 1
              · obtain ⟨c0, c1, c2, x0, x1, x2, x3, p0⟩ := hw.cells; go_simp; first | done | with_reducible rfl
              simp only [Act.put, List.setIfInBounds_toArray, List.set_cons_zero, List.set_cons_succ]
              refine rtake 35 (some 101) ?_ rfl rfl (by kernel_rfl) (by kernel_rfl) (by kernel_rfl) (fun _ _ _ h => h) (by rfl) (fun w' hw => ?_) hHeld3 ?_
              rotate_left 1
              · obtain ⟨c0, c1, c2, x0, x1, x2, x3, p0⟩ := hw.cells; go_simp; first | done | with_reducible rfl
              simp only [Act.put, List.setIfInBounds_toArray, List.set_cons_zero, List.set_cons_succ]
              refine rtake 36 (some 102) ?_ rfl rfl (by kernel_rfl) (by kernel_rfl) (by kernel_rfl) (fun _ _ _ h => h) (by rfl) (fun w' hw => ?_) hHeld3 ?_
              rotate_left 1
              · obtain ⟨c0, c1, c2, x0, x1, x2, x3, p0⟩ := hw.cells; go_simp; first | done | with_reducible rfl
              simp only [Act.put, List.setIfInBounds_toArray, List.set_cons_zero, List.set_cons_succ]
              refine rtake 37 (some 103) ?_ rfl rfl (by kernel_rfl) (by kernel_rfl) (by kernel_rfl) (fun _ _ _ h => h) (by rfl) (fun w' hw => ?_) hHeld3 ?_
              rotate_left 1
              · obtain ⟨c0, c1, c2, x0, x1, x2, x3, p0⟩ := hw.cells; go_simp; first | done | with_reducible rfl
              simp only [Act.put, List.setIfInBounds_toArray, List.set_cons_zero, List.set_cons_succ]
              refine rtake 38 (some 104) ?_ rfl rfl (by kernel_rfl) (by kernel_rfl) (by kernel_rfl) (fun _ _ _ h => h) (by rfl) (fun w' hw => ?_) hHeld3 ?_
              rotate_left 1
              · obtain ⟨c0, c1, c2, x0, x1, x2, x3, p0⟩ := hw.cells; go_simp; first | done | with_reducible rfl
              simp only [Act.put, List.setIfInBounds_toArray, List.set_cons_zero, List.set_cons_succ]
              refine rtake 39 (some 105) ?_ rfl rfl (by kernel_rfl) (by kernel_rfl) (by kernel_rfl) (fun _ _ _ h => h) (by rfl) (fun w' hw => ?_) hHeld3 ?_
              rotate_left 1
              · obtain ⟨c0, c1, c2, x0, x1, x2, x3, p0⟩ := hw.cells; go_simp; first | done | with_reducible rfl
              simp only [Act.put, List.setIfInBounds_toArray, List.set_cons_zero, List.set_cons_succ]
              refine rtake 40 (some 106) ?_ rfl rfl (by kernel_rfl) (by kernel_rfl) (by kernel_rfl) (fun _ _ _ h => h) (by rfl) (fun w' hw => ?_) hHeld3 ?_
              rotate_left 1
              · obtain ⟨c0, c1, c2, x0, x1, x2, x3, p0⟩ := hw.cells; go_simp; first | done | with_reducible rfl
              simp only [Act.put, List.setIfInBounds_toArray, List.set_cons_zero, List.set_cons_succ]
              refine rtake 41 (some 107) ?_ rfl rfl (by kernel_rfl) (by kernel_rfl) (by kernel_rfl) (fun _ _ _ h => h) (by rfl) (fun w' hw => ?_) hHeld3 ?_
              rotate_left 1
              · obtain ⟨c0, c1, c2, x0, x1, x2, x3, p0⟩ := hw.cells; go_simp; first | done | with_reducible rfl
              simp only [Act.put, List.setIfInBounds_toArray, List.set_cons_zero, List.set_cons_succ]
              refine rtake 42 (some 108) ?_ rfl rfl (by kernel_rfl) (by kernel_rfl) (by kernel_rfl) (fun _ _ _ h => h) (by rfl) (fun w' hw => ?_) hHeld3 ?_
              rotate_left 1
              · obtain ⟨c0, c1, c2, x0, x1, x2, x3, p0⟩ := hw.cells; go_simp; first | done | with_reducible rfl
              simp only [Act.put, List.setIfInBounds_toArray, List.set_cons_zero, List.set_cons_succ]
              refine rtake 43 (some 109) ?_ rfl rfl (by kernel_rfl) (by kernel_rfl) (by kernel_rfl) (fun _ _ _ h => h) (by rfl) (fun w' hw => ?_) hHeld3 ?_
              rotate_left 1
              · obtain ⟨c0, c1, c2, x0, x1, x2, x3, p0⟩ := hw.cells; go_simp; first | done | with_reducible rfl
              simp only [Act.put, List.setIfInBounds_toArray, List.set_cons_zero, List.set_cons_succ]
              refine rtake 44 (some 110) ?_ rfl rfl (by kernel_rfl) (by kernel_rfl) (by kernel_rfl) (fun _ _ _ h => h) (by rfl) (fun w' hw => ?_) hHeld3 ?_
              rotate_left 1
              · obtain ⟨c0, c1, c2, x0, x1, x2, x3, p0⟩ := hw.cells; go_simp; first | done | with_reducible rfl
              simp only [Act.put, List.setIfInBounds_toArray, List.set_cons_zero, List.set_cons_succ]
              refine rtake 45 (some 111) ?_ rfl rfl (by kernel_rfl) (by kernel_rfl) (by kernel_rfl) (fun _ _ _ h => h) (by rfl) (fun w' hw => ?_) hHeld3 ?_
              rotate_left 1
              · obtain ⟨c0, c1, c2, x0, x1, x2, x3, p0⟩ := hw.cells; go_simp; first | done | with_reducible rfl
              simp only [Act.put, List.setIfInBounds_toArray, List.set_cons_zero, List.set_cons_succ]
              refine rtake 46 (some 112) ?_ rfl rfl (by kernel_rfl) (by kernel_rfl) (by kernel_rfl) (fun _ _ _ h => h) (by rfl) (fun w' hw => ?_) hHeld3 ?_
              rotate_left 1
              · obtain ⟨c0, c1, c2, x0, x1, x2, x3, p0⟩ := hw.cells; go_simp; first | done | with_reducible rfl
              simp only [Act.put, List.setIfInBounds_toArray, List.set_cons_zero, List.set_cons_succ]
              refine rtake 47 (some 113) ?_ rfl rfl (by kernel_rfl) (by kernel_rfl) (by kernel_rfl) (fun _ _ _ h => h) (by rfl) (fun w' hw => ?_) hHeld3 ?_
              rotate_left 1
              · obtain ⟨c0, c1, c2, x0, x1, x2, x3, p0⟩ := hw.cells; go_simp; first | done | with_reducible rfl
              simp only [Act.put, List.setIfInBounds_toArray, List.set_cons_zero, List.set_cons_succ]
              refine rtake 48 (some 114) ?_ rfl rfl (by kernel_rfl) (by kernel_rfl) (by kernel_rfl) (fun _ _ _ h => h) (by rfl) (fun w' hw => ?_) hHeld3 ?_
              rotate_left 1
              · obtain ⟨c0, c1, c2, x0, x1, x2, x3, p0⟩ := hw.cells; go_simp; first | done | with_reducible rfl
              simp only [Act.put, List.setIfInBounds_toArray, List.set_cons_zero, List.set_cons_succ]
              refine rtake 49 (some 115) ?_ rfl rfl (by kernel_rfl) (by kernel_rfl) (by kernel_rfl) (fun _ _ _ h => h) (by rfl) (fun w' hw => ?_) hHeld3 ?_
              rotate_left 1
              · obtain ⟨c0, c1, c2, x0, x1, x2, x3, p0⟩ := hw.cells; go_simp; first | done | with_reducible rfl
              simp only [Act.put, List.setIfInBounds_toArray, List.set_cons_zero, List.set_cons_succ]
              refine rtake 50 (some 116) ?_ rfl rfl (by kernel_rfl) (by kernel_rfl) (by kernel_rfl) (fun _ _ _ h => h) (by rfl) (fun w' hw => ?_) hHeld3 ?_
              rotate_left 1
              · obtain ⟨c0, c1, c2, x0, x1, x2, x3, p0⟩ := hw.cells; go_simp; first | done | with_reducible rfl
              simp only [Act.put, List.setIfInBounds_toArray, List.set_cons_zero, List.set_cons_succ]
              refine rtake 51 (some 117) ?_ rfl rfl (by kernel_rfl) (by kernel_rfl) (by kernel_rfl) (fun _ _ _ h => h) (by rfl) (fun w' hw => ?_) hHeld3 ?_
              rotate_left 1
              · obtain ⟨c0, c1, c2, x0, x1, x2, x3, p0⟩ := hw.cells; go_simp; first | done | with_reducible rfl
              simp only [Act.put, List.setIfInBounds_toArray, List.set_cons_zero, List.set_cons_succ]
              refine rtake 52 (some 118) ?_ rfl rfl (by kernel_rfl) (by kernel_rfl) (by kernel_rfl) (fun _ _ _ h => h) (by rfl) (fun w' hw => ?_) hHeld3 ?_
              rotate_left 1
              · obtain ⟨c0, c1, c2, x0, x1, x2, x3, p0⟩ := hw.cells; go_simp; first | done | with_reducible rfl
              simp only [Act.put, List.setIfInBounds_toArray, List.set_cons_zero, List.set_cons_succ]
              refine rtake 53 (some 119) ?_ rfl rfl (by kernel_rfl) (by kernel_rfl) (by kernel_rfl) (fun _ _ _ h => h) (by rfl) (fun w' hw => ?_) hHeld3 ?_
              rotate_left 1
              · obtain ⟨c0, c1, c2, x0, x1, x2, x3, p0⟩ := hw.cells; go_simp; first | done | with_reducible rfl
              simp only [Act.put, List.setIfInBounds_toArray, List.set_cons_zero, List.set_cons_succ]
              refine rtake 54 (some 120) ?_ rfl rfl (by kernel_rfl) (by kernel_rfl) (by kernel_rfl) (fun _ _ _ h => h) (by rfl) (fun w' hw => ?_) hHeld3 ?_
              rotate_left 1
              · obtain ⟨c0, c1, c2, x0, x1, x2, x3, p0⟩ := hw.cells; go_simp; first | done | with_reducible rfl
              simp only [Act.put, List.setIfInBounds_toArray, List.set_cons_zero, List.set_cons_succ]
              refine wpAnyH_done (by kernel_rfl) ?_ _
              have kBn := Lib.hid hHeld3.box
              have kDn := Lib.hid hHeld3.dirs
              obtain ⟨c0, c1, c2, x0, x1, x2, x3, p0⟩ := hHeld3.cells
              clear hHeld3 c0 c1 c2 x2 x3 p0
              go_wp2_with (at_mapUpdate; refine wpList_dirs (x := x) (pre := l.take (j + 1)) _ rfl _ _ _ rfl rfl (mk x.1) rfl rfl kDn.out kxd.out (mk_list _) kmax.out ktk.out ?_; intro w4 hD4 hg4 hs4; have kD4 := Lib.hid hD4; have kB4 := Lib.hid (kBn.out.store hg4 kdb.out); clear hD4 hg4 hs4)
              exact ⟨⟨(j + 1) + 1, by omega, by go_num, knext.out, kB4.out, by rw [e2]; exact kD4.out⟩, by simp [intOf]; omega⟩
            | false =>
              have kR := Lib.hid (show RHold w (.slice (some ⟨b, off, none⟩) l.length tc) clock room db (l.take (j + 1)) wr.heap.size (mk x.1) false x.2.time (.slice da x.2.data.length dc) ⟨b, off + j * 4, none⟩ (some y.1) (wr.alloc (.cells #[.string (mk x.1), .bool false, .int .i64 x.2.time, .slice da x.2.data.length dc] 54 (0, 0))).drew from RHold.first kBk.out kDk.out hpl hpc)
              have e2 : l.take ((j + 1) + 1) = l.take (j + 1) ++ [x] := take_more kx.out
              go_wp2
              refine wp_region_held_drew (by kernel_rfl) kR.out (fun hHeld => ?_)
              clear kR
              have d6 : decide (x.2.time < 0) = false := by simpa using v6
              have d7 : decide (clock < x.2.time) = false := by simpa using v7
              refine rtake 0 (some 66) ?_ rfl rfl (by kernel_rfl) (by kernel_rfl) (by kernel_rfl) (fun _ _ _ h => h) (by rfl) (fun w' hw => ?_) hHeld ?_
              rotate_left 1
              · obtain ⟨c0, c1, c2, x0, x1, x2, x3, p0⟩ := hw.cells; go_simp; first | done | with_reducible rfl
              simp only [Act.put, List.setIfInBounds_toArray, List.set_cons_zero, List.set_cons_succ]
              refine rtake 1 (some 67) ?_ rfl rfl (by kernel_rfl) (by kernel_rfl) (by kernel_rfl) (fun _ _ _ h => h) (by rfl) (fun w' hw => ?_) hHeld ?_
              rotate_left 1
              · obtain ⟨c0, c1, c2, x0, x1, x2, x3, p0⟩ := hw.cells; go_simp; first | done | with_reducible rfl
              simp only [Act.put, List.setIfInBounds_toArray, List.set_cons_zero, List.set_cons_succ]
              refine wpAnyH_all (rs := [2]) (by kernel_rfl) (by simp) (AllReadyH.cons rfl (fun K hK => ?_) AllReadyH.nil)
              rw [if_pos (by rfl)]
              go_simp
              refine (hV.out _).mono ?_
              rintro e w2 ⟨rfl, hb2⟩
              go_wp2_with fail
              refine hK.out _ _ (hHeld.below hb2) (fun hHeld2 => ?_)
              clear hK K hHeld hb2
              refine rtake 3 (some 69) ?_ rfl rfl (by kernel_rfl) (by kernel_rfl) (by kernel_rfl) (fun _ _ _ h => h) (by rfl) (fun w' hw => ?_) hHeld2 ?_
              rotate_left 1
              · obtain ⟨c0, c1, c2, x0, x1, x2, x3, p0⟩ := hw.cells; go_simp; first | done | with_reducible rfl
              simp only [Act.put, List.setIfInBounds_toArray, List.set_cons_zero, List.set_cons_succ]
              refine rtake 4 (some 70) ?_ rfl rfl (by kernel_rfl) (by kernel_rfl) (by kernel_rfl) (fun _ _ _ h => h) (by rfl) (fun w' hw => ?_) hHeld2 ?_
              rotate_left 1
              · obtain ⟨c0, c1, c2, x0, x1, x2, x3, p0⟩ := hw.cells; go_simp; first | done | with_reducible rfl
              simp only [Act.put, List.setIfInBounds_toArray, List.set_cons_zero, List.set_cons_succ]
              refine rtake 5 (some 71) ?_ rfl rfl (by kernel_rfl) (by kernel_rfl) (by kernel_rfl) (fun _ _ _ h => h) (by rfl) (fun w' hw => ?_) hHeld2 ?_
              rotate_left 1
              · obtain ⟨c0, c1, c2, x0, x1, x2, x3, p0⟩ := hw.cells; go_simp; first | done | with_reducible rfl
              simp only [Act.put, List.setIfInBounds_toArray, List.set_cons_zero, List.set_cons_succ]
              refine rtake 6 (some 72) ?_ rfl rfl (by kernel_rfl) (by kernel_rfl) (by kernel_rfl) (fun _ _ _ h => h) (by rfl) (fun w' hw => ?_) hHeld2 ?_
              rotate_left 1
              · obtain ⟨c0, c1, c2, x0, x1, x2, x3, p0⟩ := hw.cells; go_simp; first | done | with_reducible rfl
              simp only [Act.put, List.setIfInBounds_toArray, List.set_cons_zero, List.set_cons_succ]
              refine rtake 7 (some 73) ?_ rfl rfl (by kernel_rfl) (by kernel_rfl) (by kernel_rfl) (fun _ _ _ h => h) (by rfl) (fun w' hw => ?_) hHeld2 ?_
              rotate_left 1
              · obtain ⟨c0, c1, c2, x0, x1, x2, x3, p0⟩ := hw.cells; go_simp; first | done | with_reducible rfl
              simp only [Act.put, List.setIfInBounds_toArray, List.set_cons_zero, List.set_cons_succ]
              refine rtake 8 (some 74) ?_ rfl rfl (by kernel_rfl) (by kernel_rfl) (by kernel_rfl) (fun _ _ _ h => h) (by rfl) (fun w' hw => ?_) hHeld2 ?_
              rotate_left 1
              · obtain ⟨c0, c1, c2, x0, x1, x2, x3, p0⟩ := hw.cells; go_simp; first | done | with_reducible rfl
              simp only [Act.put, List.setIfInBounds_toArray, List.set_cons_zero, List.set_cons_succ]
              refine rtake 9 (some 75) ?_ rfl rfl (by kernel_rfl) (by kernel_rfl) (by kernel_rfl) (fun _ _ _ h => h) (by rfl) (fun w' hw => ?_) hHeld2 ?_
              rotate_left 1
              · obtain ⟨c0, c1, c2, x0, x1, x2, x3, p0⟩ := hw.cells; go_simp; first | done | with_reducible rfl
              simp only [Act.put, List.setIfInBounds_toArray, List.set_cons_zero, List.set_cons_succ]
              refine rtake 10 (some 76) ?_ rfl rfl (by kernel_rfl) (by kernel_rfl) (by kernel_rfl) (fun _ _ _ h => h) (by rfl) (fun w' hw => ?_) hHeld2 ?_
              rotate_left 1
              · obtain ⟨c0, c1, c2, x0, x1, x2, x3, p0⟩ := hw.cells; go_simp; first | done | with_reducible rfl
              simp only [Act.put, List.setIfInBounds_toArray, List.set_cons_zero, List.set_cons_succ]
              refine rtake 11 (some 77) ?_ rfl rfl (by kernel_rfl) (by kernel_rfl) (by kernel_rfl) (fun _ _ _ h => h) (by rfl) (fun w' hw => ?_) hHeld2 ?_
              rotate_left 1
              · obtain ⟨c0, c1, c2, x0, x1, x2, x3, p0⟩ := hw.cells; go_simp; first | done | with_reducible rfl
              simp only [Act.put, List.setIfInBounds_toArray, List.set_cons_zero, List.set_cons_succ]
              refine rtake 12 (some 78) ?_ rfl rfl (by kernel_rfl) (by kernel_rfl) (by kernel_rfl) (fun _ _ _ h => h) (by rfl) (fun w' hw => ?_) hHeld2 ?_
              rotate_left 1
              · obtain ⟨c0, c1, c2, x0, x1, x2, x3, p0⟩ := hw.cells; go_simp; first | done | with_reducible rfl
              simp only [Act.put, List.setIfInBounds_toArray, List.set_cons_zero, List.set_cons_succ]
              refine rtake 13 (some 79) ?_ rfl rfl (by kernel_rfl) (by kernel_rfl) (by kernel_rfl) (fun _ _ _ h => h) (by rfl) (fun w' hw => ?_) hHeld2 ?_
              rotate_left 1
              · obtain ⟨c0, c1, c2, x0, x1, x2, x3, p0⟩ := hw.cells; go_simp; first | done | with_reducible rfl
              simp only [Act.put, List.setIfInBounds_toArray, List.set_cons_zero, List.set_cons_succ]
              refine rtake 14 (some 80) ?_ rfl rfl (by kernel_rfl) (by kernel_rfl) (by kernel_rfl) (fun _ _ _ h => h) (by rfl) (fun w' hw => ?_) hHeld2 ?_
              rotate_left 1
              · obtain ⟨c0, c1, c2, x0, x1, x2, x3, p0⟩ := hw.cells; go_simp; first | done | with_reducible rfl
              simp only [Act.put, List.setIfInBounds_toArray, List.set_cons_zero, List.set_cons_succ]
              refine rtake 15 (some 81) ?_ rfl rfl (by kernel_rfl) (by kernel_rfl) (by kernel_rfl) (fun _ _ _ h => h) (by rfl) (fun w' hw => ?_) hHeld2 ?_
              rotate_left 1
              · obtain ⟨c0, c1, c2, x0, x1, x2, x3, p0⟩ := hw.cells; go_simp; first | done | with_reducible rfl
              simp only [Act.put, List.setIfInBounds_toArray, List.set_cons_zero, List.set_cons_succ]
              refine rtake 16 (some 82) ?_ rfl rfl (by kernel_rfl) (by kernel_rfl) (by kernel_rfl) (fun _ _ _ h => h) (by rfl) (fun w' hw => ?_) hHeld2 ?_
              rotate_left 1
              · obtain ⟨c0, c1, c2, x0, x1, x2, x3, p0⟩ := hw.cells; go_simp; first | done | with_reducible rfl
              simp only [Act.put, List.setIfInBounds_toArray, List.set_cons_zero, List.set_cons_succ]
              refine rtake 17 (some 83) ?_ rfl rfl (by kernel_rfl) (by kernel_rfl) (by kernel_rfl) (fun _ _ _ h => h) (by rfl) (fun w' hw => ?_) hHeld2 ?_
              rotate_left 1
              · obtain ⟨c0, c1, c2, x0, x1, x2, x3, p0⟩ := hw.cells; go_simp; first | done | with_reducible rfl
              simp only [Act.put, List.setIfInBounds_toArray, List.set_cons_zero, List.set_cons_succ]
              refine rtake 18 (some 84) ?_ rfl rfl (by kernel_rfl) (by kernel_rfl) (by kernel_rfl) (fun _ _ _ h => h) (by rfl) (fun w' hw => ?_) hHeld2 ?_
              rotate_left 1
              · obtain ⟨c0, c1, c2, x0, x1, x2, x3, p0⟩ := hw.cells; go_simp; first | done | with_reducible rfl
              simp only [Act.put, List.setIfInBounds_toArray, List.set_cons_zero, List.set_cons_succ]
              refine rtake 19 (some 85) ?_ rfl rfl (by kernel_rfl) (by kernel_rfl) (by kernel_rfl) (fun _ _ _ h => h) (by rfl) (fun w' hw => ?_) hHeld2 ?_
              rotate_left 1
              · obtain ⟨c0, c1, c2, x0, x1, x2, x3, p0⟩ := hw.cells; go_simp; first | done | with_reducible rfl
              simp only [Act.put, List.setIfInBounds_toArray, List.set_cons_zero, List.set_cons_succ]
              refine rtake 20 (some 86) ?_ rfl rfl (by kernel_rfl) (by kernel_rfl) (by kernel_rfl) (fun _ _ _ h => h) (by rfl) (fun w' hw => ?_) hHeld2 ?_
              rotate_left 1
              · obtain ⟨c0, c1, c2, x0, x1, x2, x3, p0⟩ := hw.cells; go_simp; first | done | with_reducible rfl
              simp only [Act.put, List.setIfInBounds_toArray, List.set_cons_zero, List.set_cons_succ]
              refine rtake 21 (some 87) ?_ rfl rfl (by kernel_rfl) (by kernel_rfl) (by kernel_rfl) (fun _ _ _ h => h) (by rfl) (fun w' hw => ?_) hHeld2 ?_
              rotate_left 1
              · obtain ⟨c0, c1, c2, x0, x1, x2, x3, p0⟩ := hw.cells; go_simp; first | done | with_reducible rfl
              simp only [Act.put, List.setIfInBounds_toArray, List.set_cons_zero, List.set_cons_succ]
              refine rtake 22 (some 88) ?_ rfl rfl (by kernel_rfl) (by kernel_rfl) (by kernel_rfl) (fun _ _ _ h => h) (by rfl) (fun w' hw => ?_) hHeld2 ?_
              rotate_left 1
              · obtain ⟨c0, c1, c2, x0, x1, x2, x3, p0⟩ := hw.cells; go_simp; first | done | with_reducible rfl
              simp only [Act.put, List.setIfInBounds_toArray, List.set_cons_zero, List.set_cons_succ]
              refine rtake 23 (some 89) ?_ rfl rfl (by kernel_rfl) (by kernel_rfl) (by kernel_rfl) (fun _ _ _ h => h) (by rfl) (fun w' hw => ?_) hHeld2 ?_
              rotate_left 1
              · obtain ⟨c0, c1, c2, x0, x1, x2, x3, p0⟩ := hw.cells; go_simp; first | done | with_reducible rfl
              simp only [Act.put, List.setIfInBounds_toArray, List.set_cons_zero, List.set_cons_succ]
              refine rtake 24 (some 90) ?_ rfl rfl (by kernel_rfl) (by kernel_rfl) (by kernel_rfl) (fun _ _ _ h => h) (by rfl) (fun w' hw => ?_) hHeld2 ?_
              rotate_left 1
              · obtain ⟨c0, c1, c2, x0, x1, x2, x3, p0⟩ := hw.cells; go_simp; first | done | with_reducible rfl
              simp only [Act.put, List.setIfInBounds_toArray, List.set_cons_zero, List.set_cons_succ]
              refine rtake 25 (some 91) ?_ rfl rfl (by kernel_rfl) (by kernel_rfl) (by kernel_rfl) (fun _ _ _ h => h) (by rfl) (fun w' hw => ?_) hHeld2 ?_
              rotate_left 1
              · obtain ⟨c0, c1, c2, x0, x1, x2, x3, p0⟩ := hw.cells; go_simp; first | done | with_reducible rfl
              simp only [Act.put, List.setIfInBounds_toArray, List.set_cons_zero, List.set_cons_succ]
              refine rtake 26 (some 92) ?_ rfl rfl (by kernel_rfl) (by kernel_rfl) (by kernel_rfl) (fun _ _ _ h => h) (by rfl) (fun w' hw => ?_) hHeld2 ?_
              rotate_left 1
              · obtain ⟨c0, c1, c2, x0, x1, x2, x3, p0⟩ := hw.cells; go_simp; first | done | with_reducible rfl
              simp only [Act.put, List.setIfInBounds_toArray, List.set_cons_zero, List.set_cons_succ]
              refine rtake 27 (some 93) ?_ rfl rfl (by kernel_rfl) (by kernel_rfl) (by kernel_rfl) (fun _ _ _ h => h) (by rfl) (fun w' hw => ?_) hHeld2 ?_
              rotate_left 1
              · obtain ⟨c0, c1, c2, x0, x1, x2, x3, p0⟩ := hw.cells; go_simp; first | done | with_reducible rfl
              simp only [Act.put, List.setIfInBounds_toArray, List.set_cons_zero, List.set_cons_succ]
              refine rtake 28 (some 94) ?_ rfl rfl (by kernel_rfl) (by kernel_rfl) (by kernel_rfl) (fun _ _ _ h => h) (by rfl) (fun w' hw => ?_) hHeld2 ?_
              rotate_left 1
              · obtain ⟨c0, c1, c2, x0, x1, x2, x3, p0⟩ := hw.cells; go_simp; first | done | with_reducible rfl
              simp only [Act.put, List.setIfInBounds_toArray, List.set_cons_zero, List.set_cons_succ]
              refine wpAnyH_all (rs := [29]) (by kernel_rfl) (by simp) (AllReadyH.cons rfl (fun K hK => ?_) AllReadyH.nil)
              rw [if_pos (by rfl)]
              go_simp
              refine (hP.out _).mono ?_
              rintro e w3 ⟨rfl, hb3⟩
              go_wp2_with fail
              refine hK.out _ _ (hHeld2.below hb3) (fun hHeld3 => ?_)
              clear hK K hHeld2 hb3
              refine rtake 30 (some 96) (.int .i64 1) rfl rfl (by kernel_rfl) (by kernel_rfl) (by kernel_rfl) (fun _ _ _ h => h) (by rfl) (fun w' hw => ?_) hHeld3 ?_
              · have hl := kD.out w' hw.dirs; simp [execOp, Act.eval, hl, Result.andThen]
              simp only [Act.put, List.setIfInBounds_toArray, List.set_cons_zero, List.set_cons_succ]
              refine rtake 31 (some 97) ?_ rfl rfl (by kernel_rfl) (by kernel_rfl) (by kernel_rfl) (fun _ _ _ h => h) (by rfl) (fun w' hw => ?_) hHeld3 ?_
              rotate_left 1
              · obtain ⟨c0, c1, c2, x0, x1, x2, x3, p0⟩ := hw.cells; go_simp; first | done | with_reducible rfl
              simp only [Act.put, List.setIfInBounds_toArray, List.set_cons_zero, List.set_cons_succ]
              refine rtake 32 (some 98) ?_ rfl rfl (by kernel_rfl) (by kernel_rfl) (by kernel_rfl) (fun _ _ _ h => h) (by rfl) (fun w' hw => ?_) hHeld3 ?_
              rotate_left 1
              · obtain ⟨c0, c1, c2, x0, x1, x2, x3, p0⟩ := hw.cells; go_simp; first | done | with_reducible rfl
              simp only [Act.put, List.setIfInBounds_toArray, List.set_cons_zero, List.set_cons_succ]
              refine rtake 33 (some 99) ?_ rfl rfl (by kernel_rfl) (by kernel_rfl) (by kernel_rfl) (fun _ _ _ h => h) (by rfl) (fun w' hw => ?_) hHeld3 ?_
              rotate_left 1
              · obtain ⟨c0, c1, c2, x0, x1, x2, x3, p0⟩ := hw.cells; go_simp; first | done | with_reducible rfl
              simp only [Act.put, List.setIfInBounds_toArray, List.set_cons_zero, List.set_cons_succ]
              refine rtake 34 (some 100) ?_ rfl rfl (by kernel_rfl) (by kernel_rfl) (by kernel_rfl) (fun _ _ _ h => h) (by rfl) (fun w' hw => ?_) hHeld3 ?_
              rotate_left 1
              · obtain ⟨c0, c1, c2, x0, x1, x2, x3, p0⟩ := hw.cells; go_simp; first | done | with_reducible rfl
              simp only [Act.put, List.setIfInBounds_toArray, List.set_cons_zero, List.set_cons_succ]
              refine rtake 35 (some 101) ?_ rfl rfl (by kernel_rfl) (by kernel_rfl) (by kernel_rfl) (fun _ _ _ h => h) (by rfl) (fun w' hw => ?_) hHeld3 ?_
              rotate_left 1
              · obtain ⟨c0, c1, c2, x0, x1, x2, x3, p0⟩ := hw.cells; go_simp; first | done | with_reducible rfl
              simp only [Act.put, List.setIfInBounds_toArray, List.set_cons_zero, List.set_cons_succ]
              refine rtake 36 (some 102) ?_ rfl rfl (by kernel_rfl) (by kernel_rfl) (by kernel_rfl) (fun _ _ _ h => h) (by rfl) (fun w' hw => ?_) hHeld3 ?_
              rotate_left 1
              · obtain ⟨c0, c1, c2, x0, x1, x2, x3, p0⟩ := hw.cells; go_simp; first | done | with_reducible rfl
              simp only [Act.put, List.setIfInBounds_toArray, List.set_cons_zero, List.set_cons_succ]
              refine rskip 37 (some 103) rfl rfl (by kernel_rfl) (by kernel_rfl) (by kernel_rfl) (fun _ _ _ h => h) (by rfl) hHeld3 ?_
              simp only [Act.put, List.setIfInBounds_toArray, List.set_cons_zero, List.set_cons_succ]
              refine rskip 38 (some 104) rfl rfl (by kernel_rfl) (by kernel_rfl) (by kernel_rfl) (fun _ _ _ h => h) (by rfl) hHeld3 ?_
              simp only [Act.put, List.setIfInBounds_toArray, List.set_cons_zero, List.set_cons_succ]
              refine rskip 39 (some 105) rfl rfl (by kernel_rfl) (by kernel_rfl) (by kernel_rfl) (fun _ _ _ h => h) (by rfl) hHeld3 ?_
              simp only [Act.put, List.setIfInBounds_toArray, List.set_cons_zero, List.set_cons_succ]
              refine rskip 40 (some 106) rfl rfl (by kernel_rfl) (by kernel_rfl) (by kernel_rfl) (fun _ _ _ h => h) (by rfl) hHeld3 ?_
              simp only [Act.put, List.setIfInBounds_toArray, List.set_cons_zero, List.set_cons_succ]
              refine rtake 41 (some 107) ?_ rfl rfl (by kernel_rfl) (by kernel_rfl) (by kernel_rfl) (fun _ _ _ h => h) (by rfl) (fun w' hw => ?_) hHeld3 ?_
              rotate_left 1
              · obtain ⟨c0, c1, c2, x0, x1, x2, x3, p0⟩ := hw.cells; go_simp; first | done | with_reducible rfl
              simp only [Act.put, List.setIfInBounds_toArray, List.set_cons_zero, List.set_cons_succ]
              refine rtake 42 (some 108) ?_ rfl rfl (by kernel_rfl) (by kernel_rfl) (by kernel_rfl) (fun _ _ _ h => h) (by rfl) (fun w' hw => ?_) hHeld3 ?_
              rotate_left 1
              · obtain ⟨c0, c1, c2, x0, x1, x2, x3, p0⟩ := hw.cells; go_simp; first | done | with_reducible rfl
              simp only [Act.put, List.setIfInBounds_toArray, List.set_cons_zero, List.set_cons_succ]
              refine rtake 43 (some 109) ?_ rfl rfl (by kernel_rfl) (by kernel_rfl) (by kernel_rfl) (fun _ _ _ h => h) (by rfl) (fun w' hw => ?_) hHeld3 ?_
              rotate_left 1
              · obtain ⟨c0, c1, c2, x0, x1, x2, x3, p0⟩ := hw.cells; go_simp; first | done | with_reducible rfl
              simp only [Act.put, List.setIfInBounds_toArray, List.set_cons_zero, List.set_cons_succ]
              refine rtake 44 (some 110) ?_ rfl rfl (by kernel_rfl) (by kernel_rfl) (by kernel_rfl) (fun _ _ _ h => h) (by rfl) (fun w' hw => ?_) hHeld3 ?_
              rotate_left 1
              · obtain ⟨c0, c1, c2, x0, x1, x2, x3, p0⟩ := hw.cells; go_simp; first | done | with_reducible rfl
              simp only [Act.put, List.setIfInBounds_toArray, List.set_cons_zero, List.set_cons_succ]
              refine rtake 45 (some 111) ?_ rfl rfl (by kernel_rfl) (by kernel_rfl) (by kernel_rfl) (fun _ _ _ h => h) (by rfl) (fun w' hw => ?_) hHeld3 ?_
              rotate_left 1
              · obtain ⟨c0, c1, c2, x0, x1, x2, x3, p0⟩ := hw.cells; go_simp; first | done | with_reducible rfl
              simp only [Act.put, List.setIfInBounds_toArray, List.set_cons_zero, List.set_cons_succ]
              refine rtake 46 (some 112) ?_ rfl rfl (by kernel_rfl) (by kernel_rfl) (by kernel_rfl) (fun _ _ _ h => h) (by rfl) (fun w' hw => ?_) hHeld3 ?_
              rotate_left 1
              · obtain ⟨c0, c1, c2, x0, x1, x2, x3, p0⟩ := hw.cells; go_simp; first | done | with_reducible rfl
              simp only [Act.put, List.setIfInBounds_toArray, List.set_cons_zero, List.set_cons_succ]
              refine rtake 47 (some 113) ?_ rfl rfl (by kernel_rfl) (by kernel_rfl) (by kernel_rfl) (fun _ _ _ h => h) (by rfl) (fun w' hw => ?_) hHeld3 ?_
              rotate_left 1
              · obtain ⟨c0, c1, c2, x0, x1, x2, x3, p0⟩ := hw.cells; go_simp; first | done | with_reducible rfl
              simp only [Act.put, List.setIfInBounds_toArray, List.set_cons_zero, List.set_cons_succ]
              refine rtake 48 (some 114) ?_ rfl rfl (by kernel_rfl) (by kernel_rfl) (by kernel_rfl) (fun _ _ _ h => h) (by rfl) (fun w' hw => ?_) hHeld3 ?_
              rotate_left 1
              · obtain ⟨c0, c1, c2, x0, x1, x2, x3, p0⟩ := hw.cells; go_simp; first | done | with_reducible rfl
              simp only [Act.put, List.setIfInBounds_toArray, List.set_cons_zero, List.set_cons_succ]
              refine rtake 49 (some 115) ?_ rfl rfl (by kernel_rfl) (by kernel_rfl) (by kernel_rfl) (fun _ _ _ h => h) (by rfl) (fun w' hw => ?_) hHeld3 ?_
              rotate_left 1
              · obtain ⟨c0, c1, c2, x0, x1, x2, x3, p0⟩ := hw.cells; go_simp; first | done | with_reducible rfl
              simp only [Act.put, List.setIfInBounds_toArray, List.set_cons_zero, List.set_cons_succ]
              refine rtake 50 (some 116) ?_ rfl rfl (by kernel_rfl) (by kernel_rfl) (by kernel_rfl) (fun _ _ _ h => h) (by rfl) (fun w' hw => ?_) hHeld3 ?_
              rotate_left 1
              · obtain ⟨c0, c1, c2, x0, x1, x2, x3, p0⟩ := hw.cells; go_simp; first | done | with_reducible rfl
              simp only [Act.put, List.setIfInBounds_toArray, List.set_cons_zero, List.set_cons_succ]
              refine rtake 51 (some 117) ?_ rfl rfl (by kernel_rfl) (by kernel_rfl) (by kernel_rfl) (fun _ _ _ h => h) (by rfl) (fun w' hw => ?_) hHeld3 ?_
              rotate_left 1
              · obtain ⟨c0, c1, c2, x0, x1, x2, x3, p0⟩ := hw.cells; go_simp; first | done | with_reducible rfl
              simp only [Act.put, List.setIfInBounds_toArray, List.set_cons_zero, List.set_cons_succ]
              refine rtake 52 (some 118) ?_ rfl rfl (by kernel_rfl) (by kernel_rfl) (by kernel_rfl) (fun _ _ _ h => h) (by rfl) (fun w' hw => ?_) hHeld3 ?_
              rotate_left 1
              · obtain ⟨c0, c1, c2, x0, x1, x2, x3, p0⟩ := hw.cells; go_simp; first | done | with_reducible rfl
              simp only [Act.put, List.setIfInBounds_toArray, List.set_cons_zero, List.set_cons_succ]
              refine rtake 53 (some 119) ?_ rfl rfl (by kernel_rfl) (by kernel_rfl) (by kernel_rfl) (fun _ _ _ h => h) (by rfl) (fun w' hw => ?_) hHeld3 ?_
              rotate_left 1
              · obtain ⟨c0, c1, c2, x0, x1, x2, x3, p0⟩ := hw.cells; go_simp; first | done | with_reducible rfl
              simp only [Act.put, List.setIfInBounds_toArray, List.set_cons_zero, List.set_cons_succ]
              refine rtake 54 (some 120) ?_ rfl rfl (by kernel_rfl) (by kernel_rfl) (by kernel_rfl) (fun _ _ _ h => h) (by rfl) (fun w' hw => ?_) hHeld3 ?_
              rotate_left 1
              · obtain ⟨c0, c1, c2, x0, x1, x2, x3, p0⟩ := hw.cells; go_simp; first | done | with_reducible rfl
              simp only [Act.put, List.setIfInBounds_toArray, List.set_cons_zero, List.set_cons_succ]
              refine wpAnyH_done (by kernel_rfl) ?_ _
              have kBn := Lib.hid hHeld3.box
              have kDn := Lib.hid hHeld3.dirs
              obtain ⟨c0, c1, c2, x0, x1, x2, x3, p0⟩ := hHeld3.cells
              clear hHeld3 c0 c1 c2 x2 x3 p0
              go_wp2
              exact ⟨⟨(j + 1) + 1, by omega, by go_num, knext.out, kBn.out, by rw [e2]; exact kDn.out.skip kxd.out⟩, by simp [intOf]; omega⟩
          · obtain rfl : k = 0 := by omega
            have hpl : b < wr.heap.size := hbl
            have hpc : wr.cell? ⟨b, off, none⟩ = some (.string (mk x.1)) := by simpa using hc0
            cases xd with
            | true =>
              rw [kv5.out rfl] at hc3
              have kR := Lib.hid (show RHold w (.slice (some ⟨b, off, none⟩) l.length tc) clock room db (l.take 0) wr.heap.size (mk x.1) true x.2.time (.slice da 0 dc) ⟨b, off, none⟩ (some x.1) (wr.alloc (.cells #[.string (mk x.1), .bool true, .int .i64 x.2.time, .slice da 0 dc] 54 (0, 0))).drew from RHold.first kBk.out kDk.out hpl hpc)
              have e2 : l.take (0 + 1) = l.take 0 ++ [x] := take_more kx.out
              go_wp2
              refine wp_region_held_drew (by kernel_rfl) kR.out (fun hHeld => ?_)
              clear kR
              have d6 : decide (x.2.time < 0) = false := by simpa using v6
              have d7 : decide (clock < x.2.time) = false := by simpa using v7
              refine rtake 0 (some 66) ?_ rfl rfl (by kernel_rfl) (by kernel_rfl) (by kernel_rfl) (fun _ _ _ h => h) (by rfl) (fun w' hw => ?_) hHeld ?_
              rotate_left 1
              · obtain ⟨c0, c1, c2, x0, x1, x2, x3, p0⟩ := hw.cells; go_simp; first | done | with_reducible rfl
              simp only [Act.put, List.setIfInBounds_toArray, List.set_cons_zero, List.set_cons_succ]
              refine rtake 1 (some 67) ?_ rfl rfl (by kernel_rfl) (by kernel_rfl) (by kernel_rfl) (fun _ _ _ h => h) (by rfl) (fun w' hw => ?_) hHeld ?_
              rotate_left 1
              · obtain ⟨c0, c1, c2, x0, x1, x2, x3, p0⟩ := hw.cells; go_simp; first | done | with_reducible rfl
              simp only [Act.put, List.setIfInBounds_toArray, List.set_cons_zero, List.set_cons_succ]
              refine wpAnyH_all (rs := [2]) (by kernel_rfl) (by simp) (AllReadyH.cons rfl (fun K hK => ?_) AllReadyH.nil)
              rw [if_pos (by rfl)]
              go_simp
              refine (hV.out _).mono ?_
              rintro e w2 ⟨rfl, hb2⟩
              go_wp2_with fail
              refine hK.out _ _ (hHeld.below hb2) (fun hHeld2 => ?_)
              clear hK K hHeld hb2
              refine rtake 3 (some 69) ?_ rfl rfl (by kernel_rfl) (by kernel_rfl) (by kernel_rfl) (fun _ _ _ h => h) (by rfl) (fun w' hw => ?_) hHeld2 ?_
              rotate_left 1
              · obtain ⟨c0, c1, c2, x0, x1, x2, x3, p0⟩ := hw.cells; go_simp; first | done | with_reducible rfl
              simp only [Act.put, List.setIfInBounds_toArray, List.set_cons_zero, List.set_cons_succ]
              refine rtake 4 (some 70) ?_ rfl rfl (by kernel_rfl) (by kernel_rfl) (by kernel_rfl) (fun _ _ _ h => h) (by rfl) (fun w' hw => ?_) hHeld2 ?_
              rotate_left 1
              · obtain ⟨c0, c1, c2, x0, x1, x2, x3, p0⟩ := hw.cells; go_simp; first | done | with_reducible rfl
              simp only [Act.put, List.setIfInBounds_toArray, List.set_cons_zero, List.set_cons_succ]
              refine rtake 5 (some 71) ?_ rfl rfl (by kernel_rfl) (by kernel_rfl) (by kernel_rfl) (fun _ _ _ h => h) (by rfl) (fun w' hw => ?_) hHeld2 ?_
              rotate_left 1
              · obtain ⟨c0, c1, c2, x0, x1, x2, x3, p0⟩ := hw.cells; go_simp; first | done | with_reducible rfl
              simp only [Act.put, List.setIfInBounds_toArray, List.set_cons_zero, List.set_cons_succ]
              refine rtake 6 (some 72) ?_ rfl rfl (by kernel_rfl) (by kernel_rfl) (by kernel_rfl) (fun _ _ _ h => h) (by rfl) (fun w' hw => ?_) hHeld2 ?_
              rotate_left 1
              · obtain ⟨c0, c1, c2, x0, x1, x2, x3, p0⟩ := hw.cells; go_simp; first | done | with_reducible rfl
              simp only [Act.put, List.setIfInBounds_toArray, List.set_cons_zero, List.set_cons_succ]
              refine rtake 7 (some 73) ?_ rfl rfl (by kernel_rfl) (by kernel_rfl) (by kernel_rfl) (fun _ _ _ h => h) (by rfl) (fun w' hw => ?_) hHeld2 ?_
              rotate_left 1
              · obtain ⟨c0, c1, c2, x0, x1, x2, x3, p0⟩ := hw.cells; go_simp; first | done | with_reducible rfl
              simp only [Act.put, List.setIfInBounds_toArray, List.set_cons_zero, List.set_cons_succ]
              refine rtake 8 (some 74) ?_ rfl rfl (by kernel_rfl) (by kernel_rfl) (by kernel_rfl) (fun _ _ _ h => h) (by rfl) (fun w' hw => ?_) hHeld2 ?_
              rotate_left 1
              · obtain ⟨c0, c1, c2, x0, x1, x2, x3, p0⟩ := hw.cells; go_simp; first | done | with_reducible rfl
              simp only [Act.put, List.setIfInBounds_toArray, List.set_cons_zero, List.set_cons_succ]
              refine rtake 9 (some 75) ?_ rfl rfl (by kernel_rfl) (by kernel_rfl) (by kernel_rfl) (fun _ _ _ h => h) (by rfl) (fun w' hw => ?_) hHeld2 ?_
              rotate_left 1
              · obtain ⟨c0, c1, c2, x0, x1, x2, x3, p0⟩ := hw.cells; go_simp; first | done | with_reducible rfl
              simp only [Act.put, List.setIfInBounds_toArray, List.set_cons_zero, List.set_cons_succ]
              refine rtake 10 (some 76) ?_ rfl rfl (by kernel_rfl) (by kernel_rfl) (by kernel_rfl) (fun _ _ _ h => h) (by rfl) (fun w' hw => ?_) hHeld2 ?_
              rotate_left 1
              · obtain ⟨c0, c1, c2, x0, x1, x2, x3, p0⟩ := hw.cells; go_simp; first | done | with_reducible rfl
              simp only [Act.put, List.setIfInBounds_toArray, List.set_cons_zero, List.set_cons_succ]
              refine rtake 11 (some 77) ?_ rfl rfl (by kernel_rfl) (by kernel_rfl) (by kernel_rfl) (fun _ _ _ h => h) (by rfl) (fun w' hw => ?_) hHeld2 ?_
              rotate_left 1
              · obtain ⟨c0, c1, c2, x0, x1, x2, x3, p0⟩ := hw.cells; go_simp; first | done | with_reducible rfl
              simp only [Act.put, List.setIfInBounds_toArray, List.set_cons_zero, List.set_cons_succ]
              refine rtake 12 (some 78) ?_ rfl rfl (by kernel_rfl) (by kernel_rfl) (by kernel_rfl) (fun _ _ _ h => h) (by rfl) (fun w' hw => ?_) hHeld2 ?_
              rotate_left 1
              · obtain ⟨c0, c1, c2, x0, x1, x2, x3, p0⟩ := hw.cells; go_simp; first | done | with_reducible rfl
              simp only [Act.put, List.setIfInBounds_toArray, List.set_cons_zero, List.set_cons_succ]
              refine rskip 13 (some 79) rfl rfl (by kernel_rfl) (by kernel_rfl) (by kernel_rfl) (fun _ _ _ h => h) (by rfl) hHeld2 ?_
              simp only [Act.put, List.setIfInBounds_toArray, List.set_cons_zero, List.set_cons_succ]
              refine rskip 14 (some 80) rfl rfl (by kernel_rfl) (by kernel_rfl) (by kernel_rfl) (fun _ _ _ h => h) (by rfl) hHeld2 ?_
              simp only [Act.put, List.setIfInBounds_toArray, List.set_cons_zero, List.set_cons_succ]
              refine rskip 15 (some 81) rfl rfl (by kernel_rfl) (by kernel_rfl) (by kernel_rfl) (fun _ _ _ h => h) (by rfl) hHeld2 ?_
              simp only [Act.put, List.setIfInBounds_toArray, List.set_cons_zero, List.set_cons_succ]
              refine rskip 16 (some 82) rfl rfl (by kernel_rfl) (by kernel_rfl) (by kernel_rfl) (fun _ _ _ h => h) (by rfl) hHeld2 ?_
              simp only [Act.put, List.setIfInBounds_toArray, List.set_cons_zero, List.set_cons_succ]
              refine rskip 17 (some 83) rfl rfl (by kernel_rfl) (by kernel_rfl) (by kernel_rfl) (fun _ _ _ h => h) (by rfl) hHeld2 ?_
              simp only [Act.put, List.setIfInBounds_toArray, List.set_cons_zero, List.set_cons_succ]
              refine rskip 18 (some 84) rfl rfl (by kernel_rfl) (by kernel_rfl) (by kernel_rfl) (fun _ _ _ h => h) (by rfl) hHeld2 ?_
              simp only [Act.put, List.setIfInBounds_toArray, List.set_cons_zero, List.set_cons_succ]
              refine rskip 19 (some 85) rfl rfl (by kernel_rfl) (by kernel_rfl) (by kernel_rfl) (fun _ _ _ h => h) (by rfl) hHeld2 ?_
              simp only [Act.put, List.setIfInBounds_toArray, List.set_cons_zero, List.set_cons_succ]
              refine rskip 20 (some 86) rfl rfl (by kernel_rfl) (by kernel_rfl) (by kernel_rfl) (fun _ _ _ h => h) (by rfl) hHeld2 ?_
              simp only [Act.put, List.setIfInBounds_toArray, List.set_cons_zero, List.set_cons_succ]
              refine rskip 21 (some 87) rfl rfl (by kernel_rfl) (by kernel_rfl) (by kernel_rfl) (fun _ _ _ h => h) (by rfl) hHeld2 ?_
              simp only [Act.put, List.setIfInBounds_toArray, List.set_cons_zero, List.set_cons_succ]
              refine rskip 22 (some 88) rfl rfl (by kernel_rfl) (by kernel_rfl) (by kernel_rfl) (fun _ _ _ h => h) (by rfl) hHeld2 ?_
              simp only [Act.put, List.setIfInBounds_toArray, List.set_cons_zero, List.set_cons_succ]
              refine rtake 23 (some 89) ?_ rfl rfl (by kernel_rfl) (by kernel_rfl) (by kernel_rfl) (fun _ _ _ h => h) (by rfl) (fun w' hw => ?_) hHeld2 ?_
              rotate_left 1
              · obtain ⟨c0, c1, c2, x0, x1, x2, x3, p0⟩ := hw.cells; go_simp; first | done | with_reducible rfl
              simp only [Act.put, List.setIfInBounds_toArray, List.set_cons_zero, List.set_cons_succ]
              refine rtake 24 (some 90) ?_ rfl rfl (by kernel_rfl) (by kernel_rfl) (by kernel_rfl) (fun _ _ _ h => h) (by rfl) (fun w' hw => ?_) hHeld2 ?_
              rotate_left 1
              · obtain ⟨c0, c1, c2, x0, x1, x2, x3, p0⟩ := hw.cells; go_simp; first | done | with_reducible rfl
              simp only [Act.put, List.setIfInBounds_toArray, List.set_cons_zero, List.set_cons_succ]
              refine rtake 25 (some 91) ?_ rfl rfl (by kernel_rfl) (by kernel_rfl) (by kernel_rfl) (fun _ _ _ h => h) (by rfl) (fun w' hw => ?_) hHeld2 ?_
              rotate_left 1
              · obtain ⟨c0, c1, c2, x0, x1, x2, x3, p0⟩ := hw.cells; go_simp; first | done | with_reducible rfl
              simp only [Act.put, List.setIfInBounds_toArray, List.set_cons_zero, List.set_cons_succ]
              refine rtake 26 (some 92) ?_ rfl rfl (by kernel_rfl) (by kernel_rfl) (by kernel_rfl) (fun _ _ _ h => h) (by rfl) (fun w' hw => ?_) hHeld2 ?_
              rotate_left 1
              · obtain ⟨c0, c1, c2, x0, x1, x2, x3, p0⟩ := hw.cells; go_simp; first | done | with_reducible rfl
              simp only [Act.put, List.setIfInBounds_toArray, List.set_cons_zero, List.set_cons_succ]
              refine rtake 27 (some 93) ?_ rfl rfl (by kernel_rfl) (by kernel_rfl) (by kernel_rfl) (fun _ _ _ h => h) (by rfl) (fun w' hw => ?_) hHeld2 ?_
              rotate_left 1
              · obtain ⟨c0, c1, c2, x0, x1, x2, x3, p0⟩ := hw.cells; go_simp; first | done | with_reducible rfl
              simp only [Act.put, List.setIfInBounds_toArray, List.set_cons_zero, List.set_cons_succ]
              refine rtake 28 (some 94) ?_ rfl rfl (by kernel_rfl) (by kernel_rfl) (by kernel_rfl) (fun _ _ _ h => h) (by rfl) (fun w' hw => ?_) hHeld2 ?_
              rotate_left 1
              · obtain ⟨c0, c1, c2, x0, x1, x2, x3, p0⟩ := hw.cells; go_simp; first | done | with_reducible rfl
              simp only [Act.put, List.setIfInBounds_toArray, List.set_cons_zero, List.set_cons_succ]
              refine wpAnyH_all (rs := [29]) (by kernel_rfl) (by simp) (AllReadyH.cons rfl (fun K hK => ?_) AllReadyH.nil)
              rw [if_pos (by rfl)]
              go_simp
              refine (hP.out _).mono ?_
              rintro e w3 ⟨rfl, hb3⟩
              go_wp2_with fail
              refine hK.out _ _ (hHeld2.below hb3) (fun hHeld3 => ?_)
              clear hK K hHeld2 hb3
              refine rtake 30 (some 96) (.int .i64 1) rfl rfl (by kernel_rfl) (by kernel_rfl) (by kernel_rfl) (fun _ _ _ h => h) (by rfl) (fun w' hw => ?_) hHeld3 ?_
              · have hl := kD.out w' hw.dirs; simp [execOp, Act.eval, hl, Result.andThen]
              simp only [Act.put, List.setIfInBounds_toArray, List.set_cons_zero, List.set_cons_succ]
              refine rtake 31 (some 97) ?_ rfl rfl (by kernel_rfl) (by kernel_rfl) (by kernel_rfl) (fun _ _ _ h => h) (by rfl) (fun w' hw => ?_) hHeld3 ?_
              rotate_left 1
              · obtain ⟨c0, c1, c2, x0, x1, x2, x3, p0⟩ := hw.cells; go_simp; first | done | with_reducible rfl
              simp only [Act.put, List.setIfInBounds_toArray, List.set_cons_zero, List.set_cons_succ]
              refine rtake 32 (some 98) ?_ rfl rfl (by kernel_rfl) (by kernel_rfl) (by kernel_rfl) (fun _ _ _ h => h) (by rfl) (fun w' hw => ?_) hHeld3 ?_
              rotate_left 1
              · obtain ⟨c0, c1, c2, x0, x1, x2, x3, p0⟩ := hw.cells; go_simp; first | done | with_reducible rfl
              simp only [Act.put, List.setIfInBounds_toArray, List.set_cons_zero, List.set_cons_succ]
              refine rtake 33 (some 99) ?_ rfl rfl (by kernel_rfl) (by kernel_rfl) (by kernel_rfl) (fun _ _ _ h => h) (by rfl) (fun w' hw => ?_) hHeld3 ?_
              rotate_left 1
              · obtain ⟨c0, c1, c2, x0, x1, x2, x3, p0⟩ := hw.cells; go_simp; first | done | with_reducible rfl
              simp only [Act.put, List.setIfInBounds_toArray, List.set_cons_zero, List.set_cons_succ]
              refine rtake 34 (some 100) ?_ rfl rfl (by kernel_rfl) (by kernel_rfl) (by kernel_rfl) (fun _ _ _ h => h) (by rfl) (fun w' hw => ?_) hHeld3 ?_
              rotate_left 1
              · obtain ⟨c0, c1, c2, x0, x1, x2, x3, p0⟩ := hw.cells; go_simp; first | done | with_reducible rfl
              simp only [Act.put, List.setIfInBounds_toArray, List.set_cons_zero, List.set_cons_succ]
              refine rtake 35 (some 101) ?_ rfl rfl (by kernel_rfl) (by kernel_rfl) (by kernel_rfl) (fun _ _ _ h => h) (by rfl) (fun w' hw => ?_) hHeld3 ?_
              rotate_left 1
              · obtain ⟨c0, c1, c2, x0, x1, x2, x3, p0⟩ := hw.cells; go_simp; first | done | with_reducible rfl
              simp only [Act.put, List.setIfInBounds_toArray, List.set_cons_zero, List.set_cons_succ]
              refine rtake 36 (some 102) ?_ rfl rfl (by kernel_rfl) (by kernel_rfl) (by kernel_rfl) (fun _ _ _ h => h) (by rfl) (fun w' hw => ?_) hHeld3 ?_
              rotate_left 1
              · obtain ⟨c0, c1, c2, x0, x1, x2, x3, p0⟩ := hw.cells; go_simp; first | done | with_reducible rfl
              simp only [Act.put, List.setIfInBounds_toArray, List.set_cons_zero, List.set_cons_succ]
              refine rtake 37 (some 103) ?_ rfl rfl (by kernel_rfl) (by kernel_rfl) (by kernel_rfl) (fun _ _ _ h => h) (by rfl) (fun w' hw => ?_) hHeld3 ?_
              rotate_left 1
              · obtain ⟨c0, c1, c2, x0, x1, x2, x3, p0⟩ := hw.cells; go_simp; first | done | with_reducible rfl
              simp only [Act.put, List.setIfInBounds_toArray, List.set_cons_zero, List.set_cons_succ]
              refine rtake 38 (some 104) ?_ rfl rfl (by kernel_rfl) (by kernel_rfl) (by kernel_rfl) (fun _ _ _ h => h) (by rfl) (fun w' hw => ?_) hHeld3 ?_
              rotate_left 1
              · obtain ⟨c0, c1, c2, x0, x1, x2, x3, p0⟩ := hw.cells; go_simp; first | done | with_reducible rfl
              simp only [Act.put, List.setIfInBounds_toArray, List.set_cons_zero, List.set_cons_succ]
              refine rtake 39 (some 105) ?_ rfl rfl (by kernel_rfl) (by kernel_rfl) (by kernel_rfl) (fun _ _ _ h => h) (by rfl) (fun w' hw => ?_) hHeld3 ?_
              rotate_left 1
              · obtain ⟨c0, c1, c2, x0, x1, x2, x3, p0⟩ := hw.cells; go_simp; first | done | with_reducible rfl
              simp only [Act.put, List.setIfInBounds_toArray, List.set_cons_zero, List.set_cons_succ]
              refine rtake 40 (some 106) ?_ rfl rfl (by kernel_rfl) (by kernel_rfl) (by kernel_rfl) (fun _ _ _ h => h) (by rfl) (fun w' hw => ?_) hHeld3 ?_
              rotate_left 1
              · obtain ⟨c0, c1, c2, x0, x1, x2, x3, p0⟩ := hw.cells; go_simp; first | done | with_reducible rfl
              simp only [Act.put, List.setIfInBounds_toArray, List.set_cons_zero, List.set_cons_succ]
              refine rtake 41 (some 107) ?_ rfl rfl (by kernel_rfl) (by kernel_rfl) (by kernel_rfl) (fun _ _ _ h => h) (by rfl) (fun w' hw => ?_) hHeld3 ?_
              rotate_left 1
              · obtain ⟨c0, c1, c2, x0, x1, x2, x3, p0⟩ := hw.cells; go_simp; first | done | with_reducible rfl
              simp only [Act.put, List.setIfInBounds_toArray, List.set_cons_zero, List.set_cons_succ]
              refine rtake 42 (some 108) ?_ rfl rfl (by kernel_rfl) (by kernel_rfl) (by kernel_rfl) (fun _ _ _ h => h) (by rfl) (fun w' hw => ?_) hHeld3 ?_
              rotate_left 1
              · obtain ⟨c0, c1, c2, x0, x1, x2, x3, p0⟩ := hw.cells; go_simp; first | done | with_reducible rfl
              simp only [Act.put, List.setIfInBounds_toArray, List.set_cons_zero, List.set_cons_succ]
              refine rtake 43 (some 109) ?_ rfl rfl (by kernel_rfl) (by kernel_rfl) (by kernel_rfl) (fun _ _ _ h => h) (by rfl) (fun w' hw => ?_) hHeld3 ?_
              rotate_left 1
              · obtain ⟨c0, c1, c2, x0, x1, x2, x3, p0⟩ := hw.cells; go_simp; first | done | with_reducible rfl
              simp only [Act.put, List.setIfInBounds_toArray, List.set_cons_zero, List.set_cons_succ]
              refine rtake 44 (some 110) ?_ rfl rfl (by kernel_rfl) (by kernel_rfl) (by kernel_rfl) (fun _ _ _ h => h) (by rfl) (fun w' hw => ?_) hHeld3 ?_
              rotate_left 1
              · obtain ⟨c0, c1, c2, x0, x1, x2, x3, p0⟩ := hw.cells; go_simp; first | done | with_reducible rfl
              simp only [Act.put, List.setIfInBounds_toArray, List.set_cons_zero, List.set_cons_succ]
              refine rtake 45 (some 111) ?_ rfl rfl (by kernel_rfl) (by kernel_rfl) (by kernel_rfl) (fun _ _ _ h => h) (by rfl) (fun w' hw => ?_) hHeld3 ?_
              rotate_left 1
              · obtain ⟨c0, c1, c2, x0, x1, x2, x3, p0⟩ := hw.cells; go_simp; first | done | with_reducible rfl
              simp only [Act.put, List.setIfInBounds_toArray, List.set_cons_zero, List.set_cons_succ]
              refine rtake 46 (some 112) ?_ rfl rfl (by kernel_rfl) (by kernel_rfl) (by kernel_rfl) (fun _ _ _ h => h) (by rfl) (fun w' hw => ?_) hHeld3 ?_
              rotate_left 1
              · obtain ⟨c0, c1, c2, x0, x1, x2, x3, p0⟩ := hw.cells; go_simp; first | done | with_reducible rfl
              simp only [Act.put, List.setIfInBounds_toArray, List.set_cons_zero, List.set_cons_succ]
              refine rtake 47 (some 113) ?_ rfl rfl (by kernel_rfl) (by kernel_rfl) (by kernel_rfl) (fun _ _ _ h => h) (by rfl) (fun w' hw => ?_) hHeld3 ?_
              rotate_left 1
              · obtain ⟨c0, c1, c2, x0, x1, x2, x3, p0⟩ := hw.cells; go_simp; first | done | with_reducible rfl
              simp only [Act.put, List.setIfInBounds_toArray, List.set_cons_zero, List.set_cons_succ]
              refine rtake 48 (some 114) ?_ rfl rfl (by kernel_rfl) (by kernel_rfl) (by kernel_rfl) (fun _ _ _ h => h) (by rfl) (fun w' hw => ?_) hHeld3 ?_
              rotate_left 1
              · obtain ⟨c0, c1, c2, x0, x1, x2, x3, p0⟩ := hw.cells; go_simp; first | done | with_reducible rfl
              simp only [Act.put, List.setIfInBounds_toArray, List.set_cons_zero, List.set_cons_succ]
              refine rtake 49 (some 115) ?_ rfl rfl (by kernel_rfl) (by kernel_rfl) (by kernel_rfl) (fun _ _ _ h => h) (by rfl) (fun w' hw => ?_) hHeld3 ?_
              rotate_left 1
              · obtain ⟨c0, c1, c2, x0, x1, x2, x3, p0⟩ := hw.cells; go_simp; first | done | with_reducible rfl
              simp only [Act.put, List.setIfInBounds_toArray, List.set_cons_zero, List.set_cons_succ]
              refine rtake 50 (some 116) ?_ rfl rfl (by kernel_rfl) (by kernel_rfl) (by kernel_rfl) (fun _ _ _ h => h) (by rfl) (fun w' hw => ?_) hHeld3 ?_
              rotate_left 1
              · obtain ⟨c0, c1, c2, x0, x1, x2, x3, p0⟩ := hw.cells; go_simp; first | done | with_reducible rfl
              simp only [Act.put, List.setIfInBounds_toArray, List.set_cons_zero, List.set_cons_succ]
              refine rtake 51 (some 117) ?_ rfl rfl (by kernel_rfl) (by kernel_rfl) (by kernel_rfl) (fun _ _ _ h => h) (by rfl) (fun w' hw => ?_) hHeld3 ?_
              rotate_left 1
              · obtain ⟨c0, c1, c2, x0, x1, x2, x3, p0⟩ := hw.cells; go_simp; first | done | with_reducible rfl
              simp only [Act.put, List.setIfInBounds_toArray, List.set_cons_zero, List.set_cons_succ]
              refine rtake 52 (some 118) ?_ rfl rfl (by kernel_rfl) (by kernel_rfl) (by kernel_rfl) (fun _ _ _ h => h) (by rfl) (fun w' hw => ?_) hHeld3 ?_
              rotate_left 1
              · obtain ⟨c0, c1, c2, x0, x1, x2, x3, p0⟩ := hw.cells; go_simp; first | done | with_reducible rfl
              simp only [Act.put, List.setIfInBounds_toArray, List.set_cons_zero, List.set_cons_succ]
              refine rtake 53 (some 119) ?_ rfl rfl (by kernel_rfl) (by kernel_rfl) (by kernel_rfl) (fun _ _ _ h => h) (by rfl) (fun w' hw => ?_) hHeld3 ?_
              rotate_left 1
              · obtain ⟨c0, c1, c2, x0, x1, x2, x3, p0⟩ := hw.cells; go_simp; first | done | with_reducible rfl
              simp only [Act.put, List.setIfInBounds_toArray, List.set_cons_zero, List.set_cons_succ]
              refine rtake 54 (some 120) ?_ rfl rfl (by kernel_rfl) (by kernel_rfl) (by kernel_rfl) (fun _ _ _ h => h) (by rfl) (fun w' hw => ?_) hHeld3 ?_
              rotate_left 1
              · obtain ⟨c0, c1, c2, x0, x1, x2, x3, p0⟩ := hw.cells; go_simp; first | done | with_reducible rfl
              simp only [Act.put, List.setIfInBounds_toArray, List.set_cons_zero, List.set_cons_succ]
              refine wpAnyH_done (by kernel_rfl) ?_ _
              have kBn := Lib.hid hHeld3.box
              have kDn := Lib.hid hHeld3.dirs
              obtain ⟨c0, c1, c2, x0, x1, x2, x3, p0⟩ := hHeld3.cells
              clear hHeld3 c0 c1 c2 x2 x3 p0
              go_wp2_with (at_mapUpdate; refine wpList_dirs (x := x) (pre := l.take 0) _ rfl _ _ _ rfl rfl (mk x.1) rfl rfl kDn.out kxd.out (mk_list _) kmax.out ktk.out ?_; intro w4 hD4 hg4 hs4; have kD4 := Lib.hid hD4; have kB4 := Lib.hid (kBn.out.store hg4 kdb.out); clear hD4 hg4 hs4)
              exact ⟨⟨0 + 1, by omega, by go_num, knext.out, kB4.out, by rw [e2]; exact kD4.out⟩, by simp [intOf]; omega⟩
            | false =>
              have kR := Lib.hid (show RHold w (.slice (some ⟨b, off, none⟩) l.length tc) clock room db (l.take 0) wr.heap.size (mk x.1) false x.2.time (.slice da x.2.data.length dc) ⟨b, off, none⟩ (some x.1) (wr.alloc (.cells #[.string (mk x.1), .bool false, .int .i64 x.2.time, .slice da x.2.data.length dc] 54 (0, 0))).drew from RHold.first kBk.out kDk.out hpl hpc)
              have e2 : l.take (0 + 1) = l.take 0 ++ [x] := take_more kx.out
              go_wp2
              refine wp_region_held_drew (by kernel_rfl) kR.out (fun hHeld => ?_)
              clear kR
              have d6 : decide (x.2.time < 0) = false := by simpa using v6
              have d7 : decide (clock < x.2.time) = false := by simpa using v7
              refine rtake 0 (some 66) ?_ rfl rfl (by kernel_rfl) (by kernel_rfl) (by kernel_rfl) (fun _ _ _ h => h) (by rfl) (fun w' hw => ?_) hHeld ?_
              rotate_left 1
              · obtain ⟨c0, c1, c2, x0, x1, x2, x3, p0⟩ := hw.cells; go_simp; first | done | with_reducible rfl
              simp only [Act.put, List.setIfInBounds_toArray, List.set_cons_zero, List.set_cons_succ]
              refine rtake 1 (some 67) ?_ rfl rfl (by kernel_rfl) (by kernel_rfl) (by kernel_rfl) (fun _ _ _ h => h) (by rfl) (fun w' hw => ?_) hHeld ?_
              rotate_left 1
              · obtain ⟨c0, c1, c2, x0, x1, x2, x3, p0⟩ := hw.cells; go_simp; first | done | with_reducible rfl
              simp only [Act.put, List.setIfInBounds_toArray, List.set_cons_zero, List.set_cons_succ]
              refine wpAnyH_all (rs := [2]) (by kernel_rfl) (by simp) (AllReadyH.cons rfl (fun K hK => ?_) AllReadyH.nil)
              rw [if_pos (by rfl)]
              go_simp
              refine (hV.out _).mono ?_
              rintro e w2 ⟨rfl, hb2⟩
              go_wp2_with fail
              refine hK.out _ _ (hHeld.below hb2) (fun hHeld2 => ?_)
              clear hK K hHeld hb2
              refine rtake 3 (some 69) ?_ rfl rfl (by kernel_rfl) (by kernel_rfl) (by kernel_rfl) (fun _ _ _ h => h) (by rfl) (fun w' hw => ?_) hHeld2 ?_
              rotate_left 1
              · obtain ⟨c0, c1, c2, x0, x1, x2, x3, p0⟩ := hw.cells; go_simp; first | done | with_reducible rfl
              simp only [Act.put, List.setIfInBounds_toArray, List.set_cons_zero, List.set_cons_succ]
              refine rtake 4 (some 70) ?_ rfl rfl (by kernel_rfl) (by kernel_rfl) (by kernel_rfl) (fun _ _ _ h => h) (by rfl) (fun w' hw => ?_) hHeld2 ?_
              rotate_left 1
              · obtain ⟨c0, c1, c2, x0, x1, x2, x3, p0⟩ := hw.cells; go_simp; first | done | with_reducible rfl
              simp only [Act.put, List.setIfInBounds_toArray, List.set_cons_zero, List.set_cons_succ]
              refine rtake 5 (some 71) ?_ rfl rfl (by kernel_rfl) (by kernel_rfl) (by kernel_rfl) (fun _ _ _ h => h) (by rfl) (fun w' hw => ?_) hHeld2 ?_
              rotate_left 1
              · obtain ⟨c0, c1, c2, x0, x1, x2, x3, p0⟩ := hw.cells; go_simp; first | done | with_reducible rfl
              simp only [Act.put, List.setIfInBounds_toArray, List.set_cons_zero, List.set_cons_succ]
              refine rtake 6 (some 72) ?_ rfl rfl (by kernel_rfl) (by kernel_rfl) (by kernel_rfl) (fun _ _ _ h => h) (by rfl) (fun w' hw => ?_) hHeld2 ?_
              rotate_left 1
              · obtain ⟨c0, c1, c2, x0, x1, x2, x3, p0⟩ := hw.cells; go_simp; first | done | with_reducible rfl
              simp only [Act.put, List.setIfInBounds_toArray, List.set_cons_zero, List.set_cons_succ]
              refine rtake 7 (some 73) ?_ rfl rfl (by kernel_rfl) (by kernel_rfl) (by kernel_rfl) (fun _ _ _ h => h) (by rfl) (fun w' hw => ?_) hHeld2 ?_
              rotate_left 1
              · obtain ⟨c0, c1, c2, x0, x1, x2, x3, p0⟩ := hw.cells; go_simp; first | done | with_reducible rfl
              simp only [Act.put, List.setIfInBounds_toArray, List.set_cons_zero, List.set_cons_succ]
              refine rtake 8 (some 74) ?_ rfl rfl (by kernel_rfl) (by kernel_rfl) (by kernel_rfl) (fun _ _ _ h => h) (by rfl) (fun w' hw => ?_) hHeld2 ?_
              rotate_left 1
              · obtain ⟨c0, c1, c2, x0, x1, x2, x3, p0⟩ := hw.cells; go_simp; first | done | with_reducible rfl
              simp only [Act.put, List.setIfInBounds_toArray, List.set_cons_zero, List.set_cons_succ]
              refine rtake 9 (some 75) ?_ rfl rfl (by kernel_rfl) (by kernel_rfl) (by kernel_rfl) (fun _ _ _ h => h) (by rfl) (fun w' hw => ?_) hHeld2 ?_
              rotate_left 1
              · obtain ⟨c0, c1, c2, x0, x1, x2, x3, p0⟩ := hw.cells; go_simp; first | done | with_reducible rfl
              simp only [Act.put, List.setIfInBounds_toArray, List.set_cons_zero, List.set_cons_succ]
              refine rtake 10 (some 76) ?_ rfl rfl (by kernel_rfl) (by kernel_rfl) (by kernel_rfl) (fun _ _ _ h => h) (by rfl) (fun w' hw => ?_) hHeld2 ?_
              rotate_left 1
              · obtain ⟨c0, c1, c2, x0, x1, x2, x3, p0⟩ := hw.cells; go_simp; first | done | with_reducible rfl
              simp only [Act.put, List.setIfInBounds_toArray, List.set_cons_zero, List.set_cons_succ]
              refine rtake 11 (some 77) ?_ rfl rfl (by kernel_rfl) (by kernel_rfl) (by kernel_rfl) (fun _ _ _ h => h) (by rfl) (fun w' hw => ?_) hHeld2 ?_
              rotate_left 1
              · obtain ⟨c0, c1, c2, x0, x1, x2, x3, p0⟩ := hw.cells; go_simp; first | done | with_reducible rfl
              simp only [Act.put, List.setIfInBounds_toArray, List.set_cons_zero, List.set_cons_succ]
              refine rtake 12 (some 78) ?_ rfl rfl (by kernel_rfl) (by kernel_rfl) (by kernel_rfl) (fun _ _ _ h => h) (by rfl) (fun w' hw => ?_) hHeld2 ?_
              rotate_left 1
              · obtain ⟨c0, c1, c2, x0, x1, x2, x3, p0⟩ := hw.cells; go_simp; first | done | with_reducible rfl
              simp only [Act.put, List.setIfInBounds_toArray, List.set_cons_zero, List.set_cons_succ]
              refine rskip 13 (some 79) rfl rfl (by kernel_rfl) (by kernel_rfl) (by kernel_rfl) (fun _ _ _ h => h) (by rfl) hHeld2 ?_
              simp only [Act.put, List.setIfInBounds_toArray, List.set_cons_zero, List.set_cons_succ]
              refine rskip 14 (some 80) rfl rfl (by kernel_rfl) (by kernel_rfl) (by kernel_rfl) (fun _ _ _ h => h) (by rfl) hHeld2 ?_
              simp only [Act.put, List.setIfInBounds_toArray, List.set_cons_zero, List.set_cons_succ]
              refine rskip 15 (some 81) rfl rfl (by kernel_rfl) (by kernel_rfl) (by kernel_rfl) (fun _ _ _ h => h) (by rfl) hHeld2 ?_
              simp only [Act.put, List.setIfInBounds_toArray, List.set_cons_zero, List.set_cons_succ]
              refine rskip 16 (some 82) rfl rfl (by kernel_rfl) (by kernel_rfl) (by kernel_rfl) (fun _ _ _ h => h) (by rfl) hHeld2 ?_
              simp only [Act.put, List.setIfInBounds_toArray, List.set_cons_zero, List.set_cons_succ]
              refine rskip 17 (some 83) rfl rfl (by kernel_rfl) (by kernel_rfl) (by kernel_rfl) (fun _ _ _ h => h) (by rfl) hHeld2 ?_
              simp only [Act.put, List.setIfInBounds_toArray, List.set_cons_zero, List.set_cons_succ]
              refine rskip 18 (some 84) rfl rfl (by kernel_rfl) (by kernel_rfl) (by kernel_rfl) (fun _ _ _ h => h) (by rfl) hHeld2 ?_
              simp only [Act.put, List.setIfInBounds_toArray, List.set_cons_zero, List.set_cons_succ]
              refine rskip 19 (some 85) rfl rfl (by kernel_rfl) (by kernel_rfl) (by kernel_rfl) (fun _ _ _ h => h) (by rfl) hHeld2 ?_
              simp only [Act.put, List.setIfInBounds_toArray, List.set_cons_zero, List.set_cons_succ]
              refine rskip 20 (some 86) rfl rfl (by kernel_rfl) (by kernel_rfl) (by kernel_rfl) (fun _ _ _ h => h) (by rfl) hHeld2 ?_
              simp only [Act.put, List.setIfInBounds_toArray, List.set_cons_zero, List.set_cons_succ]
              refine rskip 21 (some 87) rfl rfl (by kernel_rfl) (by kernel_rfl) (by kernel_rfl) (fun _ _ _ h => h) (by rfl) hHeld2 ?_
              simp only [Act.put, List.setIfInBounds_toArray, List.set_cons_zero, List.set_cons_succ]
              refine rskip 22 (some 88) rfl rfl (by kernel_rfl) (by kernel_rfl) (by kernel_rfl) (fun _ _ _ h => h) (by rfl) hHeld2 ?_
              simp only [Act.put, List.setIfInBounds_toArray, List.set_cons_zero, List.set_cons_succ]
              refine rtake 23 (some 89) ?_ rfl rfl (by kernel_rfl) (by kernel_rfl) (by kernel_rfl) (fun _ _ _ h => h) (by rfl) (fun w' hw => ?_) hHeld2 ?_
              rotate_left 1
              · obtain ⟨c0, c1, c2, x0, x1, x2, x3, p0⟩ := hw.cells; go_simp; first | done | with_reducible rfl
              simp only [Act.put, List.setIfInBounds_toArray, List.set_cons_zero, List.set_cons_succ]
              refine rtake 24 (some 90) ?_ rfl rfl (by kernel_rfl) (by kernel_rfl) (by kernel_rfl) (fun _ _ _ h => h) (by rfl) (fun w' hw => ?_) hHeld2 ?_
              rotate_left 1
              · obtain ⟨c0, c1, c2, x0, x1, x2, x3, p0⟩ := hw.cells; go_simp; first | done | with_reducible rfl
              simp only [Act.put, List.setIfInBounds_toArray, List.set_cons_zero, List.set_cons_succ]
              refine rtake 25 (some 91) ?_ rfl rfl (by kernel_rfl) (by kernel_rfl) (by kernel_rfl) (fun _ _ _ h => h) (by rfl) (fun w' hw => ?_) hHeld2 ?_
              rotate_left 1
              · obtain ⟨c0, c1, c2, x0, x1, x2, x3, p0⟩ := hw.cells; go_simp; first | done | with_reducible rfl
              simp only [Act.put, List.setIfInBounds_toArray, List.set_cons_zero, List.set_cons_succ]
              refine rtake 26 (some 92) ?_ rfl rfl (by kernel_rfl) (by kernel_rfl) (by kernel_rfl) (fun _ _ _ h => h) (by rfl) (fun w' hw => ?_) hHeld2 ?_
              rotate_left 1
              · obtain ⟨c0, c1, c2, x0, x1, x2, x3, p0⟩ := hw.cells; go_simp; first | done | with_reducible rfl
              simp only [Act.put, List.setIfInBounds_toArray, List.set_cons_zero, List.set_cons_succ]
              refine rtake 27 (some 93) ?_ rfl rfl (by kernel_rfl) (by kernel_rfl) (by kernel_rfl) (fun _ _ _ h => h) (by rfl) (fun w' hw => ?_) hHeld2 ?_
              rotate_left 1
              · obtain ⟨c0, c1, c2, x0, x1, x2, x3, p0⟩ := hw.cells; go_simp; first | done | with_reducible rfl
              simp only [Act.put, List.setIfInBounds_toArray, List.set_cons_zero, List.set_cons_succ]
              refine rtake 28 (some 94) ?_ rfl rfl (by kernel_rfl) (by kernel_rfl) (by kernel_rfl) (fun _ _ _ h => h) (by rfl) (fun w' hw => ?_) hHeld2 ?_
              rotate_left 1
              · obtain ⟨c0, c1, c2, x0, x1, x2, x3, p0⟩ := hw.cells; go_simp; first | done | with_reducible rfl
              simp only [Act.put, List.setIfInBounds_toArray, List.set_cons_zero, List.set_cons_succ]
              refine wpAnyH_all (rs := [29]) (by kernel_rfl) (by simp) (AllReadyH.cons rfl (fun K hK => ?_) AllReadyH.nil)
              rw [if_pos (by rfl)]
              go_simp
              refine (hP.out _).mono ?_
              rintro e w3 ⟨rfl, hb3⟩
              go_wp2_with fail
              refine hK.out _ _ (hHeld2.below hb3) (fun hHeld3 => ?_)
              clear hK K hHeld2 hb3
              refine rtake 30 (some 96) (.int .i64 1) rfl rfl (by kernel_rfl) (by kernel_rfl) (by kernel_rfl) (fun _ _ _ h => h) (by rfl) (fun w' hw => ?_) hHeld3 ?_
              · have hl := kD.out w' hw.dirs; simp [execOp, Act.eval, hl, Result.andThen]
              simp only [Act.put, List.setIfInBounds_toArray, List.set_cons_zero, List.set_cons_succ]
              refine rtake 31 (some 97) ?_ rfl rfl (by kernel_rfl) (by kernel_rfl) (by kernel_rfl) (fun _ _ _ h => h) (by rfl) (fun w' hw => ?_) hHeld3 ?_
              rotate_left 1
              · obtain ⟨c0, c1, c2, x0, x1, x2, x3, p0⟩ := hw.cells; go_simp; first | done | with_reducible rfl
              simp only [Act.put, List.setIfInBounds_toArray, List.set_cons_zero, List.set_cons_succ]
              refine rtake 32 (some 98) ?_ rfl rfl (by kernel_rfl) (by kernel_rfl) (by kernel_rfl) (fun _ _ _ h => h) (by rfl) (fun w' hw => ?_) hHeld3 ?_
              rotate_left 1
              · obtain ⟨c0, c1, c2, x0, x1, x2, x3, p0⟩ := hw.cells; go_simp; first | done | with_reducible rfl
              simp only [Act.put, List.setIfInBounds_toArray, List.set_cons_zero, List.set_cons_succ]
              refine rtake 33 (some 99) ?_ rfl rfl (by kernel_rfl) (by kernel_rfl) (by kernel_rfl) (fun _ _ _ h => h) (by rfl) (fun w' hw => ?_) hHeld3 ?_
              rotate_left 1
              · obtain ⟨c0, c1, c2, x0, x1, x2, x3, p0⟩ := hw.cells; go_simp; first | done | with_reducible rfl
              simp only [Act.put, List.setIfInBounds_toArray, List.set_cons_zero, List.set_cons_succ]
              refine rtake 34 (some 100) ?_ rfl rfl (by kernel_rfl) (by kernel_rfl) (by kernel_rfl) (fun _ _ _ h => h) (by rfl) (fun w' hw => ?_) hHeld3 ?_
              rotate_left 1
              · obtain ⟨c0, c1, c2, x0, x1, x2, x3, p0⟩ := hw.cells; go_simp; first | done | with_reducible rfl
              simp only [Act.put, List.setIfInBounds_toArray, List.set_cons_zero, List.set_cons_succ]
              refine rtake 35 (some 101) ?_ rfl rfl (by kernel_rfl) (by kernel_rfl) (by kernel_rfl) (fun _ _ _ h => h) (by rfl) (fun w' hw => ?_) hHeld3 ?_
              rotate_left 1
              · obtain ⟨c0, c1, c2, x0, x1, x2, x3, p0⟩ := hw.cells; go_simp; first | done | with_reducible rfl
              simp only [Act.put, List.setIfInBounds_toArray, List.set_cons_zero, List.set_cons_succ]
              refine rtake 36 (some 102) ?_ rfl rfl (by kernel_rfl) (by kernel_rfl) (by kernel_rfl) (fun _ _ _ h => h) (by rfl) (fun w' hw => ?_) hHeld3 ?_
              rotate_left 1
              · obtain ⟨c0, c1, c2, x0, x1, x2, x3, p0⟩ := hw.cells; go_simp; first | done | with_reducible rfl
              simp only [Act.put, List.setIfInBounds_toArray, List.set_cons_zero, List.set_cons_succ]
              refine rskip 37 (some 103) rfl rfl (by kernel_rfl) (by kernel_rfl) (by kernel_rfl) (fun _ _ _ h => h) (by rfl) hHeld3 ?_
              simp only [Act.put, List.setIfInBounds_toArray, List.set_cons_zero, List.set_cons_succ]
              refine rskip 38 (some 104) rfl rfl (by kernel_rfl) (by kernel_rfl) (by kernel_rfl) (fun _ _ _ h => h) (by rfl) hHeld3 ?_
              simp only [Act.put, List.setIfInBounds_toArray, List.set_cons_zero, List.set_cons_succ]
              refine rskip 39 (some 105) rfl rfl (by kernel_rfl) (by kernel_rfl) (by kernel_rfl) (fun _ _ _ h => h) (by rfl) hHeld3 ?_
              simp only [Act.put, List.setIfInBounds_toArray, List.set_cons_zero, List.set_cons_succ]
              refine rskip 40 (some 106) rfl rfl (by kernel_rfl) (by kernel_rfl) (by kernel_rfl) (fun _ _ _ h => h) (by rfl) hHeld3 ?_
              simp only [Act.put, List.setIfInBounds_toArray, List.set_cons_zero, List.set_cons_succ]
              refine rtake 41 (some 107) ?_ rfl rfl (by kernel_rfl) (by kernel_rfl) (by kernel_rfl) (fun _ _ _ h => h) (by rfl) (fun w' hw => ?_) hHeld3 ?_
              rotate_left 1
              · obtain ⟨c0, c1, c2, x0, x1, x2, x3, p0⟩ := hw.cells; go_simp; first | done | with_reducible rfl
              simp only [Act.put, List.setIfInBounds_toArray, List.set_cons_zero, List.set_cons_succ]
              refine rtake 42 (some 108) ?_ rfl rfl (by kernel_rfl) (by kernel_rfl) (by kernel_rfl) (fun _ _ _ h => h) (by rfl) (fun w' hw => ?_) hHeld3 ?_
              rotate_left 1
              · obtain ⟨c0, c1, c2, x0, x1, x2, x3, p0⟩ := hw.cells; go_simp; first | done | with_reducible rfl
              simp only [Act.put, List.setIfInBounds_toArray, List.set_cons_zero, List.set_cons_succ]
              refine rtake 43 (some 109) ?_ rfl rfl (by kernel_rfl) (by kernel_rfl) (by kernel_rfl) (fun _ _ _ h => h) (by rfl) (fun w' hw => ?_) hHeld3 ?_
              rotate_left 1
              · obtain ⟨c0, c1, c2, x0, x1, x2, x3, p0⟩ := hw.cells; go_simp; first | done | with_reducible rfl
              simp only [Act.put, List.setIfInBounds_toArray, List.set_cons_zero, List.set_cons_succ]
              refine rtake 44 (some 110) ?_ rfl rfl (by kernel_rfl) (by kernel_rfl) (by kernel_rfl) (fun _ _ _ h => h) (by rfl) (fun w' hw => ?_) hHeld3 ?_
              rotate_left 1
              · obtain ⟨c0, c1, c2, x0, x1, x2, x3, p0⟩ := hw.cells; go_simp; first | done | with_reducible rfl
              simp only [Act.put, List.setIfInBounds_toArray, List.set_cons_zero, List.set_cons_succ]
              refine rtake 45 (some 111) ?_ rfl rfl (by kernel_rfl) (by kernel_rfl) (by kernel_rfl) (fun _ _ _ h => h) (by rfl) (fun w' hw => ?_) hHeld3 ?_
              rotate_left 1
              · obtain ⟨c0, c1, c2, x0, x1, x2, x3, p0⟩ := hw.cells; go_simp; first | done | with_reducible rfl
              simp only [Act.put, List.setIfInBounds_toArray, List.set_cons_zero, List.set_cons_succ]
              refine rtake 46 (some 112) ?_ rfl rfl (by kernel_rfl) (by kernel_rfl) (by kernel_rfl) (fun _ _ _ h => h) (by rfl) (fun w' hw => ?_) hHeld3 ?_
              rotate_left 1
              · obtain ⟨c0, c1, c2, x0, x1, x2, x3, p0⟩ := hw.cells; go_simp; first | done | with_reducible rfl
              simp only [Act.put, List.setIfInBounds_toArray, List.set_cons_zero, List.set_cons_succ]
              refine rtake 47 (some 113) ?_ rfl rfl (by kernel_rfl) (by kernel_rfl) (by kernel_rfl) (fun _ _ _ h => h) (by rfl) (fun w' hw => ?_) hHeld3 ?_
              rotate_left 1
              · obtain ⟨c0, c1, c2, x0, x1, x2, x3, p0⟩ := hw.cells; go_simp; first | done | with_reducible rfl
              simp only [Act.put, List.setIfInBounds_toArray, List.set_cons_zero, List.set_cons_succ]
              refine rtake 48 (some 114) ?_ rfl rfl (by kernel_rfl) (by kernel_rfl) (by kernel_rfl) (fun _ _ _ h => h) (by rfl) (fun w' hw => ?_) hHeld3 ?_
              rotate_left 1
              · obtain ⟨c0, c1, c2, x0, x1, x2, x3, p0⟩ := hw.cells; go_simp; first | done | with_reducible rfl
              simp only [Act.put, List.setIfInBounds_toArray, List.set_cons_zero, List.set_cons_succ]
              refine rtake 49 (some 115) ?_ rfl rfl (by kernel_rfl) (by kernel_rfl) (by kernel_rfl) (fun _ _ _ h => h) (by rfl) (fun w' hw => ?_) hHeld3 ?_
              rotate_left 1
              · obtain ⟨c0, c1, c2, x0, x1, x2, x3, p0⟩ := hw.cells; go_simp; first | done | with_reducible rfl
              simp only [Act.put, List.setIfInBounds_toArray, List.set_cons_zero, List.set_cons_succ]
              refine rtake 50 (some 116) ?_ rfl rfl (by kernel_rfl) (by kernel_rfl) (by kernel_rfl) (fun _ _ _ h => h) (by rfl) (fun w' hw => ?_) hHeld3 ?_
              rotate_left 1
              · obtain ⟨c0, c1, c2, x0, x1, x2, x3, p0⟩ := hw.cells; go_simp; first | done | with_reducible rfl
              simp only [Act.put, List.setIfInBounds_toArray, List.set_cons_zero, List.set_cons_succ]
              refine rtake 51 (some 117) ?_ rfl rfl (by kernel_rfl) (by kernel_rfl) (by kernel_rfl) (fun _ _ _ h => h) (by rfl) (fun w' hw => ?_) hHeld3 ?_
              rotate_left 1
              · obtain ⟨c0, c1, c2, x0, x1, x2, x3, p0⟩ := hw.cells; go_simp; first | done | with_reducible rfl
              simp only [Act.put, List.setIfInBounds_toArray, List.set_cons_zero, List.set_cons_succ]
              refine rtake 52 (some 118) ?_ rfl rfl (by kernel_rfl) (by kernel_rfl) (by kernel_rfl) (fun _ _ _ h => h) (by rfl) (fun w' hw => ?_) hHeld3 ?_
              rotate_left 1
              · obtain ⟨c0, c1, c2, x0, x1, x2, x3, p0⟩ := hw.cells; go_simp; first | done | with_reducible rfl
              simp only [Act.put, List.setIfInBounds_toArray, List.set_cons_zero, List.set_cons_succ]
              refine rtake 53 (some 119) ?_ rfl rfl (by kernel_rfl) (by kernel_rfl) (by kernel_rfl) (fun _ _ _ h => h) (by rfl) (fun w' hw => ?_) hHeld3 ?_
              rotate_left 1
              · obtain ⟨c0, c1, c2, x0, x1, x2, x3, p0⟩ := hw.cells; go_simp; first | done | with_reducible rfl
              simp only [Act.put, List.setIfInBounds_toArray, List.set_cons_zero, List.set_cons_succ]
              refine rtake 54 (some 120) ?_ rfl rfl (by kernel_rfl) (by kernel_rfl) (by kernel_rfl) (fun _ _ _ h => h) (by rfl) (fun w' hw => ?_) hHeld3 ?_
              rotate_left 1
              · obtain ⟨c0, c1, c2, x0, x1, x2, x3, p0⟩ := hw.cells; go_simp; first | done | with_reducible rfl
              simp only [Act.put, List.setIfInBounds_toArray, List.set_cons_zero, List.set_cons_succ]
              refine wpAnyH_done (by kernel_rfl) ?_ _
              have kBn := Lib.hid hHeld3.box
              have kDn := Lib.hid hHeld3.dirs
              obtain ⟨c0, c1, c2, x0, x1, x2, x3, p0⟩ := hHeld3.cells
              clear hHeld3 c0 c1 c2 x2 x3 p0
              go_wp2
              exact ⟨⟨0 + 1, by omega, by go_num, knext.out, kBn.out, by rw [e2]; exact kDn.out.skip kxd.out⟩, by simp [intOf]; omega⟩
        · have hkl : k = l.length := by omega
          subst hkl
          obtain ⟨hb0, hb1, hb2⟩ := kBk.out.cell
          have hbl := heap_lt kBk.out.1
          clear hokk hlt hk hb0 hb1
          by_cases g5 : room < (l.length : Int) + (bytesOf l : Int)
          · have kf := Lib.hid (kgood.out 15 (by rw [if_neg (by rw [kok.out]; simp), if_pos (by unfold wt; omega)]))
            go_wp2
            go_ret
            exact ⟨by rw [kf.out]; rfl, kBk.out.2⟩
          · have kf := Lib.hid (kgood.out 0 (by rw [if_neg (by rw [kok.out]; simp), if_neg (by unfold wt; omega)]))
            go_wp2
            go_ret
            exact ⟨by rw [kf.out]; rfl, kBk.out.2⟩
end
end Go.Proofs.YtnnepcodghfcmaaGreatDoor
