/-
  paths: all paths of a file system, rising. Conditions: at most 2^40 nodes.
  What Stat, Read and List answer, as plain functions; the last name of a path, in the program and in the reference. Conditions: paths of at most 2^40 bytes.
  Stat of what is there. Conditions: texts of at most 2^31 bytes.
-/
import Derived.Test.YtejofgdglpmlkaaGreatDoorM11
import Derived.Sort.OwnSorted
import Derived.Test.YtejofgdglpmlkaaGreatDoorM23
import Derived.Test.YtejofgdglpmlkaaGreatDoorM13
import Derived.Laws.ResultCell
import Derived.LaidEql
import Derived.Deep.MidRow
namespace Go.Proofs.YtejofgdglpmlkaaGreatDoor
open Go.RowKit

theorem rising_sort {st : St} (h : Rising st) {ss : List Bs} (hp : ss.Perm (st.map Prod.fst)) : ss.mergeSort (fun x y => decide (x ≤ y)) = st.map Prod.fst := by
  have tr : ∀ a b c : Bs, decide (a ≤ b) = true → decide (b ≤ c) = true → decide (a ≤ c) = true := fun a b c h1 h2 => by simp only [decide_eq_true_eq] at *; exact List.le_trans h1 h2
  have to : ∀ a b : Bs, (decide (a ≤ b) || decide (b ≤ a)) = true := fun a b => by simp only [Bool.or_eq_true, decide_eq_true_eq]; exact List.le_total a b
  refine List.Perm.eq_of_pairwise (le := fun a b => decide (a ≤ b) = true) (fun a b _ _ h1 h2 => ?_) (List.pairwise_mergeSort tr to ss) ?_ ((List.mergeSort_perm ss _).trans hp)
  · simp only [decide_eq_true_eq] at h1 h2
    exact List.le_antisymm h1 h2
  · refine List.pairwise_map.2 (h.imp fun {a b} hab => ?_)
    simp only [decide_eq_true_eq]
    exact List.not_lt.1 (fun h' => List.lt_irrefl _ (List.lt_trans hab h'))
theorem rising_nodup {st : St} (h : Rising st) : (st.map Prod.fst).Nodup := List.pairwise_map.2 (h.imp fun {_ _} hab e => by rw [e] at hab; exact List.lt_irrefl _ hab)
theorem mem_paths {st : St} {x : Bs} : x ∈ st.map Prod.fst ↔ (find st x).isSome = true := by
  constructor
  · intro hx
    cases hf : find st x with
    | some _ => rfl
    | none =>
      obtain ⟨y, hy, rfl⟩ := List.mem_map.1 hx
      exact absurd rfl (find_none.1 hf y hy)
  · intro hx
    obtain ⟨y, hy⟩ := Option.isSome_iff_exists.1 hx
    exact List.mem_map.2 ⟨_, find_mem hy, rfl⟩
/-- The paths, as a slice in memory. -/
def PathsAt (B : Nat) (w : World) (v : Value) (l : List Bs) : Prop :=
  ∃ a c, v = .slice a l.length c ∧ (0 < l.length → ∃ g, a = some ⟨g, 0, none⟩ ∧ B ≤ g ∧ g < w.heap.size ∧ ∀ (k : Nat) (x : Bs), l[k]? = some x → w.cell? ⟨g, k, none⟩ = some (.string (mk x)))
theorem PathsAt.of_loose {B : Nat} {w : World} {v : Value} {l : List Bs} (h : LooseS w B v l) : PathsAt B w v l := by
  have hc := fun k x hk => h.cells (k := k) (x := x) hk
  rcases h with ⟨rfl, rfl⟩ | ⟨g, cap, cur, rfl, hb, hg, hn, hm, hcs, ht⟩
  · exact ⟨none, 0, rfl, fun h => absurd h (Nat.lt_irrefl _)⟩
  · refine ⟨_, cap, rfl, fun _ => ⟨g, rfl, hb, heap_lt hg, fun k x hk => ?_⟩⟩
    obtain ⟨g', cap', e, -, -, hcell⟩ := hc k x hk
    injection e with e1 e2 e3
    injection e1 with e1; injection e1 with e1
    subst e1
    exact hcell
section
variable {f mb : Nat} {N : Bs → Nat} {S : Nat → Prop} {st : St} {clock room : Int} {w : World} {D : DataW Unit}
def PathInv (w : World) (f mb : Nat) (D : DataW Unit) (N : Bs → Nat) (S : Nat → Prop) (st : St) (clock room : Int) (lv : Value) (wr : World) : Prop :=
  ∃ (left : Lit → Bool) (cnt : Nat) (ss : List Bs), wr.ranges Tryz.prog 9 ptrElem mb w.heap.size (Maps.size D) D left cnt ∧ FsIn wr f mb N S st clock room ∧ Below w.heap.size w wr ∧ Collected D left ss ∧ LooseS wr (w.heap.size + 1) lv ss ∧ ss.length + cnt ≤ st.length
theorem PathInv.start {w0 : World} (h : FsIn w f mb N S st clock room) (hsz : Maps.size D = st.length) (hrg : w0.ranges Tryz.prog 9 ptrElem mb w.heap.size (Maps.size D) D (Maps.has D) (Maps.size D)) (hg : w.grownBy w0 none) : PathInv w f mb D N S st clock room (.slice none 0 0) w0 :=
  ⟨_, _, [], hrg, h.of_heap fun k hk => hg.block k (h.lt k hk) (by simp), ⟨hg.os, hg.tape, hg.output, hg.size, fun k hk => hg.block k hk (by simp)⟩, Collected.start D, LooseS.nil _ _, by simp [hsz]⟩
/-- What the sort makes of the list. -/
theorem sort_paths {v : Value} {ss : List Bs} {wr : World} {B : Nat} (h : LooseS wr B v ss) (hB : w.heap.size ≤ B) (hb : Below w.heap.size w wr) (hl : ss.length ≤ 1099511627776) :
    Calls Tryz.prog 58 #[v] wr fun e w' => e = .returned (.tuple #[]) ∧ PathsAt B w' v (ss.mergeSort fun x y => decide (x ≤ y)) ∧ Below w.heap.size w w' := by
  rcases h with ⟨rfl, rfl⟩ | ⟨g, cap, cur, rfl, hbg, hg, hn, hm, hcs, ht⟩
  · refine (Tryz.slices_Sort_string_none none 0 wr).mono ?_
    rintro e w' ⟨rfl, rfl⟩
    exact ⟨rfl, ⟨none, 0, by simp, fun h => absurd h (by simp)⟩, hb⟩
  · refine (Tryz.slices_Sort_string g 0 cap ss wr (holds_of_block hg ht) (heap_lt hg) (by omega)).mono ?_
    rintro e w' ⟨rfl, n, os, rfl⟩
    have hl2 : (ss.mergeSort fun x y => decide (x ≤ y)).length = ss.length := List.length_mergeSort _
    have hgr := grownBy_sorted (w := wr) (g := g) (n := n) (os := os) (ss.mergeSort fun x y => decide (x ≤ y)).toArray
    refine ⟨rfl, ⟨_, cap, by rw [hl2], fun _ => ⟨g, rfl, hbg, Nat.lt_of_lt_of_le (heap_lt hg) hgr.size, fun k x hk => ?_⟩⟩, ⟨hgr.os.trans hb.os, hgr.tape.trans hb.tape, hgr.output.trans hb.output, Nat.le_trans hb.size hgr.size, fun k hk => (hgr.block k (Nat.lt_of_lt_of_le hk hb.size) (fun e => by injection e with e; omega)).trans (hb.block k hk)⟩⟩
    rw [cell_of_row _ g k _ 9 (0, 0) (heap_sorted _ hg)]
    have hkl := (List.getElem?_eq_some_iff.1 hk).1
    have h1 := take_putCells cur (ss.mergeSort fun x y => decide (x ≤ y)) (by omega)
    have h2 : ((ss.mergeSort fun x y => decide (x ≤ y)).map encStr)[k]? = some (.string (mk x)) := by rw [List.getElem?_map, hk]; rfl
    rw [← h1, List.getElem?_take_of_lt hkl] at h2
    simpa using h2
theorem PathsAt.sorted {B : Nat} {w3 : World} {v : Value} {ss : List Bs} {left : Lit → Bool} (h : PathsAt (B + 1) w3 v (ss.mergeSort fun x y => decide (x ≤ y))) (hF : FsIn w f mb N S st clock room) (hown : w.ownsMap Tryz.prog 9 ptrElem mb (Maps.size D) D)
    (hD : ∀ x : Bs, x.length ≤ maxLen → Maps.has D (.string x) = (find st x).isSome) (hC : Collected D left ss) (hl : ∀ kl, left kl = false) : PathsAt B w3 v (st.map Prod.fst) := by
  have hp : ss.Perm (st.map Prod.fst) := by
    have h1 := hC.perm hown lawS Tryz.underlying9 hl
    refine (List.perm_ext_iff_of_nodup hC.1 (rising_nodup hF.rising)).2 fun x => ?_
    rw [mem_paths]
    constructor
    · intro hx
      rw [← hD x (strKeys_le hown Tryz.underlying9 x (h1.mem_iff.1 hx))]
      exact ((hC.2 x).1 hx).1
    · intro hx
      obtain ⟨y, hy⟩ := Option.isSome_iff_exists.1 hx
      have := (hF.node x y hy).1
      exact (hC.2 x).2 ⟨by rw [hD x (by unfold maxLen; omega)]; exact hx, hl _⟩
  rw [rising_sort hF.rising hp] at h
  obtain ⟨a, c, e, h0⟩ := h
  refine ⟨a, c, e, fun hlen => ?_⟩
  obtain ⟨g, e1, e2, e3⟩ := h0 hlen
  exact ⟨g, e1, by omega, e3⟩
theorem PathInv.step {lv lv' : Value} {ss : List Bs} {wr w2 w3 : World} {o : Obj} {left : Lit → Bool} {cnt : Nat} (hF : FsIn wr f mb N S st clock room) (hB : Below w.heap.size w wr) (hS : ∀ k, S k → k < w.heap.size) (hmb : mb < w.heap.size) (hlv : ∀ g, lv.ownBlock = some g → w.heap.size + 1 ≤ g)
    (hrg : w2.ranges Tryz.prog 9 ptrElem mb w.heap.size (Maps.size D) D left cnt) (hg2 : wr.grownBy w2 (some w.heap.size)) (hg3 : (w2.alloc o).grownBy w3 lv.ownBlock) (hC : Collected D left ss) (hL : LooseS w3 (w.heap.size + 1) lv' ss) (hl : ss.length + cnt ≤ st.length) :
    PathInv w f mb D N S st clock room lv' w3 ∧ w3.rangeLeft mb w.heap.size = cnt := by
  have hr3 : w3.ranges Tryz.prog 9 ptrElem mb w.heap.size (Maps.size D) D left cnt := (hrg.alloc o).kept hg3 (fun e => by have := hlv mb e.symm; omega) (fun e => by have := hlv _ e.symm; omega)
  have far : ∀ k, k < wr.heap.size → k < w.heap.size → w3.heap[k]? = wr.heap[k]? := fun k hk hk' => by
    have h2 := hg2.size
    rw [hg3.block k (by simp; omega) (fun e => by have := hlv k e.symm; omega), heap_alloc_old _ _ (by omega), hg2.block k hk (fun e => by injection e with e; omega)]
  refine ⟨⟨left, cnt, ss, hr3, hF.of_heap fun k hk => far k (hF.lt k hk) (hS k hk), ?_, hC, hL, hl⟩, hr3.left_eq⟩
  have h2 := hg2.size
  have h3 := hg3.size
  have h1 := hB.size
  exact ⟨(hg3.os.trans hg2.os).trans hB.os, (hg3.tape.trans hg2.tape).trans hB.tape, (hg3.output.trans hg2.output).trans hB.output, by simp at h3; omega, fun k hk => (far k (by omega) hk).trans (hB.block k hk)⟩
theorem hC2 {left : Lit → Bool} {ss : List Bs} {x : Bs} {y : DataW Unit} (hC : Collected D left ss) (hlk : left (.string x) = true) (hat : ∀ zd, D.atKey (.string x) zd = y) : Collected D (fun z => left z && !z.sameKey (.string x)) (ss ++ [x]) := hC.step hlk hat
set_option maxRecDepth 100000 in
set_option maxHeartbeats 4000000 in
theorem paths_calls (h : FsIn w f mb N S st clock room) (hl : st.length ≤ 1099511627775) : Calls Tryz.prog 33 #[.pointer (some ⟨f, 0, none⟩)] w fun e w' => ∃ v, e = .returned v ∧ PathsAt w.heap.size w' v (st.map Prod.fst) ∧ Below w.heap.size w w' := by
  have kh := Lib.hid h
  have hc0 := (cells4 h.cells).1
  obtain ⟨D, hown, hsz, hD⟩ := h.map
  have kD := Lib.hid (fun x hx => (hD x hx).2)
  have kown := Lib.hid hown
  have ksz := Lib.hid hsz
  have hfl := h.lt f h.sf
  clear hD hsz hown h
  go_enter Tryz.func33, Tryz.ntmps33
  go_wp2_with (at_range; refine wpList_range_own _ rfl _ 56 rfl 9 59 lawS Tryz.underlying56 ptrElem mb (Maps.size D) D rfl kown.out ?_; intro w0 hrg0 hg0 hs0; have kI0 := Lib.hid (PathInv.start kh.out ksz.out hrg0 hg0); clear hrg0 hg0 hs0)
  go_frame
  go_loopw [3, 4] (fun lv _ wr => PathInv w f mb D N S st clock room lv wr) (fun _ _ wr => wr.rangeLeft mb w.heap.size)
  case atStart => exact kI0.out
  case round =>
    have kI := Lib.hid hrel
    clear hrel
    obtain ⟨left, cnt, ss, hrg, hF, hB, hC, hL, hcnt⟩ := kI.out
    have krg := Lib.hid hrg
    have kF := Lib.hid hF
    have kB := Lib.hid hB
    have kC := Lib.hid hC
    have kL := Lib.hid hL
    clear hrg hF hB hC hL
    go_wp2_with (at_next; refine wpList_next_ranges _ rfl _ rfl 9 lawS ptrElem Go.Proofs.encStr mkP inv_str inv_ptr mb w.heap.size (Maps.size D) D left cnt rfl krg.out ?_ ?_)
    · intro _ hl0
      have kl0 := Lib.hid hl0
      clear hl0
      have hSo := Lib.hid (sort_paths (w := w) kL.out (Nat.le_succ _) kB.out (by omega))
      go_wp2_with (go_at_call 58; refine hSo.out.mono ?_; rintro e w3 ⟨rfl, hP, hb3⟩; have kP := Lib.hid hP; have kb3 := Lib.hid hb3; clear hP hb3)
      go_ret
      exact ⟨_, rfl, kP.out.sorted kh.out kown.out kD.out kC.out kl0.out, kb3.out⟩
    · intro x c kl yd yp w2 cnt2 hkey hlk hv hat hrg2 hlt hg2 hs2 hen
      clear hs2
      obtain ⟨x', ex, rfl, hxl⟩ := Maps.keyOf_str Tryz.underlying9 hkey
      obtain rfl : x = x' := encStr_inj ex
      have kst := Lib.hid (hC2 kC.out hlk hat)
      have krg2 := Lib.hid hrg2
      have kg2 := Lib.hid hg2
      have kL2 := Lib.hid (kL.out.grown hg2 (fun g e => by injection e with e; omega))
      have hlt2 := hlt
      have hx2 : w.heap.size < w2.heap.size := by have := hg2.size; have := krg.out.lt; omega
      have hcell : (w2.alloc (.cells #[Go.Proofs.encStr x] 9)).cell? ⟨w2.heap.size, 0, none⟩ = some (.string (mk x)) := (one_cell (heap_alloc_new _ _)).1
      have kcell := Lib.hid hcell
      have kLa := Lib.hid (kL2.out.grown (row := none) (World.grownBy_alloc _ (.cells #[Go.Proofs.encStr x] 9) _) (fun _ e => by cases e))
      clear ex hkey hv hlk hat hrg2 hg2 hcell
      go_wp2_with (at_builtin; refine wpList_append_loose _ rfl _ _ rfl (w.heap.size + 1) u3 rfl ss kLa.out ⟨w2.heap.size, 0, none⟩ 1 (mk x) rfl kcell.out (addr_lit _ _ _) (by omega) (by simp; omega) ?_; intro g cap w3 hL3 hg3 hat3; have kL3 := Lib.hid hL3; have kg3 := Lib.hid hg3; clear hL3 hg3 hat3)
      have hstep := PathInv.step kF.out kB.out kh.out.lt (kh.out.lt mb kh.out.sm) (fun g e => (kL.out.lt g e).1) krg2.out kg2.out kg3.out kst.out (by have := kL3.out; rwa [mk_list] at this) (by simp; omega)
      exact ⟨hstep.1, by rw [hstep.2, krg.out.left_eq]; exact hlt2⟩
end
end Go.Proofs.YtejofgdglpmlkaaGreatDoor
namespace Go.Proofs.YtejofgdglpmlkaaGreatDoor
open Go.RowKit

def statP (st : St) (q : Bs) : Int × Int × Int := match lookQ st q with
  | .err _ => (0, 0, 0)
  | .none => (0, 0, 0)
  | .root => (2, 0, 0)
  | .node n => if n.dir = true then (2, n.time, 0) else (1, n.time, n.data.length)
def readP (st : St) (q : Bs) : Bs × Int := match lookQ st q with
  | .err e => ([], e)
  | .none => ([], 10)
  | .root => ([], 12)
  | .node n => if n.dir = true then ([], 12) else (n.data, 0)
/-- The names of those that have this parent, of a list of paths. -/
def subs (q : Bs) (ss : List Bs) : List Bs := (ss.filter fun x => decide (parentP x = q)).map lastP
def kids (st : St) (q : Bs) : List Bs := subs q (st.map Prod.fst)
def listP (st : St) (q : Bs) : List Bs × Int := match lookQ st q with
  | .err e => ([], e)
  | .none => ([], 10)
  | .root => (kids st q, 0)
  | .node n => if n.dir = true then (kids st q, 0) else ([], 11)
theorem lt_cancel : ∀ (a b c : Bs), a ++ b < a ++ c → b < c
  | [], _, _, h => h
  | x :: a, b, c, h => by
    rw [List.cons_append, List.cons_append, List.cons_lt_cons_iff] at h
    rcases h with h | ⟨_, h⟩
    · exact absurd h (UInt8.lt_irrefl _)
    · exact lt_cancel a b c h
theorem last_lt {p r : Bs} (hp : validB p = true) (hp0 : p ≠ []) (hr : validB r = true) (hr0 : r ≠ []) (he : parentP p = parentP r) (h : p < r) : lastP p < lastP r := by
  rcases parent_split hp hp0 with ⟨a1, a2, _⟩ | ⟨a1, a2, _⟩
  · rcases parent_split hr hr0 with ⟨b1, b2, _⟩ | ⟨b1, b2, _⟩
    · rw [a2, b2]; exact h
    · exact absurd (he.symm.trans a1) b1
  · rcases parent_split hr hr0 with ⟨b1, b2, _⟩ | ⟨b1, b2, _⟩
    · exact absurd (he.trans b1) a1
    · rw [a2, b2, ← he] at h
      have := lt_cancel _ _ _ h
      rw [List.cons_lt_cons_iff] at this
      rcases this with h | ⟨_, h⟩
      · exact absurd h (UInt8.lt_irrefl _)
      · exact h
theorem subs_rising (q : Bs) : ∀ (ss : List Bs), ss.Pairwise (· < ·) → (∀ x ∈ ss, validB x = true ∧ x ≠ []) → (subs q ss).Pairwise (· < ·) := fun ss hr hv => by
  unfold subs
  rw [List.pairwise_map]
  have h1 : (ss.filter fun x => decide (parentP x = q)).Pairwise (· < ·) := List.Pairwise.filter _ hr
  refine h1.imp_of_mem (fun {a b} ha hb hab => ?_)
  have ha' := List.mem_filter.1 ha
  have hb' := List.mem_filter.1 hb
  exact last_lt (hv a ha'.1).1 (hv a ha'.1).2 (hv b hb'.1).1 (hv b hb'.1).2 ((of_decide_eq_true ha'.2).trans (of_decide_eq_true hb'.2).symm) hab
theorem kids_rising {st : St} {clock room : Int} (hw : Wf st clock room) (q : Bs) : (kids st q).Pairwise (· < ·) := by
  refine subs_rising q _ (List.pairwise_map.2 hw.rising) (fun x hx => ?_)
  obtain ⟨y, hy, rfl⟩ := List.mem_map.1 hx
  exact ⟨(hw.node y.1 y.2 (hw.mem hy)).1, (hw.node y.1 y.2 (hw.mem hy)).2.1⟩
theorem sort_rising {l ss : List Bs} (h : l.Pairwise (· < ·)) (hp : ss.Perm l) : ss.mergeSort (fun x y => decide (x ≤ y)) = l := by
  have tr : ∀ a b c : Bs, decide (a ≤ b) = true → decide (b ≤ c) = true → decide (a ≤ c) = true := fun a b c h1 h2 => by simp only [decide_eq_true_eq] at *; exact List.le_trans h1 h2
  have to : ∀ a b : Bs, (decide (a ≤ b) || decide (b ≤ a)) = true := fun a b => by simp only [Bool.or_eq_true, decide_eq_true_eq]; exact List.le_total a b
  refine List.Perm.eq_of_pairwise (le := fun a b => decide (a ≤ b) = true) (fun a b _ _ h1 h2 => ?_) (List.pairwise_mergeSort tr to ss) ?_ ((List.mergeSort_perm ss _).trans hp)
  · simp only [decide_eq_true_eq] at h1 h2
    exact List.le_antisymm h1 h2
  · refine h.imp fun {a b} hab => ?_
    simp only [decide_eq_true_eq]
    exact List.not_lt.1 (fun h' => List.lt_irrefl _ (List.lt_trans hab h'))
theorem subs_perm (q : Bs) {ss tt : List Bs} (h : ss.Perm tt) : (subs q ss).Perm (subs q tt) := (h.filter _).map _
theorem subs_snoc (q : Bs) (ss : List Bs) (x : Bs) : subs q (ss ++ [x]) = if parentP x = q then subs q ss ++ [lastP x] else subs q ss := by
  unfold subs
  rw [List.filter_append, List.map_append]
  by_cases h : parentP x = q
  · rw [if_pos h]; simp [h]
  · rw [if_neg h]; simp [h]
theorem subs_len (q : Bs) (ss : List Bs) : (subs q ss).length ≤ ss.length := by
  unfold subs
  rw [List.length_map]
  exact List.length_filter_le _ _
theorem last_len (p : Bs) : (lastP p).length ≤ p.length := by
  rw [← (clean_parts p).2, List.length_drop]
  have := clean_len p
  omega
theorem extract_drop {q : Bs} {k : Nat} : (mk q).extract k (mk q).size = mk (q.drop k) := ba_ext (by rw [Go.Lib.extract_data, mk_list, mk_list, mk_size]; exact List.take_of_length_le (Nat.le_of_eq (by rw [List.length_drop])))
theorem last_calls (p : ByteArray) (w : World) (hp : p.size ≤ 1099511627775) :
    Calls Tryz.prog 66 #[.string p] w fun e w' => e = .returned (.string (mk (lastP p.data.toList))) ∧ Below w.heap.size w w' := by
  have hcl := clean_len p.data.toList
  have hb := lastSl_lt (clean p.data.toList)
  have hC := Lib.hid (fun w0 => clean_calls p w0 hp)
  have hpar := (clean_parts p.data.toList).2
  rw [← hpar]
  clear hpar
  generalize clean p.data.toList = q at *
  have hqs : q.length ≤ 1099511627775 := by rw [← Go.Lib.size_eq] at hcl; omega
  have hS := Lib.hid (fun w0 => slash_calls (mk q) w0 (by rw [mk_size]; exact hqs))
  rw [mk_list] at hS
  have hmk := mk_size q
  obtain ⟨k, hk⟩ : ∃ k : Nat, lastSl q + 1 = k := ⟨(lastSl q + 1).toNat, by omega⟩
  have hwk : IntKind.i64.wrap (lastSl q + 1) = (k : Int) := by rw [IntWalk.i64_in _ (by omega)]; exact hk
  have hkn : (lastSl q + 1).toNat = k := by omega
  rw [hkn]
  generalize hQ : mk q = Q at *
  have kq := Lib.hid hQ
  have hqQ : Q.size ≤ 1099511627775 := by omega
  have hkQ : k ≤ Q.size := by omega
  generalize lastSl q = n at *
  have hkz : (0 : Int) ≤ (k : Int) := by omega
  have hkz2 : (k : Int) ≤ (Q.size : Int) := by omega
  clear hQ hcl hqs hmk hb hk hkn
  go_enter Tryz.func66, Tryz.ntmps66
  go_wp2_with (go_at_call 59; refine (hC.out _).mono ?_; rintro e w1 ⟨rfl, hb⟩; have kb := Lib.hid hb; clear hb)
  go_wp2_with (go_at_call 73; refine (hS.out _).mono ?_; rintro e w2 ⟨rfl, rfl⟩)
  go_ret
  refine ⟨?_, kb.out⟩
  rw [← extract_drop, kq.out]; rfl
set_option maxRecDepth 100000 in
set_option maxHeartbeats 1000000 in
theorem refTail_calls (p : ByteArray) (w : World) (hp : p.size ≤ 1099511627775) :
    Calls Tryz.prog 67 #[.string p] w fun e w' => e = .returned (.string (mk (lastP p.data.toList))) ∧ Below w.heap.size w w' := by
  have hcl := clean_len p.data.toList
  rw [← Go.Lib.size_eq] at hcl
  have hC := Lib.hid (refClean_calls p w hp)
  have hrn := rnames_clean p.data.toList
  have kpar := Lib.hid (show (cnames p.data.toList).getLastD [] = lastP p.data.toList from rfl)
  generalize clean p.data.toList = q at *
  have hN := Lib.hid (fun w => refNames_calls (mk q) w (by rw [mk_size]; omega))
  have htot := rnames_tot q
  rw [mk_list, hrn] at hN
  rw [hrn] at htot
  generalize cnames p.data.toList = L at *
  have hLl := tot_len L
  by_cases h0 : L = []
  · subst h0
    go_enter Tryz.func67, Tryz.ntmps67
    go_wp2_with (first | (go_at_call 54; refine (hC.out).mono ?_; rintro e w1 ⟨rfl, hb⟩; have kb1 := Lib.hid hb; clear hb) | (go_at_call 55; refine (hN.out _).mono ?_; rintro e w2 ⟨v, rfl, hl, hb⟩; obtain ⟨na, nc, hnv⟩ := hl.form; subst hnv; have kl := Lib.hid hl; have kb := Lib.hid hb; clear hl hb))
    go_ret
    exact ⟨by rw [← kpar.out]; rfl, kb1.out.trans (kb.out.mono kb1.out.size)⟩
  · have h1 : 0 < L.length := List.length_pos_iff.2 h0
    have z1 : ((L.length : Int) == 0) = false := by rw [beq_eq_false_iff_ne]; omega
    obtain ⟨m, hm⟩ : ∃ m, L.length = m + 1 := ⟨L.length - 1, by omega⟩
    have hwm : IntKind.i64.wrap ((L.length : Int) - 1) = (m : Int) := by rw [IntWalk.i64_in _ (by omega)]; omega
    have z2 : (0 : Int) ≤ (m : Int) := by omega
    have z3 : (m : Int) < (L.length : Int) := by omega
    obtain ⟨x, hx⟩ : ∃ x, L[m]? = some x := ⟨_, List.getElem?_eq_getElem (by omega)⟩
    have klast := Lib.hid (show L.getLastD [] = x by rw [List.getLastD_eq_getLast?, List.getLast?_eq_getElem?, show L.length - 1 = m by omega, hx]; rfl)
    have kx := Lib.hid hx
    clear h0 hx hm
    go_enter Tryz.func67, Tryz.ntmps67
    go_wp2_with (first | (go_at_call 54; refine (hC.out).mono ?_; rintro e w1 ⟨rfl, hb⟩; have kb1 := Lib.hid hb; clear hb) | (go_at_call 55; refine (hN.out _).mono ?_; rintro e w2 ⟨v, rfl, hl, hb⟩; obtain ⟨g, cap, rfl, hgb, hgl, hcell⟩ := hl.cells kx.out; have kb := Lib.hid hb; clear hb hl hgb))
    go_ret
    exact ⟨by rw [← kpar.out, klast.out]; rfl, kb1.out.trans (kb.out.mono kb1.out.size)⟩
end Go.Proofs.YtejofgdglpmlkaaGreatDoor
namespace Go.Proofs.YtejofgdglpmlkaaGreatDoor
open Go.RowKit

set_option maxRecDepth 100000 in
theorem errIs_nil (e0 : Int) (w : World) : Calls Tryz.prog 51 #[.nilIface, .iface 29 (.int .i64 e0)] w fun e w' => e = .returned (.bool false) ∧ w = w' := by
  have he := run_eql_iface_nil_left (P := Tryz.prog) w 29 (.int .i64 e0) Tryz.underlying70
  go_enter Tryz.func51, Tryz.ntmps51
  go_wp2
  go_ret
  exact ⟨rfl, rfl⟩
theorem stat_cells {w w1 : World} {t : TypeId} (h : Below (w.alloc (.cells #[.int .i64 0, .int .i64 0, .int .i64 0] t)).heap.size (w.alloc (.cells #[.int .i64 0, .int .i64 0, .int .i64 0] t)) w1) :
    w1.cell? ⟨w.heap.size, 0, none⟩ = some (.int .i64 0) ∧ w1.cell? ⟨w.heap.size, 1, none⟩ = some (.int .i64 0) ∧ w1.cell? ⟨w.heap.size, 2, none⟩ = some (.int .i64 0) ∧ (w1.frozen? ⟨w.heap.size, 0, none⟩ = false ∧ w1.frozen? ⟨w.heap.size, 1, none⟩ = false ∧ w1.frozen? ⟨w.heap.size, 2, none⟩ = false) ∧ w.heap.size < w1.heap.size := by
  have hb := (h.block w.heap.size (by simp)).trans (heap_alloc_new w _)
  obtain ⟨a, b, c, d⟩ := cells3 hb
  exact ⟨a, b, c, ⟨d 0, d 1, d 2⟩, heap_lt hb⟩
theorem stat_node {w w1 : World} {nb : Nat} {a b c : Value} {t : TypeId} {o : Obj} (h : Below (w.alloc o).heap.size (w.alloc o) w1) (hn : w.heap[nb]? = some (.cells #[a, b, c] t (0, 0))) :
    w1.cell? ⟨nb, 0, none⟩ = some a ∧ w1.cell? ⟨nb, 1, none⟩ = some b ∧ w1.cell? ⟨nb, 2, none⟩ = some c ∧ nb < w1.heap.size ∧ nb < w.heap.size ∧ nb ≠ w.heap.size := by
  have hl := heap_lt hn
  have hb := (h.block nb (by simp; omega)).trans ((heap_alloc_old w o hl).trans hn)
  obtain ⟨a, b, c, _⟩ := cells3 hb
  exact ⟨a, b, c, heap_lt hb, hl, by omega⟩
section
variable {f mb : Nat} {N : Bs → Nat} {S : Nat → Prop} {st : St} {clock room : Int} {p : ByteArray} {q : Bs} {w : World} {n : PN}
set_option maxRecDepth 100000 in
set_option maxHeartbeats 8000000 in
theorem stat_file (h : FsIn w f mb N S st clock room) (hp : p.size ≤ 2147483647) (hq : clean p.data.toList = q) (hr : lookQ st q = .node n) (hnd : n.dir = false) :
    Calls Tryz.prog 27 #[.pointer (some ⟨f, 0, none⟩), .string p] w fun e w' => e = .returned (.agg #[.int .i64 1, .int .i64 n.time, .int .i64 n.data.length]) ∧ Below w.heap.size w w' := by
  have hw0 := Lib.hid (h.below (below_al (o := .cells #[.int .i64 0, .int .i64 0, .int .i64 0] 51) (Below.refl _ _)))
  have hL := Lib.hid (there_node _ hw0.out hp hq hr)
  have kh := Lib.hid h
  obtain ⟨nv, hnb, hnv⟩ := (h.node q n (lookQ_find.2 n hr)).2.2
  have hNl := h.lt _ (h.node q n (lookQ_find.2 n hr)).2.1
  rw [hnd] at hnb
  have knb := Lib.hid hnb
  obtain ⟨na, nc, hnvf⟩ := hnv.form
  subst hnvf
  clear h hnb hnv
  generalize mk q = Q at *
  go_enter Tryz.func27, Tryz.ntmps27
  go_wp2_with (first | (go_at_call 51; refine (errIs_nil 10 _).mono ?_; rintro e w2 ⟨rfl, rfl⟩) | (go_at_call 39; refine hL.out.mono ?_; rintro e w1 ⟨rfl, hb⟩; have kb := Lib.hid hb; clear hb; obtain ⟨r0, r1, r2, ⟨rf0, rf1, rf2⟩, rl⟩ := stat_cells kb.out; obtain ⟨n0, n1, n2, n3, nlt, nne⟩ := stat_node kb.out knb.out))
  go_region
  go_wp2_with fail
  refine bodyPost_ret (v := .agg #[.int .i64 1, .int .i64 n.time, .int .i64 n.data.length]) (by simp [results, Tryz.results27, go_sem, r0, r1, r2]) rfl ⟨rfl, ?_⟩
  have hb0 : Below w.heap.size w w1 := (below_al (Below.refl _ _)).trans (kb.out.mono (by simp))
  exact below_drewN' (((hb0.setCell (Nat.le_refl _) _).setCell (Nat.le_refl _) _).setCell (Nat.le_refl _) _) 1
end
end Go.Proofs.YtejofgdglpmlkaaGreatDoor
