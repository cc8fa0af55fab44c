/-
  A tree handed in: its nodes in memory; what is wrong of it. Conditions: none.
-/
import Derived.Test.YtnnepcodghfcmaaGreatDoorVFs2
import Derived.Maps.OwnOps
namespace Go.Proofs.YtnnepcodghfcmaaGreatDoor
open Go.RowKit

def isDirB (pre : St) (p : Bs) : Bool := decide (p = []) || pre.any fun y => y.2.dir && decide (y.1 = p)
def okNode (clock : Int) (pre : St) (x : Bs × PN) : Bool :=
  validB x.1 && decide (x.1 ≠ []) && (match pre.getLast? with | none => true | some y => decide (y.1 < x.1)) && isDirB pre (parentP x.1) && !(x.2.dir && decide (0 < x.2.data.length)) && decide (0 ≤ x.2.time) && decide (x.2.time ≤ clock)
def okFrom (clock : Int) : St → St → Bool
  | _, [] => true
  | pre, x :: r => okNode clock pre x && okFrom clock (pre ++ [x]) r
def longN (x : Bs × PN) : Bool := !x.2.dir && decide (65536 < x.2.data.length)
def badArg (clock room : Int) : Bool := decide (clock < 0) || decide (1099511627776 < clock) || decide (room < 0) || decide (1048576 < room)
def rightP (l : St) (clock room : Int) : Int :=
  if 1000 < l.length then 2 else if l.any longN then 2 else if badArg clock room then 1 else if okFrom clock [] l = false then 1 else if room < wt l then 15 else 0

/-- The nodes of a tree, in memory. -/
def TreeAt (w : World) (nv : Value) (l : St) (T : Nat → Prop) : Prop :=
  ∃ a c, nv = .slice a l.length c ∧ l.length ≤ c ∧ c ≤ maxLen ∧ (a = none → c = 0) ∧ (0 < l.length → ∃ b off, a = some ⟨b, off, none⟩ ∧ T b ∧ b < w.heap.size ∧
    ∀ (k : Nat) (x : Bs × PN), l[k]? = some x → ∃ dv, w.cell? ⟨b, off + k * 4, none⟩ = some (.string (mk x.1)) ∧ w.cell? ⟨b, off + k * 4 + 1, none⟩ = some (.bool x.2.dir) ∧ w.cell? ⟨b, off + k * 4 + 2, none⟩ = some (.int .i64 x.2.time) ∧ w.cell? ⟨b, off + k * 4 + 3, none⟩ = some dv ∧ BytesAt w dv x.2.data T)
theorem TreeAt.of_heap {w w' : World} {nv : Value} {l : St} {T T' : Nat → Prop} (h : TreeAt w nv l T) (he : ∀ k, T k → w'.heap[k]? = w.heap[k]?) (hT : ∀ k, T k → T' k) : TreeAt w' nv l T' := by
  obtain ⟨a, c, h1, h2, h3, h3', h4⟩ := h
  refine ⟨a, c, h1, h2, h3, h3', fun h0 => ?_⟩
  obtain ⟨b, off, e1, e2, e3, e4⟩ := h4 h0
  refine ⟨b, off, e1, hT _ e2, lt_of_heap e3 (he b e2), fun k x hk => ?_⟩
  obtain ⟨dv, g0, g1, g2, g3, g4⟩ := e4 k x hk
  have hc : ∀ o, w'.cell? ⟨b, o, none⟩ = w.cell? ⟨b, o, none⟩ := fun o => World.cell?_of_block (a := ⟨b, o, none⟩) (he b e2)
  exact ⟨dv, (hc _).trans g0, (hc _).trans g1, (hc _).trans g2, (hc _).trans g3, g4.of_heap he hT⟩
theorem TreeAt.form {w : World} {nv : Value} {l : St} {T : Nat → Prop} (h : TreeAt w nv l T) : ∃ a c, nv = .slice a l.length c := by
  obtain ⟨a, c, h1, _⟩ := h; exact ⟨a, c, h1⟩
theorem TreeAt.at {w : World} {a : Option Addr} {n c : Nat} {l : St} {T : Nat → Prop} (h : TreeAt w (.slice a n c) l T) {k : Nat} {x : Bs × PN} (hk : l[k]? = some x) :
    ∃ b off dv, a = some ⟨b, off, none⟩ ∧ T b ∧ b < w.heap.size ∧ w.cell? ⟨b, off + k * 4, none⟩ = some (.string (mk x.1)) ∧ w.cell? ⟨b, off + k * 4 + 1, none⟩ = some (.bool x.2.dir) ∧ w.cell? ⟨b, off + k * 4 + 2, none⟩ = some (.int .i64 x.2.time) ∧ w.cell? ⟨b, off + k * 4 + 3, none⟩ = some dv ∧ BytesAt w dv x.2.data T := by
  obtain ⟨a', c', h1, h2, h3, h3', h4⟩ := h
  injection h1 with e1 e2 e3
  subst e1
  obtain ⟨b, off, g1, g2, g3, g4⟩ := h4 (by have := (List.getElem?_eq_some_iff.1 hk).1; omega)
  obtain ⟨dv, g⟩ := g4 k x hk
  exact ⟨b, off, dv, g1, g2, g3, g⟩
theorem TreeAt.nil (w : World) (T : Nat → Prop) : TreeAt w (.slice none 0 0) [] T := ⟨none, 0, rfl, Nat.le_refl _, Nat.zero_le _, fun _ => rfl, fun h => absurd h (Nat.lt_irrefl _)⟩

/-- The map of the directories that have come. -/
def DirsAt (w : World) (b : Nat) (pre : St) : Prop :=
  ∃ D : DataW Unit, w.ownsMap Tryz.prog 9 (plainElem Tryz.prog 3) b (pre.length + 1) D ∧ ∀ p : Bs, p.length ≤ maxLen → D.atKey (.string p) (.lit (.int .i64 0)) = .lit (.int .i64 (if isDirB pre p then 1 else 0))
theorem zeroInt (w : World) : (zeroValue 3).run Tryz.prog w = .ok (.int .i64 0) w := by kernel_rfl
theorem DirsAt.of_heap {w w' : World} {b : Nat} {pre : St} (h : DirsAt w b pre) (e : w'.heap[b]? = w.heap[b]?) : DirsAt w' b pre := by
  obtain ⟨D, ⟨es, clock, hb, r⟩, h2⟩ := h
  exact ⟨D, ⟨es, clock, e.trans hb, r⟩, h2⟩
theorem DirsAt.lt {w : World} {b : Nat} {pre : St} (h : DirsAt w b pre) : b < w.heap.size := by obtain ⟨D, h1, _⟩ := h; exact h1.lt
set_option maxRecDepth 100000 in
theorem DirsAt.look {w : World} {b : Nat} {pre : St} (h : DirsAt w b pre) (s : ByteArray) (hs : s.size ≤ maxLen) : (Instr.lookup 71 (.map (some b)) (.string s) false).run Tryz.prog w = .ok (.int .i64 (if isDirB pre s.data.toList then 1 else 0)) w := by
  obtain ⟨D, h1, h2⟩ := h
  obtain ⟨c, hrun, hat, _⟩ := h1.lookup_int lawS Tryz.underlying71 Tryz.underlying3 (zeroInt w) (keyS s hs)
  rw [h2 _ (by rw [← Go.Lib.size_eq]; exact hs)] at hat
  have hc : c = (if isDirB pre s.data.toList then 1 else 0) := by simpa using hat.symm
  rw [hrun, hc]
theorem isDirB_snoc (pre : St) (x : Bs × PN) (p : Bs) : isDirB (pre ++ [x]) p = (isDirB pre p || (x.2.dir && decide (x.1 = p))) := by
  unfold isDirB; rw [List.any_append]; simp [Bool.or_assoc]
theorem DirsAt.start {w' : World} {b : Nat} (h : w'.ownsMap Tryz.prog 9 (plainElem (H := Unit) Tryz.prog 3) b 1 (DataW.put (DataW.map ([] : List (Lit × DataW Unit))) (.string []) (.lit (.int .i64 1)))) : DirsAt w' b [] := by
  refine ⟨_, h, fun p hp => ?_⟩
  by_cases e : p = []
  · subst e
    have hk := lawS.key (keyS (mk []) (by rw [mk_size]; exact Nat.zero_le _))
    rw [mk_list] at hk
    rw [Maps.atKey_put_same Maps.isMap_empty hk]
    rfl
  · rw [Maps.atKey_put_other (fun e' => e (by injection e'))]
    rw [Go.WideAt.atKey_none _ (by simp)]
    unfold isDirB; simp [e]
theorem DirsAt.skip {w : World} {b : Nat} {pre : St} {x : Bs × PN} (h : DirsAt w b pre) (hx : x.2.dir = false) : DirsAt w b (pre ++ [x]) := by
  obtain ⟨D, h1, h2⟩ := h
  refine ⟨D, h1.mono (by simp), fun p hp => ?_⟩
  rw [h2 p hp, isDirB_snoc, hx]; simp
theorem DirsAt.put {w : World} {b : Nat} {pre : St} {x : Bs × PN} (h : DirsAt w b pre) (hx : x.2.dir = true) (s : ByteArray) (he : s.data.toList = x.1) (hs : s.size ≤ maxLen) (hn : pre.length + 1 < maxLen) :
    ∃ w', (Instr.mapUpdate 71 (.map (some b)) (.string s) (.int .i64 1)).run Tryz.prog w = .ok () w' ∧ DirsAt w' b (pre ++ [x]) ∧ w.grownBy w' (some b) ∧ w'.heap.size = w.heap.size := by
  obtain ⟨D, h1, h2⟩ := h
  obtain ⟨w', hrun, ho, hg⟩ := h1.store lawS Tryz.underlying71 hn (keyS s hs) (plainElem_int Tryz.underlying3 (a := 1) (by decide))
  refine ⟨w', hrun, ⟨_, ho.mono (by simp), fun p hp => ?_⟩, hg.grown, ?_⟩
  · rw [isDirB_snoc, hx, he]
    by_cases e : p = x.1
    · subst e
      rw [Maps.atKey_put_same h1.isMap (by have := lawS.key (keyS s hs); rwa [he] at this)]
      simp
    · rw [Maps.atKey_put_other (fun e' => e (by injection e')), h2 p hp]
      simp [Ne.symm e]
  · obtain ⟨es, clock, es', clock', _, rfl⟩ := hg
    simp [ChangeMaps.setBlock]
theorem wpList_dirs {pre : St} {x : Bs × PN} {b : Nat} {ops : Array Oper} {rest : List Oper} {o : Oper} {a : Act} {Q' : Exit → Act → World → Prop} (w : World) (hg : o.guard = none) (m k v : Operand) (hop : o.op = Op.mapUpdate 71 m k v)
    (hm : a.eval m = .map (some b)) (s : ByteArray) (hx : a.eval k = .string s) (hv : a.eval v = .int .i64 1) (h : DirsAt w b pre) (hd : x.2.dir = true) (he : s.data.toList = x.1) (hs : s.size ≤ maxLen) (hn : pre.length + 1 < maxLen)
    (hK : ∀ w', DirsAt w' b (pre ++ [x]) → w.grownBy w' (some b) → w'.heap.size = w.heap.size → wpList Tryz.prog ops Q' rest (a.put o.dst undef) w') : wpList Tryz.prog ops Q' (o :: rest) a w := by
  refine wpList_plain hg fun K hK' => ?_
  obtain ⟨w', hrun, h1, h2, h3⟩ := h.put hd s he hs hn
  unfold Oper.wp
  simp [execOp, hop, hm, hx, hv, hrun, Result.andThen]
  exact hK' _ _ (hK w' h1 h2 h3)
/-- The literal of the map of directories. -/
theorem wpList_dirs0 {b : Nat} {ops : Array Oper} {rest : List Oper} {o : Oper} {a : Act} {Q' : Exit → Act → World → Prop} (w : World) (hg : o.guard = none) (m k v : Operand) (hop : o.op = Op.insert 71 m k v)
    (hm : a.eval m = .map (some b)) (hx : a.eval k = .string ⟨#[]⟩) (hv : a.eval v = .int .i64 1) (hb : w.heap[b]? = some (.map #[] 0))
    (hK : ∀ w', DirsAt w' b [] → w.grownBy w' (some b) → w'.heap.size = w.heap.size → wpList Tryz.prog ops Q' rest (a.put o.dst undef) w') : wpList Tryz.prog ops Q' (o :: rest) a w := by
  refine wpList_plain hg fun K hK' => ?_
  have h0 : w.ownsMap Tryz.prog 9 (plainElem (H := Unit) Tryz.prog 3) b 0 (.map []) := ⟨#[], 0, hb, ⟨by simp, Go.MapKept.stamped_empty 0, by simp⟩, Nat.le_refl _, rfl⟩
  obtain ⟨w', hrun, ho, hgr⟩ := h0.store lawS Tryz.underlying71 (by unfold maxLen; omega) (keyS ⟨#[]⟩ (by decide)) (plainElem_int Tryz.underlying3 (a := 1) (by decide))
  have hsz : w'.heap.size = w.heap.size := by obtain ⟨es, clock, es', clock', _, rfl⟩ := hgr; simp [ChangeMaps.setBlock]
  unfold Oper.wp
  simp [execOp, hop, hm, hx, hv, hrun, Result.andThen]
  exact hK' _ _ (hK w' (DirsAt.start ho) hgr.grown hsz)
end Go.Proofs.YtnnepcodghfcmaaGreatDoor
