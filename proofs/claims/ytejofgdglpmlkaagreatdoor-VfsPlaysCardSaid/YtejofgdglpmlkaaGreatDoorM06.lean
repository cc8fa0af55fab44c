/-
  A tree handed in: its nodes in memory; what is wrong of it. Conditions: none.
  look, there of a file system. Conditions: texts of at most 2^31 bytes.
  there, change, fits of a file system. Conditions: texts of at most 2^31 bytes; a clock of at most 2^62.
-/
import Derived.Test.YtejofgdglpmlkaaGreatDoorM05
import Derived.Maps.OwnOps
import Derived.IntWalk
namespace Go.Proofs.YtejofgdglpmlkaaGreatDoor
open Go.RowKit

def isDirB (pre : St) (p : Bs) : Bool := decide (p = []) || pre.any fun y => y.2.dir && decide (y.1 = p)
def okNode (clock : Int) (pre : St) (x : Bs × PN) : Bool :=
  validB x.1 && decide (x.1 ≠ []) && (match pre.getLast? with | none => true | some y => decide (y.1 < x.1)) && isDirB pre (parentP x.1) && !(x.2.dir && decide (0 < x.2.data.length)) && decide (0 ≤ x.2.time) && decide (x.2.time ≤ clock)
def okFrom (clock : Int) : St → St → Bool
  | _, [] => true
  | pre, x :: r => okNode clock pre x && okFrom clock (pre ++ [x]) r
def longN (x : Bs × PN) : Bool := !x.2.dir && decide (65536 < x.2.data.length)
def badArg (clock room : Int) : Bool := decide (clock < 0) || decide (1099511627776 < clock) || decide (room < 0) || decide (1048576 < room)
def rightP (l : St) (clock room : Int) : Int :=
  if 1000 < l.length then 2 else if l.any longN then 2 else if badArg clock room then 1 else if okFrom clock [] l = false then 1 else if room < wt l then 15 else 0

/-- The nodes of a tree, in memory. -/
def TreeAt (w : World) (nv : Value) (l : St) (T : Nat → Prop) : Prop :=
  ∃ a c, nv = .slice a l.length c ∧ l.length ≤ c ∧ c ≤ maxLen ∧ (a = none → c = 0) ∧ (0 < l.length → ∃ b off, a = some ⟨b, off, none⟩ ∧ T b ∧ b < w.heap.size ∧
    ∀ (k : Nat) (x : Bs × PN), l[k]? = some x → ∃ dv, w.cell? ⟨b, off + k * 4, none⟩ = some (.string (mk x.1)) ∧ w.cell? ⟨b, off + k * 4 + 1, none⟩ = some (.bool x.2.dir) ∧ w.cell? ⟨b, off + k * 4 + 2, none⟩ = some (.int .i64 x.2.time) ∧ w.cell? ⟨b, off + k * 4 + 3, none⟩ = some dv ∧ BytesAt w dv x.2.data T)
theorem TreeAt.of_heap {w w' : World} {nv : Value} {l : St} {T T' : Nat → Prop} (h : TreeAt w nv l T) (he : ∀ k, T k → w'.heap[k]? = w.heap[k]?) (hT : ∀ k, T k → T' k) : TreeAt w' nv l T' := by
  obtain ⟨a, c, h1, h2, h3, h3', h4⟩ := h
  refine ⟨a, c, h1, h2, h3, h3', fun h0 => ?_⟩
  obtain ⟨b, off, e1, e2, e3, e4⟩ := h4 h0
  refine ⟨b, off, e1, hT _ e2, lt_of_heap e3 (he b e2), fun k x hk => ?_⟩
  obtain ⟨dv, g0, g1, g2, g3, g4⟩ := e4 k x hk
  have hc : ∀ o, w'.cell? ⟨b, o, none⟩ = w.cell? ⟨b, o, none⟩ := fun o => World.cell?_of_block (a := ⟨b, o, none⟩) (he b e2)
  exact ⟨dv, (hc _).trans g0, (hc _).trans g1, (hc _).trans g2, (hc _).trans g3, g4.of_heap he hT⟩
theorem TreeAt.form {w : World} {nv : Value} {l : St} {T : Nat → Prop} (h : TreeAt w nv l T) : ∃ a c, nv = .slice a l.length c := by
  obtain ⟨a, c, h1, _⟩ := h; exact ⟨a, c, h1⟩
theorem TreeAt.at {w : World} {a : Option Addr} {n c : Nat} {l : St} {T : Nat → Prop} (h : TreeAt w (.slice a n c) l T) {k : Nat} {x : Bs × PN} (hk : l[k]? = some x) :
    ∃ b off dv, a = some ⟨b, off, none⟩ ∧ T b ∧ b < w.heap.size ∧ w.cell? ⟨b, off + k * 4, none⟩ = some (.string (mk x.1)) ∧ w.cell? ⟨b, off + k * 4 + 1, none⟩ = some (.bool x.2.dir) ∧ w.cell? ⟨b, off + k * 4 + 2, none⟩ = some (.int .i64 x.2.time) ∧ w.cell? ⟨b, off + k * 4 + 3, none⟩ = some dv ∧ BytesAt w dv x.2.data T := by
  obtain ⟨a', c', h1, h2, h3, h3', h4⟩ := h
  injection h1 with e1 e2 e3
  subst e1
  obtain ⟨b, off, g1, g2, g3, g4⟩ := h4 (by have := (List.getElem?_eq_some_iff.1 hk).1; omega)
  obtain ⟨dv, g⟩ := g4 k x hk
  exact ⟨b, off, dv, g1, g2, g3, g⟩
theorem TreeAt.nil (w : World) (T : Nat → Prop) : TreeAt w (.slice none 0 0) [] T := ⟨none, 0, rfl, Nat.le_refl _, Nat.zero_le _, fun _ => rfl, fun h => absurd h (Nat.lt_irrefl _)⟩

/-- The map of the directories that have come. -/
def DirsAt (w : World) (b : Nat) (pre : St) : Prop :=
  ∃ D : DataW Unit, w.ownsMap Tryz.prog 9 (plainElem Tryz.prog 3) b (pre.length + 1) D ∧ ∀ p : Bs, p.length ≤ maxLen → D.atKey (.string p) (.lit (.int .i64 0)) = .lit (.int .i64 (if isDirB pre p then 1 else 0))
theorem zeroInt (w : World) : (zeroValue 3).run Tryz.prog w = .ok (.int .i64 0) w := by kernel_rfl
theorem DirsAt.of_heap {w w' : World} {b : Nat} {pre : St} (h : DirsAt w b pre) (e : w'.heap[b]? = w.heap[b]?) : DirsAt w' b pre := by
  obtain ⟨D, ⟨es, clock, hb, r⟩, h2⟩ := h
  exact ⟨D, ⟨es, clock, e.trans hb, r⟩, h2⟩
theorem DirsAt.lt {w : World} {b : Nat} {pre : St} (h : DirsAt w b pre) : b < w.heap.size := by obtain ⟨D, h1, _⟩ := h; exact h1.lt
set_option maxRecDepth 100000 in
theorem DirsAt.look {w : World} {b : Nat} {pre : St} (h : DirsAt w b pre) (s : ByteArray) (hs : s.size ≤ maxLen) : (Instr.lookup 88 (.map (some b)) (.string s) false).run Tryz.prog w = .ok (.int .i64 (if isDirB pre s.data.toList then 1 else 0)) w := by
  obtain ⟨D, h1, h2⟩ := h
  obtain ⟨c, hrun, hat, _⟩ := h1.lookup_int lawS Tryz.underlying88 Tryz.underlying3 (zeroInt w) (keyS s hs)
  rw [h2 _ (by rw [← Go.Lib.size_eq]; exact hs)] at hat
  have hc : c = (if isDirB pre s.data.toList then 1 else 0) := by simpa using hat.symm
  rw [hrun, hc]
theorem isDirB_snoc (pre : St) (x : Bs × PN) (p : Bs) : isDirB (pre ++ [x]) p = (isDirB pre p || (x.2.dir && decide (x.1 = p))) := by
  unfold isDirB; rw [List.any_append]; simp [Bool.or_assoc]
theorem DirsAt.start {w' : World} {b : Nat} (h : w'.ownsMap Tryz.prog 9 (plainElem (H := Unit) Tryz.prog 3) b 1 (DataW.put (DataW.map ([] : List (Lit × DataW Unit))) (.string []) (.lit (.int .i64 1)))) : DirsAt w' b [] := by
  refine ⟨_, h, fun p hp => ?_⟩
  by_cases e : p = []
  · subst e
    have hk := lawS.key (keyS (mk []) (by rw [mk_size]; exact Nat.zero_le _))
    rw [mk_list] at hk
    rw [Maps.atKey_put_same Maps.isMap_empty hk]
    rfl
  · rw [Maps.atKey_put_other (fun e' => e (by injection e'))]
    rw [Go.WideAt.atKey_none _ (by simp)]
    unfold isDirB; simp [e]
theorem DirsAt.skip {w : World} {b : Nat} {pre : St} {x : Bs × PN} (h : DirsAt w b pre) (hx : x.2.dir = false) : DirsAt w b (pre ++ [x]) := by
  obtain ⟨D, h1, h2⟩ := h
  refine ⟨D, h1.mono (by simp), fun p hp => ?_⟩
  rw [h2 p hp, isDirB_snoc, hx]; simp
theorem DirsAt.put {w : World} {b : Nat} {pre : St} {x : Bs × PN} (h : DirsAt w b pre) (hx : x.2.dir = true) (s : ByteArray) (he : s.data.toList = x.1) (hs : s.size ≤ maxLen) (hn : pre.length + 1 < maxLen) :
    ∃ w', (Instr.mapUpdate 88 (.map (some b)) (.string s) (.int .i64 1)).run Tryz.prog w = .ok () w' ∧ DirsAt w' b (pre ++ [x]) ∧ w.grownBy w' (some b) ∧ w'.heap.size = w.heap.size := by
  obtain ⟨D, h1, h2⟩ := h
  obtain ⟨w', hrun, ho, hg⟩ := h1.store lawS Tryz.underlying88 hn (keyS s hs) (plainElem_int Tryz.underlying3 (a := 1) (by decide))
  refine ⟨w', hrun, ⟨_, ho.mono (by simp), fun p hp => ?_⟩, hg.grown, ?_⟩
  · rw [isDirB_snoc, hx, he]
    by_cases e : p = x.1
    · subst e
      rw [Maps.atKey_put_same h1.isMap (by have := lawS.key (keyS s hs); rwa [he] at this)]
      simp
    · rw [Maps.atKey_put_other (fun e' => e (by injection e')), h2 p hp]
      simp [Ne.symm e]
  · obtain ⟨es, clock, es', clock', _, rfl⟩ := hg
    simp [ChangeMaps.setBlock]
theorem wpList_dirs {pre : St} {x : Bs × PN} {b : Nat} {ops : Array Oper} {rest : List Oper} {o : Oper} {a : Act} {Q' : Exit → Act → World → Prop} (w : World) (hg : o.guard = none) (m k v : Operand) (hop : o.op = Op.mapUpdate 88 m k v)
    (hm : a.eval m = .map (some b)) (s : ByteArray) (hx : a.eval k = .string s) (hv : a.eval v = .int .i64 1) (h : DirsAt w b pre) (hd : x.2.dir = true) (he : s.data.toList = x.1) (hs : s.size ≤ maxLen) (hn : pre.length + 1 < maxLen)
    (hK : ∀ w', DirsAt w' b (pre ++ [x]) → w.grownBy w' (some b) → w'.heap.size = w.heap.size → wpList Tryz.prog ops Q' rest (a.put o.dst undef) w') : wpList Tryz.prog ops Q' (o :: rest) a w := by
  refine wpList_plain hg fun K hK' => ?_
  obtain ⟨w', hrun, h1, h2, h3⟩ := h.put hd s he hs hn
  unfold Oper.wp
  simp [execOp, hop, hm, hx, hv, hrun, Result.andThen]
  exact hK' _ _ (hK w' h1 h2 h3)
/-- The literal of the map of directories. -/
theorem wpList_dirs0 {b : Nat} {ops : Array Oper} {rest : List Oper} {o : Oper} {a : Act} {Q' : Exit → Act → World → Prop} (w : World) (hg : o.guard = none) (m k v : Operand) (hop : o.op = Op.insert 88 m k v)
    (hm : a.eval m = .map (some b)) (hx : a.eval k = .string ⟨#[]⟩) (hv : a.eval v = .int .i64 1) (hb : w.heap[b]? = some (.map #[] 0))
    (hK : ∀ w', DirsAt w' b [] → w.grownBy w' (some b) → w'.heap.size = w.heap.size → wpList Tryz.prog ops Q' rest (a.put o.dst undef) w') : wpList Tryz.prog ops Q' (o :: rest) a w := by
  refine wpList_plain hg fun K hK' => ?_
  have h0 : w.ownsMap Tryz.prog 9 (plainElem (H := Unit) Tryz.prog 3) b 0 (.map []) := ⟨#[], 0, hb, ⟨by simp, Go.MapKept.stamped_empty 0, by simp⟩, Nat.le_refl _, rfl⟩
  obtain ⟨w', hrun, ho, hgr⟩ := h0.store lawS Tryz.underlying88 (by unfold maxLen; omega) (keyS ⟨#[]⟩ (by decide)) (plainElem_int Tryz.underlying3 (a := 1) (by decide))
  have hsz : w'.heap.size = w.heap.size := by obtain ⟨es, clock, es', clock', _, rfl⟩ := hgr; simp [ChangeMaps.setBlock]
  unfold Oper.wp
  simp [execOp, hop, hm, hx, hv, hrun, Result.andThen]
  exact hK' _ _ (hK w' (DirsAt.start ho) hgr.grown hsz)
end Go.Proofs.YtejofgdglpmlkaaGreatDoor
namespace Go.Proofs.YtejofgdglpmlkaaGreatDoor
open Go.RowKit

theorem mk_empty : mk [] = ⟨#[]⟩ := rfl
theorem mk_isEmpty {q : Bs} (h : q ≠ []) : (mk q).toList.isEmpty = false := by rw [Go.Lib.toList_data, mk_list]; cases q <;> simp_all
theorem lookQ_bad {st : St} {q : Bs} (h : validB q = false) : lookQ st q = .err 16 := by unfold lookQ; rw [if_pos h]
theorem lookQ_root {st : St} : lookQ st [] = .root := by unfold lookQ; rw [if_neg (by decide), if_pos rfl]
theorem lookQ_rest {st : St} {q : Bs} (h : validB q = true) (hq : q ≠ []) : lookQ st q = lookT st q := by
  unfold lookQ; rw [if_neg (by simp [h]), if_neg hq]
theorem root_calls (w : World) : Calls Tryz.prog 60 #[] w fun e w' => e = .returned (.pointer (some ⟨w.heap.size, 0, none⟩)) ∧ w' = w.alloc (.cells #[.bool true, .int .i64 0, .slice none 0 0] 61) := by
  go_enter Tryz.func60, Tryz.ntmps60
  go_wp2
  go_ret
  exact ⟨rfl, rfl⟩
theorem take_get {q : Bs} {k : Nat} (h : k < (mk q).size) : q.drop k = (mk q)[k]'h :: q.drop (k + 1) ∧ q.take (k + 1) = q.take k ++ [(mk q)[k]'h] := by
  have h1 := drop_cons h
  have h2 := drop_take1 h
  rw [mk_list] at h1 h2
  exact ⟨h1, h2⟩
/-- What look's loop keeps. -/
def LookInv (w : World) (f mb : Nat) (N : Bs → Nat) (S : Nat → Prop) (st : St) (clock room : Int) (q : Bs) (k : Nat) (wr : World) : Prop :=
  FsIn wr f mb N S st clock room ∧ Below w.heap.size w wr ∧ chk st (upsFrom (q.take k) (q.drop k)) = chk st (ups q)
theorem ptrAt_none {st : St} {N : Bs → Nat} {p : Bs} (h : find st p = none) : ptrAt st N p = .pointer none := by unfold ptrAt; rw [h]
theorem ptrAt_some {st : St} {N : Bs → Nat} {p : Bs} {n : PN} (h : find st p = some n) : ptrAt st N p = .pointer (some ⟨N p, 0, none⟩) := by unfold ptrAt; rw [h]

set_option maxRecDepth 100000 in
set_option maxHeartbeats 2000000 in
theorem look_calls {f mb : Nat} {N : Bs → Nat} {S : Nat → Prop} {st : St} {clock room : Int} (p : ByteArray) (w : World) (h : FsIn w f mb N S st clock room) (hp : p.size ≤ 2147483647) :
    Calls Tryz.prog 34 #[.pointer (some ⟨f, 0, none⟩), .string p] w fun e w' => ∃ pv ev, e = .returned (.tuple #[.string (mk (clean p.data.toList)), pv, ev]) ∧ LookV N w.heap.size w' (clean p.data.toList) (lookQ st (clean p.data.toList)) pv ev ∧ Below w.heap.size w w' := by
  have hC := Lib.hid (fun w0 => clean_calls p w0 (by omega))
  have hcl := clean_len p.data.toList
  rw [← Go.Lib.size_eq] at hcl
  generalize clean p.data.toList = q at *
  have hqs : (mk q).size ≤ 2147483647 := by rw [mk_size]; omega
  have hV := Lib.hid (fun w0 => valid_calls (mk q) w0 hqs)
  rw [mk_list] at hV
  have hk := Lib.hid h
  have hfs : f < w.heap.size := h.lt f h.sf
  clear h hcl
  by_cases hv : validB q = true
  · rw [hv] at hV
    by_cases hq : q = []
    · subst hq
      rw [lookQ_root]
      rw [mk_empty] at *
      clear hv hqs
      go_enter Tryz.func34, Tryz.ntmps34
      go_wp2_with (first | (go_at_call 59; refine (hC.out _).mono ?_; rintro e w1 ⟨rfl, hb⟩; have kb1 := Lib.hid hb; clear hb) | (go_at_call 52; refine (hV.out _).mono ?_; rintro e w2 ⟨rfl, hb⟩; have kb2 := Lib.hid hb; clear hb) | (go_at_call 60; refine (root_calls _).mono ?_; rintro e w3 ⟨rfl, rfl⟩))
      go_ret3
      have hB := kb1.out.trans (kb2.out.mono kb1.out.size)
      exact ⟨_, _, rfl, ⟨⟨w2.heap.size, hB.size, heap_alloc_new _ _, rfl⟩, rfl⟩, hB.alloc hB.size _⟩
    · rw [lookQ_rest hv hq]
      have he := mk_isEmpty hq
      have kq := Lib.hid hq
      clear hv hq
      generalize hQ : mk q = Q at *
      have kQ := Lib.hid hQ
      have hqs0 : Q.size = q.length := by rw [← hQ, mk_size]
      have kqs := Lib.hid hqs0
      clear hQ hqs0
      go_enter Tryz.func34, Tryz.ntmps34
      go_wp2_with (first | (go_at_call 59; refine (hC.out _).mono ?_; rintro e w1 ⟨rfl, hb⟩; have kb1 := Lib.hid hb; clear hb) | (go_at_call 52; refine (hV.out _).mono ?_; rintro e w2 ⟨rfl, hb⟩; have kb2 := Lib.hid hb; clear hb))
      have hB := Lib.hid (kb1.out.trans (kb2.out.mono kb1.out.size))
      have hI0 : LookInv w f mb N S st clock room q 0 w2 := ⟨hk.out.below hB.out, hB.out, by rw [List.take_zero, List.drop_zero]; rfl⟩
      have kI0 := Lib.hid hI0
      clear kb1 kb2 hB hI0
      go_loopw [25, 7, 8] (fun kv _ _ wr => ∃ k : Nat, k ≤ Q.size ∧ kv = .int .i64 k ∧ LookInv w f mb N S st clock room q k wr) (fun kv _ _ _ => Q.size - (intOf kv).toNat)
      case atStart => exact ⟨0, Nat.zero_le _, rfl, kI0.out⟩
      case round =>
        obtain ⟨k, hkQ, rfl, hI⟩ := hrel
        have kI := Lib.hid hI
        clear hI
        have hc0 := (cells4 kI.out.1.cells).1
        have hfw : f < wr.heap.size := kI.out.1.lt f kI.out.1.sf
        by_cases hlt : k < Q.size
        · have z1 : (0 : Int) ≤ (k : Int) := by omega
          have z2 : (k : Int) ≤ (Q.size : Int) := by omega
          have htk := take_get (q := q) (k := k) (by rw [kQ.out]; exact hlt)
          have hqk : (mk q)[k]'(by rw [kQ.out]; exact hlt) = Q[k]'hlt := by congr 1
          rw [hqk] at htk
          have ktk := Lib.hid htk
          clear htk hqk
          by_cases h47 : Q[k]'hlt = 47
          · have e47 : ((((Q[k]'hlt).toNat : Nat) : Int) != 47) = false := by rw [h47]; rfl
            have hmax : (Q.extract 0 k).size ≤ maxLen := by unfold maxLen; rw [ByteArray.size_extract]; omega
            have hlk := fun n => (kI.out.1.map.of_heap (w' := wr.drewN n) rfl).look (Q.extract 0 k) hmax
            have hex : (Q.extract 0 k).data.toList = q.take k := by rw [← kQ.out, extract_mk, mk_list]
            rw [hex] at hlk
            have hups : upsFrom (q.take k) (q.drop k) = q.take k :: upsFrom (q.take (k + 1)) (q.drop (k + 1)) := by
              rw [ktk.out.1, ktk.out.2, h47, upsFrom_slash]
            have kups := Lib.hid hups
            clear h47 hups hex hmax
            cases hf : find st (q.take k) with
            | none =>
              rw [ptrAt_none hf] at hlk
              have ke := Lib.hid (lookT_err (st := st) (q := q) (e := 10) (by rw [← kI.out.2.2, kups.out]; exact chk_none hf))
              clear hf
              go_wp2_with fail
              go_quiet (fail)
              go_wp2_with fail
              go_ret3
              refine ⟨.pointer none, errV q 10, ?_, ?_, below_drewN' kI.out.2.1 _⟩
              · unfold errV; rw [kQ.out]; rfl
              · rw [ke.out]; exact ⟨rfl, rfl⟩
            | some nd =>
              rw [ptrAt_some hf] at hlk
              obtain ⟨v, hnb, -⟩ := (kI.out.1.node _ nd hf).2.2
              have hn0 := (cells3 hnb).1
              have hnl := heap_lt hnb
              clear hnb
              cases hd : nd.dir with
              | false =>
                rw [hd] at hn0
                have ke := Lib.hid (lookT_err (st := st) (q := q) (e := 11) (by rw [← kI.out.2.2, kups.out]; exact chk_file hf hd))
                clear hf hd
                go_wp2_with fail
                go_quiet (fail)
                go_wp2_with fail
                go_ret3
                refine ⟨.pointer none, errV q 11, ?_, ?_, below_drewN' kI.out.2.1 _⟩
                · unfold errV; rw [kQ.out]; rfl
                · rw [ke.out]; exact ⟨rfl, rfl⟩
              | true =>
                rw [hd] at hn0
                have ke := Lib.hid (chk_dir (r := upsFrom (q.take (k + 1)) (q.drop (k + 1))) hf hd)
                clear hf hd
                go_wp2_with fail
                go_quiet (fail)
                go_wp2_with fail
                go_roundw
                case rel => exact ⟨k + 1, by omega, by go_num, kI.out.1.of_heap (fun _ _ => rfl), below_drewN' kI.out.2.1 _, by rw [← ke.out, ← kups.out]; exact kI.out.2.2⟩
                case measure => simp [intOf]; omega
          · have e47 : ((((Q[k]'hlt).toNat : Nat) : Int) != 47) = true := by
              rw [bne_iff_ne]; intro e; exact h47 (byte_eq (n := 47) e (by omega))
            have hups : upsFrom (q.take k) (q.drop k) = upsFrom (q.take (k + 1)) (q.drop (k + 1)) := by
              rw [ktk.out.1, ktk.out.2, upsFrom, if_neg h47]
            have kups := Lib.hid hups
            clear h47 hups
            go_wp2
            go_roundw
            case rel => exact ⟨k + 1, by omega, by go_num, kI.out.1, kI.out.2.1, by rw [← kups.out]; exact kI.out.2.2⟩
            case measure => simp [intOf]; omega
        · have hkq : k = q.length := by rw [← kqs.out]; omega
          have hch : chk st (ups q) = none := by
            have := kI.out.2.2
            rw [← this, hkq, List.drop_length]; rfl
          have hmax : Q.size ≤ maxLen := by unfold maxLen; omega
          have hlk := fun n => (kI.out.1.map.of_heap (w' := wr.drewN n) rfl).look Q hmax
          have hex : Q.data.toList = q := by rw [← kQ.out, mk_list]
          rw [hex] at hlk
          clear hkq hmax hex
          cases hf : find st q with
          | none =>
            rw [ptrAt_none hf] at hlk
            have ke := Lib.hid (lookT_none hch hf)
            clear hf hch
            go_wp2_with fail
            go_quiet (fail)
            go_wp2_with fail
            go_ret3
            exact ⟨.pointer none, .nilIface, rfl, by rw [ke.out]; exact ⟨rfl, rfl⟩, below_drewN' kI.out.2.1 _⟩
          | some nd =>
            rw [ptrAt_some hf] at hlk
            have ke := Lib.hid (lookT_some hch hf)
            clear hf hch
            go_wp2_with fail
            go_quiet (fail)
            go_wp2_with fail
            go_ret3
            exact ⟨.pointer (some ⟨N q, 0, none⟩), .nilIface, rfl, by rw [ke.out]; exact ⟨rfl, rfl⟩, below_drewN' kI.out.2.1 _⟩
  · have hv' : validB q = false := by simpa using hv
    rw [hv'] at hV
    have he := Lib.hid (lookQ_bad (st := st) hv')
    clear hv hv'
    generalize hQ : mk q = Q at *
    have kQ := Lib.hid hQ
    clear hQ
    go_enter Tryz.func34, Tryz.ntmps34
    go_wp2_with (first | (go_at_call 59; refine (hC.out _).mono ?_; rintro e w1 ⟨rfl, hb⟩; have kb1 := Lib.hid hb; clear hb) | (go_at_call 52; refine (hV.out _).mono ?_; rintro e w2 ⟨rfl, hb⟩; have kb2 := Lib.hid hb; clear hb))
    go_ret3
    refine ⟨.pointer none, errV q 16, ?_, ?_, kb1.out.trans (kb2.out.mono kb1.out.size)⟩
    · unfold errV; rw [kQ.out]; rfl
    · rw [he.out]; exact ⟨rfl, rfl⟩
end Go.Proofs.YtejofgdglpmlkaaGreatDoor
namespace Go.Proofs.YtejofgdglpmlkaaGreatDoor
open Go.RowKit

def thereR : LookR → LookR
  | .none => .err 10
  | r => r
theorem LookV.below {N : Bs → Nat} {B : Nat} {w w' : World} {q : Bs} {r : LookR} {pv ev : Value} (h : LookV N B w q r pv ev) (hb : Below w.heap.size w w') : LookV N B w' q r pv ev := by
  cases r with
  | err e => exact h
  | none => exact h
  | node n => exact h
  | root =>
    obtain ⟨⟨g, h1, h2, h3⟩, h4⟩ := h
    exact ⟨⟨g, h1, (hb.block g (heap_lt h2)).trans h2, h3⟩, h4⟩
theorem set_heap {w : World} {b : Nat} {cs : Array Value} {t : TypeId} (h : w.heap[b]? = some (.cells cs t (0, 0))) (o : Nat) (v : Value) : (w.setCell ⟨b, o, none⟩ v).heap[b]? = some (.cells (cs.setIfInBounds o v) t (0, 0)) := by
  unfold World.setCell
  simp only [Array.getElem?_modify, if_true]
  rw [h]; rfl
theorem set_grown (w : World) (b o : Nat) (v : Value) : w.grownBy (w.setCell ⟨b, o, none⟩ v) (some b) :=
  ⟨rfl, rfl, rfl, by simp, fun k _ hk => Below.heap_setCell _ _ _ _ (fun e => hk (by simp [e]))⟩
/-- The struct's own cells turn: the map and the nodes stay. -/
theorem FsIn.struct {f mb : Nat} {N : Bs → Nat} {S : Nat → Prop} {st : St} {clock clock' room : Int} {w w' : World} (h : FsIn w f mb N S st clock room) (hs : w'.heap[f]? = some (.cells #[.map (some mb), .int .i64 clock', .int .i64 room, .int .i64 (wt st)] 58 (0, 0))) (hg : w.grownBy w' (some f)) : FsIn w' f mb N S st clock' room := by
  have hne : ∀ k, S k → k ≠ f → w'.heap[k]? = w.heap[k]? := fun k hk hne => hg.block k (h.lt k hk) (fun e => hne (by injection e))
  have hmf : mb ≠ f := by
    intro e; obtain ⟨D, ⟨es, cl, hb, _⟩, _⟩ := h.map
    rw [e, h.cells] at hb; cases hb
  refine ⟨hs, h.sf, h.sm, h.map.of_heap (hne mb h.sm hmf), h.rising, fun p nd hf => ?_, h.inj, fun b hb => Nat.lt_of_lt_of_le (h.lt b hb) hg.size⟩
  obtain ⟨h1, h2, v, h3, h4⟩ := h.node p nd hf
  have hnf : N p ≠ f := by intro e; rw [e, h.cells] at h3; simp at h3
  refine ⟨h1, h2, v, (hne _ h2 hnf).trans h3, ?_⟩
  obtain ⟨a, c, g1, g2, g3, g4, g5⟩ := h4
  refine ⟨a, c, g1, g2, g3, g4, fun h0 => ?_⟩
  obtain ⟨b, off, e1, e2, e3, e4⟩ := g5 h0
  have hbf : b ≠ f := by
    intro e
    obtain ⟨x, hx⟩ : ∃ x, nd.data[0]? = some x := ⟨_, List.getElem?_eq_getElem h0⟩
    have := e4 0 x hx
    rw [e] at this
    obtain ⟨c0, c1, c2, c3, _⟩ := cells4 h.cells
    match off, this with
    | 0, this => rw [c0] at this; simp at this
    | 1, this => rw [c1] at this; simp at this
    | 2, this => rw [c2] at this; simp at this
    | 3, this => rw [c3] at this; simp at this
    | off + 4, this => simp [World.cell?, h.cells] at this
  exact ⟨b, off, e1, e2, Nat.lt_of_lt_of_le e3 hg.size, fun k x hk => (World.cell?_of_block (a := ⟨b, off + k, none⟩) (hne b e2 hbf)).trans (e4 k x hk)⟩

section
variable {f mb : Nat} {N : Bs → Nat} {S : Nat → Prop} {st : St} {clock room : Int}
theorem look_err {p : ByteArray} {q : Bs} {e0 : Int} (w : World) (h : FsIn w f mb N S st clock room) (hp : p.size ≤ 2147483647) (hq : clean p.data.toList = q) (hr : lookQ st q = .err e0) :
    Calls Tryz.prog 34 #[.pointer (some ⟨f, 0, none⟩), .string p] w fun e w' => e = .returned (.tuple #[.string (mk q), .pointer none, .iface 94 (.agg #[.string (mk q), .iface 29 (.int .i64 e0)])]) ∧ Below w.heap.size w w' := by
  refine (look_calls p w h hp).mono ?_
  rintro e w' ⟨pv, ev, rfl, hv, hb⟩
  rw [hq, hr] at hv
  obtain ⟨rfl, rfl⟩ := hv
  exact ⟨by rw [hq]; rfl, hb⟩
theorem look_none {p : ByteArray} {q : Bs} (w : World) (h : FsIn w f mb N S st clock room) (hp : p.size ≤ 2147483647) (hq : clean p.data.toList = q) (hr : lookQ st q = .none) :
    Calls Tryz.prog 34 #[.pointer (some ⟨f, 0, none⟩), .string p] w fun e w' => e = .returned (.tuple #[.string (mk q), .pointer none, .nilIface]) ∧ Below w.heap.size w w' := by
  refine (look_calls p w h hp).mono ?_
  rintro e w' ⟨pv, ev, rfl, hv, hb⟩
  rw [hq, hr] at hv
  obtain ⟨rfl, rfl⟩ := hv
  exact ⟨by rw [hq], hb⟩
theorem look_node {p : ByteArray} {q : Bs} {n : PN} (w : World) (h : FsIn w f mb N S st clock room) (hp : p.size ≤ 2147483647) (hq : clean p.data.toList = q) (hr : lookQ st q = .node n) :
    Calls Tryz.prog 34 #[.pointer (some ⟨f, 0, none⟩), .string p] w fun e w' => e = .returned (.tuple #[.string (mk q), .pointer (some ⟨N q, 0, none⟩), .nilIface]) ∧ Below w.heap.size w w' := by
  refine (look_calls p w h hp).mono ?_
  rintro e w' ⟨pv, ev, rfl, hv, hb⟩
  rw [hq, hr] at hv
  obtain ⟨rfl, rfl⟩ := hv
  exact ⟨by rw [hq], hb⟩
theorem look_root {p : ByteArray} {q : Bs} (w : World) (h : FsIn w f mb N S st clock room) (hp : p.size ≤ 2147483647) (hq : clean p.data.toList = q) (hr : lookQ st q = .root) :
    Calls Tryz.prog 34 #[.pointer (some ⟨f, 0, none⟩), .string p] w fun e w' => ∃ g, e = .returned (.tuple #[.string (mk q), .pointer (some ⟨g, 0, none⟩), .nilIface]) ∧ (w.heap.size ≤ g ∧ w'.heap[g]? = some (.cells #[.bool true, .int .i64 0, .slice none 0 0] 61 (0, 0))) ∧ Below w.heap.size w w' := by
  refine (look_calls p w h hp).mono ?_
  rintro e w' ⟨pv, ev, rfl, hv, hb⟩
  rw [hq, hr] at hv
  obtain ⟨⟨g, h1, h2, rfl⟩, rfl⟩ := hv
  exact ⟨g, by rw [hq], ⟨h1, h2⟩, hb⟩
set_option maxRecDepth 100000 in
set_option maxHeartbeats 2000000 in
theorem there_calls (p : ByteArray) (w : World) (h : FsIn w f mb N S st clock room) (hp : p.size ≤ 2147483647) :
    Calls Tryz.prog 39 #[.pointer (some ⟨f, 0, none⟩), .string p] w fun e w' => ∃ pv ev, e = .returned (.tuple #[.string (mk (clean p.data.toList)), pv, ev]) ∧ LookV N w.heap.size w' (clean p.data.toList) (thereR (lookQ st (clean p.data.toList))) pv ev ∧ Below w.heap.size w w' := by
  cases hr : lookQ st (clean p.data.toList) with
  | err e0 =>
    have hL := Lib.hid (look_err w h hp rfl hr)
    clear hr h
    go_enter Tryz.func39, Tryz.ntmps39
    go_wp2_with (go_at_call 34; refine hL.out.mono ?_; rintro e w1 ⟨rfl, hb⟩; have kb := Lib.hid hb; clear hb)
    go_ret3
    exact ⟨_, _, rfl, ⟨rfl, rfl⟩, kb.out⟩
  | none =>
    have hL := Lib.hid (look_none w h hp rfl hr)
    clear hr h
    go_enter Tryz.func39, Tryz.ntmps39
    go_wp2_with (go_at_call 34; refine hL.out.mono ?_; rintro e w1 ⟨rfl, hb⟩; have kb := Lib.hid hb; clear hb)
    go_ret3
    exact ⟨.pointer none, errV (clean p.data.toList) 10, rfl, ⟨rfl, rfl⟩, kb.out⟩
  | root =>
    have hL := Lib.hid (look_root w h hp rfl hr)
    clear hr h
    go_enter Tryz.func39, Tryz.ntmps39
    go_wp2_with (go_at_call 34; refine hL.out.mono ?_; rintro e w1 ⟨g, rfl, hg, hb⟩; have kb := Lib.hid hb; have kg := Lib.hid hg; clear hb hg)
    go_ret3
    exact ⟨_, _, rfl, ⟨⟨g, kg.out.1, kg.out.2, rfl⟩, rfl⟩, kb.out⟩
  | node n =>
    have hL := Lib.hid (look_node w h hp rfl hr)
    clear hr h
    go_enter Tryz.func39, Tryz.ntmps39
    go_wp2_with (go_at_call 34; refine hL.out.mono ?_; rintro e w1 ⟨rfl, hb⟩; have kb := Lib.hid hb; clear hb)
    go_ret3
    exact ⟨_, _, rfl, ⟨rfl, rfl⟩, kb.out⟩

theorem change_calls (w : World) (h : FsIn w f mb N S st clock room) (h0 : 0 ≤ clock) (h1 : clock ≤ 4611686018427387904) :
    Calls Tryz.prog 38 #[.pointer (some ⟨f, 0, none⟩)] w fun e w' => e = .returned (.int .i64 (clock + 1)) ∧ w.grownBy w' (some f) ∧ w'.heap.size = w.heap.size ∧ FsIn w' f mb N S st (clock + 1) room := by
  obtain ⟨c0, c1, c2, c3, cf⟩ := cells4 h.cells
  have hl := h.lt f h.sf
  have hf1 := cf 1
  have kh := Lib.hid h
  clear h c0 c2 c3 cf
  go_enter Tryz.func38, Tryz.ntmps38
  go_wp2
  go_ret
  have hs := set_heap kh.out.cells 1 (.int .i64 (clock + 1))
  have hg := set_grown w f 1 (.int .i64 (clock + 1))
  exact ⟨rfl, hg, by simp, kh.out.struct hs hg⟩

def fitsB (st : St) (room nodes bytes : Int) : Bool := decide ((st.length : Int) + nodes ≤ 1000) && decide ((wt st : Int) + nodes + bytes ≤ room)
set_option maxHeartbeats 1000000 in
theorem fits_calls (nodes bytes : Int) (w : World) (h : FsIn w f mb N S st clock room) (hn : 0 ≤ nodes ∧ nodes ≤ 1) (hb : -1099511627776 ≤ bytes ∧ bytes ≤ 1099511627776) (hl : wt st ≤ 1099511627776) :
    Calls Tryz.prog 36 #[.pointer (some ⟨f, 0, none⟩), .int .i64 nodes, .int .i64 bytes] w fun e w' => e = .returned (.bool (fitsB st room nodes bytes)) ∧ ∃ n, w' = w.drewN n := by
  obtain ⟨c0, c1, c2, c3, cf⟩ := cells4 h.cells
  have hfl := h.lt f h.sf
  have hlen := fun n ty => (h.map.of_heap (w' := w.drewN n) rfl).len ty
  have hll : st.length ≤ wt st := by unfold wt; omega
  have hw1 : IntKind.i64.wrap ((st.length : Int) + nodes) = (st.length : Int) + nodes := IntWalk.i64_in _ (by omega)
  have hw2 : IntKind.i64.wrap ((wt st : Int) + nodes) = (wt st : Int) + nodes := IntWalk.i64_in _ (by omega)
  have hw3 : IntKind.i64.wrap ((wt st : Int) + nodes + bytes) = (wt st : Int) + nodes + bytes := IntWalk.i64_in _ (by omega)
  have kh := Lib.hid h
  clear h c1 cf
  by_cases h1 : (st.length : Int) + nodes ≤ 1000
  · have hd : decide ((st.length : Int) + nodes ≤ 1000) = true := by simpa using h1
    have kd := Lib.hid hd
    go_enter Tryz.func36, Tryz.ntmps36
    go_wp2_with fail
    go_quiet (fail)
    go_wp2_with fail
    go_ret
    refine ⟨?_, _, rfl⟩
    unfold fitsB; rw [kd.out]; rfl
  · have hd : decide ((st.length : Int) + nodes ≤ 1000) = false := by simpa using h1
    have kd := Lib.hid hd
    clear h1
    go_enter Tryz.func36, Tryz.ntmps36
    go_wp2_with fail
    go_quiet (fail)
    go_wp2_with fail
    go_ret
    refine ⟨?_, _, rfl⟩
    unfold fitsB; rw [kd.out]; rfl
end
end Go.Proofs.YtejofgdglpmlkaaGreatDoor
