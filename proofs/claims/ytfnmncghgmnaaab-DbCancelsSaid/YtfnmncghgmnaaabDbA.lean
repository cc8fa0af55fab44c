/-
  The built-in rules (37, 24). Conditions: none.
-/
import Derived.Test.YtfnmncghgmnaaabDb9
namespace Go.Proofs.Ytfnmncghgmnaaab
open Go.RowKit

def madeR (a b c : ByteArray) : Ru := ⟨[a], [b], [], false, true, false, ⟨#[]⟩, [c], true, ⟨#[]⟩, true⟩
theorem newAt_ge {base g o n c : Nat} (h : base ≤ g) : NewAt base (.slice (some ⟨g, o, none⟩) n c) := by
  intro a n c e; injection e with e; injection e with e; subst e; exact h
theorem strsAt_none (w : World) : StrsAt w (.slice none 0 0) [] := ⟨none, 0, 0, rfl, rfl, Nat.le_refl _, by unfold maxLen; omega, fun h => by omega, fun _ => rfl⟩
theorem newAt_none (base : Nat) : NewAt base (.slice none 0 0) := fun a n c e => by simp at e
set_option maxHeartbeats 400000 in
theorem made_calls (a b c : ByteArray) (w : World) :
    Calls Try.prog 37 #[.string a, .string b, .string c] w fun e w' => ∃ x : Pl, e = .returned (.agg x.cells.toArray) ∧ x.r = madeR a b c ∧ x.at w' ∧ x.new w.heap.size ∧ Below w.heap.size w w' := by
  go_enter Try.func37, Try.ntmps37
  go_wp2
  refine bodyPost_ret (v := .agg #[Value.slice (some ⟨w.heap.size + 1, 0, none⟩) 1 1, .slice (some ⟨w.heap.size + 1 + 1, 0, none⟩) 1 1, .slice none 0 0, .bool false, .bool true, .bool false, .string ⟨#[]⟩, .slice (some ⟨w.heap.size + 1 + 1 + 1, 0, none⟩) 1 1, .bool true, .string ⟨#[]⟩, .bool true]) (by simp [results, Try.results37, go_sem]) rfl ?_
  have hBB := below_al (o := .cells #[Value.string c] 9) (below_al (o := .cells #[Value.string b] 9) (below_al (o := .cells #[Value.string a] 9) (below_al (o := (.cells #[Value.slice (some ⟨w.heap.size + 1, 0, none⟩) 1 1, .slice (some ⟨w.heap.size + 1 + 1, 0, none⟩) 1 1, .slice none 0 0, .bool false, .bool true, .bool false, .string ⟨#[]⟩, .slice (some ⟨w.heap.size + 1 + 1 + 1, 0, none⟩) 1 1, .bool true, .string ⟨#[]⟩, .bool true] 43)) (Below.refl w.heap.size w))))
  refine ⟨⟨madeR a b c, .slice (some ⟨w.heap.size + 1, 0, none⟩) 1 1, .slice (some ⟨w.heap.size + 1 + 1, 0, none⟩) 1 1, .slice none 0 0, .slice (some ⟨w.heap.size + 1 + 1 + 1, 0, none⟩) 1 1⟩, rfl, rfl, ⟨?_, ?_, strsAt_none _, ?_⟩, ⟨newAt_ge (by omega), newAt_ge (by omega), newAt_none _, newAt_ge (by omega)⟩, hBB⟩
  · exact (strs_block _ 9 _ 1 _ [a] rfl rfl (by simp) (by omega)).below (below_al (below_al (Below.refl _ _)))
  · exact (strs_block _ 9 _ 1 _ [b] rfl rfl (by simp) (by omega)).below (below_al (Below.refl _ _))
  · exact strs_block _ 9 _ 1 _ [c] rfl rfl (by simp) (by omega)

def bR1 : Ru := madeR ⟨#[37, 46, 111]⟩ ⟨#[37, 46, 99]⟩ ⟨#[36, 40, 67, 67, 41, 32, 45, 99, 32, 36, 40, 67, 70, 76, 65, 71, 83, 41, 32, 45, 111, 32, 36, 64, 32, 36, 60]⟩
def bR2 : Ru := madeR ⟨#[37]⟩ ⟨#[37, 46, 111]⟩ ⟨#[36, 40, 67, 67, 41, 32, 36, 40, 76, 68, 70, 76, 65, 71, 83, 41, 32, 45, 111, 32, 36, 64, 32, 36, 94]⟩
def bR3 : Ru := madeR ⟨#[37]⟩ ⟨#[37, 46, 99]⟩ ⟨#[36, 40, 67, 67, 41, 32, 36, 40, 67, 70, 76, 65, 71, 83, 41, 32, 45, 111, 32, 36, 64, 32, 36, 60]⟩
def bR4 : Ru := madeR ⟨#[40, 37, 41]⟩ ⟨#[37]⟩ ⟨#[36, 40, 65, 82, 41, 32, 36, 40, 65, 82, 70, 76, 65, 71, 83, 41, 32, 36, 64, 32, 36, 60]⟩
def builtinRs : List Ru := [bR1, bR2, bR3, bR4]
theorem Pl.at.below {x : Pl} {w w' : World} (h : x.at w) (hb : Below w.heap.size w w') : x.at w' := RuAt.below h hb
theorem Pl.new.mono {x : Pl} {a b : Nat} (h : x.new b) (hab : a ≤ b) : x.new a := ⟨h.1.mono hab, h.2.1.mono hab, h.2.2.1.mono hab, h.2.2.2.mono hab⟩
theorem there_alloc (w : World) (cs : Array Value) (t : TypeId) (n : Nat) (h : cs.size = n) : (w.alloc (.cells cs t)).there w.heap.size 0 n := by
  intro j hj
  rw [Nat.zero_add]
  unfold World.cell? World.frozen?
  rw [heap_alloc_new]
  refine ⟨?_, ?_⟩
  · simp only [Option.isSome_none, Bool.false_eq_true, if_false]
    rw [Array.getElem?_eq_getElem (by omega)]; rfl
  · simp
theorem there_below {w w' : World} {b o n : Nat} (h : w.there b o n) (hb : Below w.heap.size w w') (hlt : b < w.heap.size) : w'.there b o n := by
  intro j hj
  rw [(bcell hb).1 b (o + j) hlt, (bcell hb).2 b (o + j) hlt]
  exact h j hj
theorem Pl.at.one {x : Pl} {w : World} (h : x.at w) : ∀ v ∈ x.cells, v.oneCell' = true := by
  obtain ⟨⟨_, _, _, h1⟩, ⟨_, _, _, h2⟩, ⟨_, _, _, h3⟩, ⟨_, _, _, h4⟩⟩ := RuAt.slices h
  intro v hv
  simp only [Pl.cells, h1, h2, h3, h4, List.mem_cons, List.not_mem_nil, or_false] at hv
  rcases hv with rfl | rfl | rfl | rfl | rfl | rfl | rfl | rfl | rfl | rfl | rfl <;> rfl
theorem below_setCells {B b : Nat} {a : World} (hb : B ≤ b) : ∀ (vs : List Value) (o : Nat) (w : World), Below B a w → Below B a (w.setCells b o vs)
  | [], _, _, h => h
  | v :: vs, o, w, h => below_setCells hb vs (o + 1) _ (h.setCell (by exact hb) v)
theorem setCells_size {b : Nat} : ∀ (vs : List Value) (o : Nat) (w : World), (w.setCells b o vs).heap.size = w.heap.size
  | [], _, _ => rfl
  | v :: vs, o, w => (setCells_size vs (o + 1) _).trans (by simp)
theorem StrsAt.setCells {base b : Nat} {v : Value} {l : List ByteArray} (hn : NewAt base v) (hb : b < base) : ∀ (vs : List Value) (o : Nat) (w : World), StrsAt w v l → StrsAt (w.setCells b o vs) v l
  | [], _, _, h => h
  | u :: vs, o, w, h => StrsAt.setCells hn hb vs (o + 1) _ (h.setCell hn hb)
theorem Pl.at.setCells {x : Pl} {w : World} {base b o : Nat} {vs : List Value} (h : x.at w) (hn : x.new base) (hb : b < base) : x.at (w.setCells b o vs) :=
  ⟨StrsAt.setCells hn.1 hb _ _ _ h.1, StrsAt.setCells hn.2.1 hb _ _ _ h.2.1, StrsAt.setCells hn.2.2.1 hb _ _ _ h.2.2.1, StrsAt.setCells hn.2.2.2 hb _ _ _ h.2.2.2⟩
theorem results_cell {fn : Func} {a : Nat} {t : TypeId} (h : fn.results = #[.cell a t]) (tmps : Array Value) (P : Program) (w : World) {p : Addr} {v : Value} (hp : tmps.getD a undef = .pointer (some p)) (hl : (loadVar t p).run P w = .ok v w) :
    (results fn tmps).run P w = .ok v w := by
  have hp' : tmps[a]?.getD undef = .pointer (some p) := by simpa using hp
  simp [results, h, hp', asAddr, hl]
theorem wpList_build {P : Program} {ops : Array Oper} {rest : List Oper} {o : Oper} {a : Act} {w : World} {Q : Exit → Act → World → Prop} (hg : o.guard = none) (t : TypeId) (ps : Array (Nat × Operand)) (hop : o.op = Op.build t ps)
    (vs : Array (Nat × Value)) (hvs : (ps.map fun (i, x) => (i, a.eval x)) = vs) (cells : Array Value) (hb : P.built t vs.toList = some cells) (hK : wpList P ops Q rest (a.put o.dst (.agg cells)) w) : wpList P ops Q (o :: rest) a w := by
  subst hvs
  refine wpList_plain hg fun K' hK' => ?_
  unfold Oper.wp
  simp only [execOp, hop, Sem.run_bind, run_build w t _ cells hb, Result.andThen]
  exact hK' _ _ hK
set_option maxHeartbeats 1000000 in
theorem builtins_calls (w : World) :
    Calls Try.prog 24 #[] w fun e w' => ∃ x1 x2 x3 x4 : Pl, e = .returned (.agg (flat [x1, x2, x3, x4]).toArray) ∧ (x1.r = bR1 ∧ x2.r = bR2 ∧ x3.r = bR3 ∧ x4.r = bR4) ∧
      (x1.at w' ∧ x2.at w' ∧ x3.at w' ∧ x4.at w') ∧ (x1.new w.heap.size ∧ x2.new w.heap.size ∧ x3.new w.heap.size ∧ x4.new w.heap.size) ∧ Below w.heap.size w w' := by
  go_enter Try.func24, Try.ntmps24
  go_wp2_with fail
  have hth0 : (w.alloc (.cells #[Value.slice none 0 0, .slice none 0 0, .slice none 0 0, .bool false, .bool false, .bool false, .string ⟨#[]⟩, .slice none 0 0, .bool false, .string ⟨#[]⟩, .bool false, Value.slice none 0 0, .slice none 0 0, .slice none 0 0, .bool false, .bool false, .bool false, .string ⟨#[]⟩, .slice none 0 0, .bool false, .string ⟨#[]⟩, .bool false, Value.slice none 0 0, .slice none 0 0, .slice none 0 0, .bool false, .bool false, .bool false, .string ⟨#[]⟩, .slice none 0 0, .bool false, .string ⟨#[]⟩, .bool false, Value.slice none 0 0, .slice none 0 0, .slice none 0 0, .bool false, .bool false, .bool false, .string ⟨#[]⟩, .slice none 0 0, .bool false, .string ⟨#[]⟩, .bool false] 61)).there w.heap.size 0 44 := there_alloc w _ 61 44 rfl
  have hb0 : Below w.heap.size w (w.alloc (.cells #[Value.slice none 0 0, .slice none 0 0, .slice none 0 0, .bool false, .bool false, .bool false, .string ⟨#[]⟩, .slice none 0 0, .bool false, .string ⟨#[]⟩, .bool false, Value.slice none 0 0, .slice none 0 0, .slice none 0 0, .bool false, .bool false, .bool false, .string ⟨#[]⟩, .slice none 0 0, .bool false, .string ⟨#[]⟩, .bool false, Value.slice none 0 0, .slice none 0 0, .slice none 0 0, .bool false, .bool false, .bool false, .string ⟨#[]⟩, .slice none 0 0, .bool false, .string ⟨#[]⟩, .bool false, Value.slice none 0 0, .slice none 0 0, .slice none 0 0, .bool false, .bool false, .bool false, .string ⟨#[]⟩, .slice none 0 0, .bool false, .string ⟨#[]⟩, .bool false] 61)) := below_al (Below.refl w.heap.size w)
  have hz0 : w.heap.size < (w.alloc (.cells #[Value.slice none 0 0, .slice none 0 0, .slice none 0 0, .bool false, .bool false, .bool false, .string ⟨#[]⟩, .slice none 0 0, .bool false, .string ⟨#[]⟩, .bool false, Value.slice none 0 0, .slice none 0 0, .slice none 0 0, .bool false, .bool false, .bool false, .string ⟨#[]⟩, .slice none 0 0, .bool false, .string ⟨#[]⟩, .bool false, Value.slice none 0 0, .slice none 0 0, .slice none 0 0, .bool false, .bool false, .bool false, .string ⟨#[]⟩, .slice none 0 0, .bool false, .string ⟨#[]⟩, .bool false, Value.slice none 0 0, .slice none 0 0, .slice none 0 0, .bool false, .bool false, .bool false, .string ⟨#[]⟩, .slice none 0 0, .bool false, .string ⟨#[]⟩, .bool false] 61)).heap.size := by simp
  generalize w.alloc (.cells #[Value.slice none 0 0, .slice none 0 0, .slice none 0 0, .bool false, .bool false, .bool false, .string ⟨#[]⟩, .slice none 0 0, .bool false, .string ⟨#[]⟩, .bool false, Value.slice none 0 0, .slice none 0 0, .slice none 0 0, .bool false, .bool false, .bool false, .string ⟨#[]⟩, .slice none 0 0, .bool false, .string ⟨#[]⟩, .bool false, Value.slice none 0 0, .slice none 0 0, .slice none 0 0, .bool false, .bool false, .bool false, .string ⟨#[]⟩, .slice none 0 0, .bool false, .string ⟨#[]⟩, .bool false, Value.slice none 0 0, .slice none 0 0, .slice none 0 0, .bool false, .bool false, .bool false, .string ⟨#[]⟩, .slice none 0 0, .bool false, .string ⟨#[]⟩, .bool false] 61) = w0 at hth0 hb0 hz0 ⊢
  have hi61 : (Try.prog.info? 61).map (·.size) = some 44 := by kernel_rfl
  refine (made_calls ⟨#[37, 46, 111]⟩ ⟨#[37, 46, 99]⟩ ⟨#[36, 40, 67, 67, 41, 32, 45, 99, 32, 36, 40, 67, 70, 76, 65, 71, 83, 41, 32, 45, 111, 32, 36, 64, 32, 36, 60]⟩ _).mono ?_
  rintro e w1 ⟨x1, rfl, e1, a1, n1, d1⟩
  have e1' := Lib.hid (show x1.r = bR1 from e1)
  have a1' := Lib.hid a1
  have n1' := Lib.hid (n1.mono (show w.heap.size + 1 ≤ _ from hz0))
  have hth1 := there_below hth0 d1 hz0
  have hb1 := d1.mono' hb0
  have hz1 : w.heap.size < w1.heap.size := Nat.lt_of_lt_of_le hz0 d1.size
  have d1' := Lib.hid d1
  clear e1 a1 n1 d1 hth0 hb0 hz0
  go_wp2_with fail
  refine (made_calls ⟨#[37]⟩ ⟨#[37, 46, 111]⟩ ⟨#[36, 40, 67, 67, 41, 32, 36, 40, 76, 68, 70, 76, 65, 71, 83, 41, 32, 45, 111, 32, 36, 64, 32, 36, 94]⟩ _).mono ?_
  rintro e w2 ⟨x2, rfl, e2, a2, n2, d2⟩
  have e2' := Lib.hid (show x2.r = bR2 from e2)
  have a2' := Lib.hid a2
  have n2' := Lib.hid (n2.mono (show w.heap.size + 1 ≤ _ from hz1))
  have hth2 := there_below hth1 d2 hz1
  have hb2 := d2.mono' hb1
  have hz2 : w.heap.size < w2.heap.size := Nat.lt_of_lt_of_le hz1 d2.size
  have d2' := Lib.hid d2
  clear e2 a2 n2 d2 hth1 hb1 hz1
  go_wp2_with fail
  refine (made_calls ⟨#[37]⟩ ⟨#[37, 46, 99]⟩ ⟨#[36, 40, 67, 67, 41, 32, 36, 40, 67, 70, 76, 65, 71, 83, 41, 32, 45, 111, 32, 36, 64, 32, 36, 60]⟩ _).mono ?_
  rintro e w3 ⟨x3, rfl, e3, a3, n3, d3⟩
  have e3' := Lib.hid (show x3.r = bR3 from e3)
  have a3' := Lib.hid a3
  have n3' := Lib.hid (n3.mono (show w.heap.size + 1 ≤ _ from hz2))
  have hth3 := there_below hth2 d3 hz2
  have hb3 := d3.mono' hb2
  have hz3 : w.heap.size < w3.heap.size := Nat.lt_of_lt_of_le hz2 d3.size
  have d3' := Lib.hid d3
  clear e3 a3 n3 d3 hth2 hb2 hz2
  go_wp2_with fail
  refine (made_calls ⟨#[40, 37, 41]⟩ ⟨#[37]⟩ ⟨#[36, 40, 65, 82, 41, 32, 36, 40, 65, 82, 70, 76, 65, 71, 83, 41, 32, 36, 64, 32, 36, 60]⟩ _).mono ?_
  rintro e w4 ⟨x4, rfl, e4, a4, n4, d4⟩
  have e4' := Lib.hid (show x4.r = bR4 from e4)
  have a4' := Lib.hid a4
  have n4' := Lib.hid (n4.mono (show w.heap.size + 1 ≤ _ from hz3))
  have hth4 := there_below hth3 d4 hz3
  have hb4 := d4.mono' hb3
  have hz4 : w.heap.size < w4.heap.size := Nat.lt_of_lt_of_le hz3 d4.size
  have d4' := Lib.hid d4
  clear e4 a4 n4 d4 hth3 hb3 hz3
  have hbuilt : Try.prog.built 61 [(0, .agg x1.cells.toArray), (1, .agg x2.cells.toArray), (2, .agg x3.cells.toArray), (3, .agg x4.cells.toArray)] = some (flat [x1, x2, x3, x4]).toArray := by kernel_rfl
  have hone : (flat [x1, x2, x3, x4]).toArray.all (·.oneCell') = true := by
    refine all_oneCell_toArray fun v hv => ?_
    simp only [flat, List.append_nil, List.mem_append] at hv
    rcases hv with hv | hv | hv | hv
    · exact a1'.out.one v hv
    · exact a2'.out.one v hv
    · exact a3'.out.one v hv
    · exact a4'.out.one v hv
  have hth5 : w4.there w.heap.size 0 (flat [x1, x2, x3, x4]).toArray.size := by
    show w4.there w.heap.size 0 (flat [x1, x2, x3, x4]).length; rw [flat_length]; exact hth4
  have hi5 : (Try.prog.info? 61).map (·.size) = some (flat [x1, x2, x3, x4]).toArray.size := by
    show _ = some (flat [x1, x2, x3, x4]).length; rw [flat_length]; exact hi61
  clear hth4 hi61
  dsimp only
  go_step
  refine wpList_build rfl 61 _ rfl #[(0, .agg x1.cells.toArray), (1, .agg x2.cells.toArray), (2, .agg x3.cells.toArray), (3, .agg x4.cells.toArray)] (by simp [go_sem]) _ hbuilt ?_
  refine wpList_store_mid rfl 61 (.tmp 0) (.tmp 10) rfl w.heap.size 0 (flat [x1, x2, x3, x4]).toArray rfl rfl hth5 hi5 hone ?_
  have hr : (w4.setCells w.heap.size 0 (flat [x1, x2, x3, x4])).rangeAt w.heap.size 0 (flat [x1, x2, x3, x4]) := World.rangeAt_setCells_same _ _ _ _ hth5
  have hbs := Lib.hid (below_setCells (Nat.le_refl _) (flat [x1, x2, x3, x4]) 0 w4 hb4)
  have r4 := Lib.hid (a4'.out.setCells (o := 0) (vs := flat [x1, x2, x3, x4]) n4'.out (Nat.lt_succ_self _))
  have r3 := Lib.hid ((a3'.out.below d4'.out).setCells (o := 0) (vs := flat [x1, x2, x3, x4]) n3'.out (Nat.lt_succ_self _))
  have r2 := Lib.hid (((a2'.out.below d3'.out).below d4'.out).setCells (o := 0) (vs := flat [x1, x2, x3, x4]) n2'.out (Nat.lt_succ_self _))
  have r1 := Lib.hid ((((a1'.out.below d2'.out).below d3'.out).below d4'.out).setCells (o := 0) (vs := flat [x1, x2, x3, x4]) n1'.out (Nat.lt_succ_self _))
  change wpList _ _ _ _ _ (w4.setCells w.heap.size 0 (flat [x1, x2, x3, x4]))
  generalize w4.setCells w.heap.size 0 (flat [x1, x2, x3, x4]) = w5 at hr hbs r1 r2 r3 r4 ⊢
  go_wp2_with fail
  obtain ⟨d, hu, hd⟩ : ∃ d, Try.prog.underlying 61 = some d ∧ d.isRow = true := ⟨_, Try.underlying61, rfl⟩
  have hld := run_loadVar_mid w5 w.heap.size 0 61 (flat [x1, x2, x3, x4]) d hr hu hd hi5
  refine bodyPost_ret (v := .agg (flat [x1, x2, x3, x4]).toArray) (results_cell rfl _ _ _ rfl hld) rfl ?_
  exact ⟨x1, x2, x3, x4, rfl, ⟨e1'.out, e2'.out, e3'.out, e4'.out⟩, ⟨r1.out, r2.out, r3.out, r4.out⟩, ⟨n1'.out.mono (by omega), n2'.out.mono (by omega), n3'.out.mono (by omega), n4'.out.mono (by omega)⟩, hbs.out⟩
end Go.Proofs.Ytfnmncghgmnaaab
