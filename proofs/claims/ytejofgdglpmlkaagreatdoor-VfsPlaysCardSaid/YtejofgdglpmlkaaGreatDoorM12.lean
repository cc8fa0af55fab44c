/-
  Trees that are right: what each call of a file system makes of one is right again. Plain Lean. Conditions: none.
  The reference's own paths as lists of bytes: names, the clean form, what is a path, the parent. Plain Lean. Conditions: none.
-/
import Derived.Test.YtejofgdglpmlkaaGreatDoorM09
import Derived.Test.YtejofgdglpmlkaaGreatDoorM11
import Derived.Test.YtejofgdglpmlkaaGreatDoorM10
import Derived.Test.YtejofgdglpmlkaaGreatDoorM06
namespace Go.Proofs.YtejofgdglpmlkaaGreatDoor
open Go.RowKit

def dirAt (st : St) (p : Bs) : Prop := p = [] ∨ ∃ m, find st p = some m ∧ m.dir = true
/-- A tree that is right. -/
structure Wf (st : St) (clock room : Int) : Prop where make ::
  rising : Rising st
  node : ∀ p n, find st p = some n → validB p = true ∧ p ≠ [] ∧ dirAt st (parentP p) ∧ (n.dir = true → n.data.length = 0) ∧ (n.dir = false → n.data.length ≤ 65536) ∧ 0 ≤ n.time ∧ n.time ≤ clock
  len : st.length ≤ 1000
  wt : (wt st : Int) ≤ room
  clk : 0 ≤ clock ∧ clock ≤ 1099511629824
  rm : 0 ≤ room ∧ room ≤ 1048576
theorem lt_more : ∀ (a b : Bs), b ≠ [] → a < a ++ b
  | [], b, h => by
    cases b with
    | nil => exact absurd rfl h
    | cons c r => exact List.nil_lt_cons ..
  | c :: a, b, h => by
    rw [List.cons_append]
    exact List.cons_lt_cons_iff.2 (Or.inr ⟨rfl, lt_more a b h⟩)
theorem parent_form {p : Bs} (hv : validB p = true) (h0 : p ≠ []) : parentP p = [] ∨ ∃ x, p = parentP p ++ 47 :: x := by
  have hc : joinS (cnames p) = p := (validB_iff.1 hv).2.1
  unfold parentP
  rcases snoc_cases (cnames p) with e | ⟨a, x, e⟩
  · left; rw [e]; rfl
  · rw [e, List.dropLast_concat]
    cases a with
    | nil => left; rfl
    | cons y r =>
      right
      refine ⟨x, ?_⟩
      rw [e, joinS_snoc (by simp)] at hc
      exact hc.symm
theorem parent_lt {p : Bs} (hv : validB p = true) (h0 : p ≠ []) : parentP p < p := by
  rcases parent_form hv h0 with e | ⟨x, e⟩
  · rw [e]
    cases p with
    | nil => exact absurd rfl h0
    | cons c r => exact List.nil_lt_cons ..
  · have := lt_more (parentP p) (47 :: x) (by simp)
    rwa [← e] at this
theorem isDirB_iff {st : St} (hr : Rising st) {p : Bs} : isDirB st p = true ↔ dirAt st p := by
  unfold isDirB dirAt
  simp only [Bool.or_eq_true, decide_eq_true_eq, List.any_eq_true, Bool.and_eq_true]
  constructor
  · rintro (h | ⟨x, hx, h1, h2⟩)
    · exact Or.inl h
    · exact Or.inr ⟨x.2, find_of_mem hr (by rw [← h2]; exact hx), h1⟩
  · rintro (h | ⟨m, h1, h2⟩)
    · exact Or.inl h
    · exact Or.inr ⟨(p, m), find_mem h1, h2, rfl⟩
theorem Wf.mem {st : St} {clock room : Int} (h : Wf st clock room) {x : Bs × PN} (hx : x ∈ st) : find st x.1 = some x.2 := find_of_mem h.rising hx
theorem wf_okFrom {st : St} {clock room : Int} (h : Wf st clock room) : ∀ (l pre : St), st = pre ++ l → okFrom clock pre l = true
  | [], _, _ => rfl
  | x :: r, pre, e => by
    have hx : x ∈ st := by rw [e]; simp
    obtain ⟨h1, h2, h3, h4, h5, h6, h7⟩ := h.node x.1 x.2 (h.mem hx)
    have hr := h.rising
    rw [e] at hr
    have hpw := List.pairwise_append.1 hr
    have hpr : Rising pre := hpw.1
    have hge : ∀ y ∈ x :: r, ¬ y.1 < x.1 := fun y hy hlt => by
      rcases List.mem_cons.1 hy with rfl | hy
      · exact List.lt_irrefl _ hlt
      · have := (List.pairwise_cons.1 hpw.2.1).1 y hy
        exact List.lt_irrefl _ (List.lt_trans this hlt)
    rw [okFrom, Bool.and_eq_true]
    refine ⟨okNode_of h1 h2 (fun y hy => hpw.2.2 y (List.mem_of_getLast? hy) x (by simp)) ?_ h4 h6 h7, wf_okFrom h r (pre ++ [x]) (by rw [e]; simp)⟩
    rw [isDirB_iff hpr]
    rcases h3 with h3 | ⟨m, hm, hmd⟩
    · exact Or.inl h3
    · right
      have hmem := find_mem hm
      rw [e] at hmem
      rcases List.mem_append.1 hmem with hmem | hmem
      · exact ⟨m, find_of_mem hpr hmem, hmd⟩
      · exact absurd (parent_lt h1 h2) (hge _ hmem)
theorem Wf.right {st : St} {clock room : Int} (h : Wf st clock room) (hc : clock ≤ 1099511627776) : rightP st clock room = 0 := by
  have hl := h.len
  have hw := h.wt
  obtain ⟨c1, c2⟩ := h.clk
  obtain ⟨r1, r2⟩ := h.rm
  have hany : st.any longN = false := by
    rw [← Bool.not_eq_true, List.any_eq_true]
    rintro ⟨x, hx, hlong⟩
    unfold longN at hlong
    simp only [Bool.and_eq_true, Bool.not_eq_true', decide_eq_true_eq] at hlong
    have := (h.node x.1 x.2 (h.mem hx)).2.2.2.2.1 hlong.1
    omega
  unfold rightP
  rw [if_neg (by omega), if_neg (by rw [hany]; simp), if_neg (by unfold badArg; simp; omega), if_neg (by rw [wf_okFrom h st [] rfl]; simp), if_neg (by omega)]
theorem okFrom_all {clock : Int} {l : St} (h : okFrom clock [] l = true) : ∀ k, k ≤ l.length → okFrom clock (l.take k) (l.drop k) = true ∧ okAll clock l k
  | 0, _ => ⟨h, fun j x hj => absurd hj (Nat.not_lt_zero _)⟩
  | k + 1, hk => by
    obtain ⟨h1, h2⟩ := okFrom_all h k (by omega)
    have hx : l[k]? = some (l[k]'hk) := List.getElem?_eq_getElem hk
    rw [okFrom_drop hx, Bool.and_eq_true] at h1
    exact ⟨h1.2, h2.next hx h1.1⟩
theorem dirAt_take {st : St} (hr : Rising st) {k : Nat} {p : Bs} (h : isDirB (st.take k) p = true) : dirAt st p := by
  unfold isDirB at h
  simp only [Bool.or_eq_true, decide_eq_true_eq, List.any_eq_true, Bool.and_eq_true] at h
  rcases h with h | ⟨x, hx, h1, h2⟩
  · exact Or.inl h
  · exact Or.inr ⟨x.2, find_of_mem hr (by rw [← h2]; exact List.mem_of_mem_take hx), h1⟩
theorem wf_of_right {st : St} {clock room : Int} (h : rightP st clock room = 0) : Wf st clock room := by
  unfold rightP at h
  split at h
  · cases h
  rename_i g1
  split at h
  · cases h
  rename_i g2
  split at h
  · cases h
  rename_i g3
  split at h
  · cases h
  rename_i g4
  split at h
  · cases h
  rename_i g5
  have hok : okFrom clock [] st = true := by simpa using g4
  obtain ⟨-, hall⟩ := okFrom_all hok st.length (Nat.le_refl _)
  have hr := hall.rising (Nat.le_refl _)
  rw [List.take_length] at hr
  unfold badArg at g3
  simp only [Bool.or_eq_true, decide_eq_true_eq, not_or, Int.not_lt] at g3
  refine ⟨hr, fun p n hf => ?_, by omega, by omega, by omega, by omega⟩
  obtain ⟨k, hk⟩ := List.getElem?_of_mem (find_mem hf)
  have hkl := (List.getElem?_eq_some_iff.1 hk).1
  obtain ⟨v1, v2, v3, v4, v5, v6, v7⟩ := okNode_parts (hall k _ hkl hk)
  refine ⟨v1, v2, dirAt_take hr v4, v5, fun hd => ?_, v6, v7⟩
  have : longN (p, n) = false := by
    rw [← Bool.not_eq_true]
    exact fun e => g2 (any_of (find_mem hf) e)
  unfold longN at this
  rw [show (p, n).2.dir = false from hd] at this
  simpa using this

theorem chk_mem {st : St} : ∀ {us : List Bs}, chk st us = Option.none → ∀ u ∈ us, ∃ m, find st u = some m ∧ m.dir = true
  | [], _, _, hu => by cases hu
  | v :: r, h, u, hu => by
    rw [chk] at h
    cases hf : find st v with
    | none => rw [hf] at h; cases h
    | some n =>
      rw [hf] at h
      simp only at h
      cases hd : n.dir with
      | false => rw [hd] at h; cases h
      | true =>
        rw [hd, if_pos rfl] at h
        rcases List.mem_cons.1 hu with rfl | hu
        · exact ⟨n, hf, hd⟩
        · exact chk_mem h u hu
theorem ups_mem : ∀ (xs r pre : Bs), (pre ++ xs) ∈ upsFrom pre (xs ++ 47 :: r)
  | [], r, pre => by rw [List.nil_append, List.append_nil, upsFrom_slash]; exact List.mem_cons_self ..
  | c :: xs, r, pre => by
    have := ups_mem xs r (pre ++ [c])
    rw [List.append_assoc, List.singleton_append] at this
    rw [List.cons_append, upsFrom]
    split
    · exact List.mem_cons_of_mem _ this
    · exact this
theorem look_parent {st : St} {q : Bs} (h : lookQ st q = .none ∨ ∃ n, lookQ st q = .node n) : dirAt st (parentP q) := by
  obtain ⟨h1, h2, h3⟩ := lookQ_valid h
  rcases parent_form h1 h2 with e | ⟨x, e⟩
  · exact Or.inl e
  · right
    refine chk_mem h3 _ ?_
    have := ups_mem (parentP q) x []
    rw [← e, List.nil_append] at this
    exact this

/-- What a call answers, and leaves. -/
abbrev Res := Int × St × Int
/-- What VfsRight asks of a call. -/
structure Step (st : St) (clock room : Int) (r : Res) : Prop where make ::
  err : r.1 ≠ 0 → r.2.1 = st ∧ r.2.2 = clock
  clk : r.2.2 = clock ∨ r.2.2 = clock + 1
  same : r.2.2 = clock → r.2.1 = st
  wf : Wf st clock room → clock < 1099511629824 → Wf r.2.1 r.2.2 room
theorem Step.stay {st : St} {clock room c : Int} {r : Res} (h : r = (c, st, clock)) : Step st clock room r := by
  subst h
  exact ⟨fun _ => ⟨rfl, rfl⟩, Or.inl rfl, fun _ => rfl, fun h _ => h⟩
theorem Step.done {st st' : St} {clock room : Int} {r : Res} (h : r = (0, st', clock + 1)) (hw : Wf st clock room → clock < 1099511629824 → Wf st' (clock + 1) room) : Step st clock room r := by
  subst h
  exact ⟨fun h => absurd rfl h, Or.inr rfl, fun h => by have h : clock + 1 = clock := h; omega, hw⟩
theorem wf_put {st : St} {clock room : Int} {q : Bs} {n : PN} (h : Wf st clock room) (hc : clock < 1099511629824) (hq : lookQ st q = .none ∨ ∃ m, lookQ st q = .node m) (hk : ∀ m, find st q = some m → m.dir = true → n.dir = true) (h1 : n.dir = true → n.data.length = 0) (h2 : n.dir = false → n.data.length ≤ 65536) (h3 : 0 ≤ n.time ∧ n.time ≤ clock + 1)
    (hl : (putSt st q n).length ≤ 1000) (hw : (wt (putSt st q n) : Int) ≤ room) : Wf (putSt st q n) (clock + 1) room := by
  obtain ⟨v1, v2, -⟩ := lookQ_valid hq
  have hd : ∀ p, dirAt st p → dirAt (putSt st q n) p := by
    rintro p (e | ⟨m, hm, hmd⟩)
    · exact Or.inl e
    · right
      rw [find_put]
      by_cases e : p = q
      · rw [if_pos e]
        subst e
        exact ⟨n, rfl, hk m hm hmd⟩
      · rw [if_neg e]; exact ⟨m, hm, hmd⟩
  have hclk := h.clk
  refine ⟨rising_put q n h.rising, fun p m hm => ?_, hl, hw, by omega, h.rm⟩
  rw [find_put] at hm
  by_cases e : p = q
  · rw [if_pos e] at hm
    injection hm with hm
    subst hm e
    exact ⟨v1, v2, hd _ (look_parent hq), h1, h2, h3⟩
  · rw [if_neg e] at hm
    obtain ⟨g1, g2, g3, g4, g5, g6, g7⟩ := h.node p m hm
    exact ⟨g1, g2, hd _ g3, g4, g5, g6, by omega⟩
theorem lookQ_find' {st : St} {q : Bs} : (lookQ st q = .none → find st q = Option.none) ∧ ∀ n, lookQ st q = .node n → find st q = some n := ⟨lookQ_find.1, lookQ_find.2⟩
theorem write_step {st : St} {clock room : Int} {q bb : Bs} (hq : lookQ st q = .none) : Step st clock room (writeTail st clock room q [] bb 1 bb.length) := by
  unfold writeTail
  split
  · exact Step.stay rfl
  · split
    · exact Step.stay rfl
    · rename_i g1 g2
      refine Step.done rfl fun h hc => ?_
      have hf := lookQ_find.1 hq
      unfold fitsB at g2
      simp only [Bool.not_eq_false, Bool.and_eq_true, decide_eq_true_eq] at g2
      have h1 := len_put q ⟨false, clock + 1, [] ++ bb⟩ h.rising
      have h2 := wt_put q ⟨false, clock + 1, [] ++ bb⟩ h.rising
      rw [hf] at h1 h2
      simp [own1] at h1 h2
      have hclk := h.clk
      refine wf_put h hc (Or.inl hq) (fun m hm => by rw [hf] at hm; cases hm) (fun e => by cases e) (fun _ => by simp at g1 ⊢; omega) ⟨by show 0 ≤ clock + 1; omega, by show clock + 1 ≤ clock + 1; omega⟩ ?_ ?_
      · simp; omega
      · simp; omega
theorem over_step {st : St} {clock room : Int} {q bb : Bs} {n : PN} (hq : lookQ st q = .node n) (hd : n.dir = false) : Step st clock room (writeTail st clock room q [] bb 0 ((bb.length : Int) - n.data.length)) := by
  unfold writeTail
  split
  · exact Step.stay rfl
  · split
    · exact Step.stay rfl
    · rename_i g1 g2
      refine Step.done rfl fun h hc => ?_
      have hf := lookQ_find.2 n hq
      unfold fitsB at g2
      simp only [Bool.not_eq_false, Bool.and_eq_true, decide_eq_true_eq] at g2
      have h1 := len_put q ⟨false, clock + 1, [] ++ bb⟩ h.rising
      have h2 := wt_put q ⟨false, clock + 1, [] ++ bb⟩ h.rising
      rw [hf] at h1 h2
      simp [own1] at h1 h2
      have hclk := h.clk
      have hlen := h.len
      refine wf_put h hc (Or.inr ⟨n, hq⟩) (fun m hm hmd => by rw [hf] at hm; injection hm with hm; subst hm; rw [hd] at hmd; cases hmd) (fun e => by cases e) (fun _ => by simp at g1 ⊢; omega) ⟨by show 0 ≤ clock + 1; omega, by show clock + 1 ≤ clock + 1; omega⟩ ?_ ?_
      · simp; omega
      · simp; omega
theorem add_step {st : St} {clock room : Int} {q bb : Bs} {n : PN} (hq : lookQ st q = .node n) (hd : n.dir = false) : Step st clock room (writeTail st clock room q n.data bb 0 (bb.length : Int)) := by
  unfold writeTail
  split
  · exact Step.stay rfl
  · split
    · exact Step.stay rfl
    · rename_i g1 g2
      refine Step.done rfl fun h hc => ?_
      have hf := lookQ_find.2 n hq
      unfold fitsB at g2
      simp only [Bool.not_eq_false, Bool.and_eq_true, decide_eq_true_eq] at g2
      have h1 := len_put q ⟨false, clock + 1, n.data ++ bb⟩ h.rising
      have h2 := wt_put q ⟨false, clock + 1, n.data ++ bb⟩ h.rising
      rw [hf] at h1 h2
      simp [own1] at h1 h2
      have hclk := h.clk
      have hlen := h.len
      refine wf_put h hc (Or.inr ⟨n, hq⟩) (fun m hm hmd => by rw [hf] at hm; injection hm with hm; subst hm; rw [hd] at hmd; cases hmd) (fun e => by cases e) (fun _ => by simp at g1 ⊢; omega) ⟨by show 0 ≤ clock + 1; omega, by show clock + 1 ≤ clock + 1; omega⟩ ?_ ?_
      · omega
      · omega
/-- A node more: a directory, or an empty file. -/
def newP (st : St) (clock room : Int) (q : Bs) (d : Bool) : Res := if fitsB st room 1 0 = false then (15, st, clock) else (0, putSt st q ⟨d, clock + 1, []⟩, clock + 1)
theorem new_step {st : St} {clock room : Int} {q : Bs} {d : Bool} (hq : lookQ st q = .none) : Step st clock room (newP st clock room q d) := by
  unfold newP
  split
  · exact Step.stay rfl
  · rename_i g2
    refine Step.done rfl fun h hc => ?_
    have hf := lookQ_find.1 hq
    unfold fitsB at g2
    simp only [Bool.not_eq_false, Bool.and_eq_true, decide_eq_true_eq] at g2
    have h1 := len_put q ⟨d, clock + 1, []⟩ h.rising
    have h2 := wt_put q ⟨d, clock + 1, []⟩ h.rising
    rw [hf] at h1 h2
    simp [own1] at h1 h2
    have hclk := h.clk
    exact wf_put h hc (Or.inl hq) (fun m hm => by rw [hf] at hm; cases hm) (fun _ => rfl) (fun _ => Nat.zero_le _) ⟨by show 0 ≤ clock + 1; omega, by show clock + 1 ≤ clock + 1; omega⟩ (by omega) (by omega)
/-- A node's new time. -/
def touchP (st : St) (clock : Int) (q : Bs) (n : PN) : Res := (0, putSt st q ⟨n.dir, clock + 1, n.data⟩, clock + 1)
theorem touch_step {st : St} {clock room : Int} {q : Bs} {n : PN} (hq : lookQ st q = .node n) : Step st clock room (touchP st clock q n) := by
  refine Step.done rfl fun h hc => ?_
  have hf := lookQ_find.2 n hq
  have h1 := len_put q ⟨n.dir, clock + 1, n.data⟩ h.rising
  have h2 := wt_put q ⟨n.dir, clock + 1, n.data⟩ h.rising
  rw [hf] at h1 h2
  simp [own1] at h1 h2
  have hclk := h.clk
  have hlen := h.len
  have hwt := h.wt
  obtain ⟨-, -, -, g4, g5, -, -⟩ := h.node q n hf
  exact wf_put h hc (Or.inr ⟨n, hq⟩) (fun m hm hmd => by rw [hf] at hm; injection hm with hm; subst hm; exact hmd) g4 g5 ⟨by show 0 ≤ clock + 1; omega, by show clock + 1 ≤ clock + 1; omega⟩ (by omega) (by omega)
theorem below_not {st : St} {q p : Bs} {m : PN} (hb : belowQ st q = false) (hm : find st p = some m) (hv : validB p = true) (h0 : p ≠ []) (hq : q ≠ []) : parentP p ≠ q := by
  intro e
  rcases parent_form hv h0 with e' | ⟨x, e'⟩
  · exact hq (by rw [← e, e'])
  · unfold belowQ at hb
    rw [← Bool.not_eq_true, List.any_eq_true] at hb
    refine hb ⟨(p, m), find_mem hm, ?_⟩
    rw [e'] 
    show Lib.hasPrefix (parentP p ++ 47 :: x) (q ++ [47]) = true
    rw [e]
    unfold Lib.hasPrefix
    simp
theorem remove_step {st : St} {clock room : Int} {q : Bs} {n : PN} (hq : lookQ st q = .node n) : Step st clock room (removeP st clock q n) := by
  unfold removeP
  split
  · exact Step.stay rfl
  · rename_i g
    refine Step.done rfl fun h hc => ?_
    have hf := lookQ_find.2 n hq
    obtain ⟨v1, v2, -⟩ := lookQ_valid (Or.inr ⟨n, hq⟩)
    have h1 := len_del q h.rising
    have h2 := wt_del q h.rising
    rw [hf] at h1 h2
    simp [own1] at h1 h2
    have hclk := h.clk
    have hlen := h.len
    have hwt := h.wt
    refine ⟨rising_del q h.rising, fun p m hm => ?_, by omega, by omega, by omega, h.rm⟩
    rw [find_del] at hm
    split at hm
    · cases hm
    · rename_i hpq
      obtain ⟨g1, g2, g3, g4, g5, g6, g7⟩ := h.node p m hm
      refine ⟨g1, g2, ?_, g4, g5, g6, by omega⟩
      rcases g3 with g3 | ⟨k, hk, hkd⟩
      · exact Or.inl g3
      · right
        have hne : parentP p ≠ q := by
          cases hd : n.dir with
          | true =>
            rw [hd, Bool.true_and] at g
            exact below_not (by simpa using g) hm g1 g2 v2
          | false =>
            intro e
            rw [e, hf] at hk
            injection hk with hk
            subst hk
            rw [hd] at hkd; cases hkd
        rw [find_del, if_neg hne]
        exact ⟨k, hk, hkd⟩
def renameP (st : St) (clock : Int) (p q : Bs) (n : PN) : Res := (0, delSt (putSt st q n) p, clock + 1)
theorem rename_step {st : St} {clock room : Int} {p q : Bs} {n : PN} (hp : lookQ st p = .node n) (hpd : n.dir = false) (hq : lookQ st q = .none ∨ ∃ m, lookQ st q = .node m ∧ m.dir = false) (hne : p ≠ q) : Step st clock room (renameP st clock p q n) := by
  refine Step.done rfl fun h hc => ?_
  have hf := lookQ_find.2 n hp
  have hq' : lookQ st q = .none ∨ ∃ m, lookQ st q = .node m := hq.imp id (fun ⟨m, h, _⟩ => ⟨m, h⟩)
  obtain ⟨v1, v2, -⟩ := lookQ_valid hq'
  have hqf : ∀ m, find st q = some m → m.dir = false := by
    rcases hq with h | ⟨m, h, hd⟩
    · intro m hm; rw [lookQ_find.1 h] at hm; cases hm
    · intro m' hm; rw [lookQ_find.2 m h] at hm; injection hm with hm; subst hm; exact hd
  have h1 := len_put q n h.rising
  have h2 := wt_put q n h.rising
  have hrp := rising_put q n h.rising
  have h3 := len_del p hrp
  have h4 := wt_del p hrp
  rw [find_put, if_neg hne, hf] at h3 h4
  simp [own1] at h3 h4
  have hclk := h.clk
  have hlen := h.len
  have hwt := h.wt
  have hfind : ∀ r, find (delSt (putSt st q n) p) r = if r = p then Option.none else if r = q then some n else find st r := fun r => by rw [find_del, find_put]
  have hdir : ∀ u, dirAt st u → dirAt (delSt (putSt st q n) p) u := by
    rintro u (e | ⟨k, hk, hkd⟩)
    · exact Or.inl e
    · right
      have n1 : u ≠ p := fun e => by rw [e, hf] at hk; injection hk with hk; subst hk; rw [hpd] at hkd; cases hkd
      have n2 : u ≠ q := fun e => by rw [e] at hk; have := hqf k hk; rw [this] at hkd; cases hkd
      rw [hfind, if_neg n1, if_neg n2]
      exact ⟨k, hk, hkd⟩
  have hlen2 : (putSt st q n).length ≤ st.length + 1 := by rw [h1]; split <;> omega
  obtain ⟨-, -, -, f4, f5, f6, f7⟩ := h.node p n hf
  refine ⟨rising_del p hrp, fun r m hm => ?_, by omega, by omega, by omega, h.rm⟩
  rw [hfind] at hm
  split at hm
  · cases hm
  · split at hm
    · rename_i e
      injection hm with hm
      subst hm e
      exact ⟨v1, v2, hdir _ (look_parent hq'), f4, f5, f6, by omega⟩
    · obtain ⟨g1, g2, g3, g4, g5, g6, g7⟩ := h.node r m hm
      exact ⟨g1, g2, hdir _ g3, g4, g5, g6, by omega⟩
end Go.Proofs.YtejofgdglpmlkaaGreatDoor
namespace Go.Proofs.YtejofgdglpmlkaaGreatDoor
open Go.RowKit

def more (out : List Bs) (cur : Bs) : List Bs := if cur = [] then out else out ++ [cur]
def rrun : Bs → Bs → List Bs → List Bs
  | [], cur, out => more out cur
  | c :: r, cur, out => if c = 47 then rrun r [] (more out cur) else rrun r (cur ++ [c]) out
def rnames (p : Bs) : List Bs := rrun p [] []
def rstep (l : List Bs) (n : Bs) : List Bs := if n = [46] then l else if n = [46, 46] then l.dropLast else l ++ [n]
theorem more_fold (out : List Bs) (cur : Bs) : (more out cur).foldl rstep [] = take1 (out.foldl rstep []) cur := by
  unfold more take1
  by_cases h : cur = []
  · rw [if_pos h, if_pos (Or.inl h)]
  · rw [if_neg h, List.foldl_append]
    simp only [List.foldl_cons, List.foldl_nil]
    generalize List.foldl rstep [] out = X
    unfold rstep
    by_cases h1 : cur = [46]
    · rw [if_pos h1, if_pos (Or.inr h1)]
    · rw [if_neg h1, if_neg (show ¬(cur = [] ∨ cur = [46]) from fun e => e.elim h h1)]
theorem rrun_fold : ∀ (r cur : Bs) (out : List Bs), (rrun r cur out).foldl rstep [] = nrun r cur (out.foldl rstep [])
  | [], cur, out => by rw [rrun, nrun]; exact more_fold out cur
  | c :: r, cur, out => by
    rw [rrun, nrun]
    split
    · rw [rrun_fold r [] _, more_fold]
    · exact rrun_fold r _ out
theorem rclean_eq (p : Bs) : joinS ((rnames p).foldl rstep []) = clean p := by
  unfold rnames clean cnames
  rw [rrun_fold]; rfl
theorem rrun_skip : ∀ (xs r cur : Bs) (l : List Bs), (∀ c ∈ xs, c ≠ 47) → rrun (xs ++ r) cur l = rrun r (cur ++ xs) l
  | [], r, cur, l, _ => by simp
  | c :: xs, r, cur, l, h => by
    have hc : c ≠ 47 := h c (by simp)
    show rrun (c :: (xs ++ r)) cur l = _
    rw [rrun, if_neg hc, rrun_skip xs r (cur ++ [c]) l (fun x hx => h x (by simp [hx]))]
    simp
theorem more_good {out : List Bs} {x : Bs} (h : Good x) : more out x = out ++ [x] := by unfold more; rw [if_neg h.ne]
theorem rrun_join : ∀ (r : List Bs) (acc : List Bs) (x : Bs), (∀ n ∈ x :: r, Good n) → rrun (joinS (x :: r)) [] acc = acc ++ x :: r
  | [], acc, x, h => by
    have hx := h x (by simp)
    have := rrun_skip x [] [] acc (fun c hc e => hx.sl (e ▸ hc))
    rw [List.append_nil] at this
    rw [joinS_one, this, List.nil_append, rrun, more_good hx]
  | y :: r, acc, x, h => by
    have hx := h x (by simp)
    rw [joinS_two, rrun_skip x _ [] acc (fun c hc e => hx.sl (e ▸ hc)), List.nil_append, rrun, if_pos rfl, more_good hx, rrun_join r (acc ++ [x]) y (fun n hn => h n (by simp at hn ⊢; exact Or.inr hn))]
    simp
theorem rnames_join {l : List Bs} (h : ∀ n ∈ l, Good n) : rnames (joinS l) = l := by
  cases l with
  | nil => rfl
  | cons x r => exact rrun_join r [] x h
theorem rnames_clean (p : Bs) : rnames (clean p) = cnames p := rnames_join (cnames_good p)
theorem mem_joinS {c : UInt8} (hc : c ≠ 47) : ∀ l : List Bs, c ∈ joinS l ↔ ∃ n ∈ l, c ∈ n
  | [] => by simp [joinS_nil]
  | [x] => by simp [joinS_one]
  | x :: y :: r => by
    rw [joinS_two, List.mem_append, List.mem_cons, mem_joinS hc (y :: r)]
    constructor
    · rintro (h | h | ⟨n, h1, h2⟩)
      · exact ⟨x, by simp, h⟩
      · exact absurd h hc
      · exact ⟨n, List.mem_cons_of_mem _ h1, h2⟩
    · rintro ⟨n, h1, h2⟩
      rcases List.mem_cons.1 h1 with rfl | h1
      · exact Or.inl h2
      · exact Or.inr (Or.inr ⟨n, h1, h2⟩)
def okName (n : Bs) : Bool := decide (n.length ≤ 255) && !decide ((0 : UInt8) ∈ n) && !decide ((10 : UInt8) ∈ n)
def rvalid (p : Bs) : Bool := decide (p.length ≤ 1000) && decide (clean p = p) && (rnames p).all okName
theorem rvalid_eq (p : Bs) : rvalid p = validB p := by
  rw [Bool.eq_iff_iff, validB_iff]
  unfold rvalid okName
  simp only [Bool.and_eq_true, decide_eq_true_eq, List.all_eq_true, Bool.not_eq_true', decide_eq_false_iff_not]
  constructor
  · rintro ⟨⟨h1, h2⟩, h3⟩
    have hn : rnames p = cnames p := by rw [← rnames_clean p, h2]
    have hj : joinS (cnames p) = p := h2
    rw [hn] at h3
    refine ⟨h1, h2, ⟨fun h => ?_, fun h => ?_⟩, fun n hm => (h3 n hm).1.1⟩
    · rw [← hj, mem_joinS (by decide)] at h
      obtain ⟨n, a, b⟩ := h
      exact (h3 n a).1.2 b
    · rw [← hj, mem_joinS (by decide)] at h
      obtain ⟨n, a, b⟩ := h
      exact (h3 n a).2 b
  · rintro ⟨h1, h2, ⟨h3, h4⟩, h5⟩
    have hn : rnames p = cnames p := by rw [← rnames_clean p, h2]
    have hj : joinS (cnames p) = p := h2
    refine ⟨⟨h1, h2⟩, fun n hm => ?_⟩
    rw [hn] at hm
    refine ⟨⟨h5 n hm, fun h => h3 ?_⟩, fun h => h4 ?_⟩
    · rw [← hj, mem_joinS (by decide)]; exact ⟨n, hm, h⟩
    · rw [← hj, mem_joinS (by decide)]; exact ⟨n, hm, h⟩
theorem rparent_eq (p : Bs) : joinS (rnames (clean p)).dropLast = parentP p := by rw [rnames_clean]; rfl
theorem rrun_tot : ∀ (r cur : Bs) (l : List Bs), tot (rrun r cur l) ≤ tot l + cur.length + 1 + r.length
  | [], cur, l => by
    rw [rrun]; unfold more
    split
    · simp only [List.length_nil]; omega
    · rw [tot_append]; simp [tot]; omega
  | c :: r, cur, l => by
    rw [rrun]
    split
    · have h1 := rrun_tot r [] (more l cur)
      have h2 : tot (more l cur) ≤ tot l + cur.length + 1 := by
        unfold more
        split
        · omega
        · rw [tot_append]; simp [tot]; omega
      simp only [List.length_nil, List.length_cons] at *; omega
    · have h1 := rrun_tot r (cur ++ [c]) l
      simp only [List.length_append, List.length_cons, List.length_nil] at *; omega
theorem rnames_tot (p : Bs) : tot (rnames p) ≤ p.length + 1 := by have := rrun_tot p [] []; simp [tot] at this; unfold rnames tot; omega
theorem rnames_len (p : Bs) : (rnames p).length ≤ p.length + 1 := Nat.le_trans (tot_len _) (rnames_tot p)
end Go.Proofs.YtejofgdglpmlkaaGreatDoor
