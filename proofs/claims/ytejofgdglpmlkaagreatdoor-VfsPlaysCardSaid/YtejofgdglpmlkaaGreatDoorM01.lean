/-
  Paths as lists of bytes: names, the clean form, the parent, the last name. Plain Lean. Conditions: none.
  Small lemmas on bytes, strings, worlds and slices of strings that this seat's other walks use. No condition of its own.
  A row of strings whose capacity may end ahead of its array: read, shortened, appended to. Conditions: at most 2^40 strings.
-/
import Derived.Lib.Join
import Derived.Test.YtejofgdglpmlkaaGreatDoorProg
import Derived.WalkKit
import Derived.WalkSpells
import Derived.WalkLawsBesides
import Derived.Lib.Hide
import Derived.Lib.IndexBytes
import Derived.Deep.QuietTactic
import Derived.BigQuiet
import Derived.Laws.OwnMore
import Derived.Lib.AppendStr
import Derived.Laws.BytesArg
import Derived.Outline
import Derived.WalkSmall
import Derived.Lib.MapLaws
import Derived.Deep.RegionHeld3
import Derived.Deep.AppendLies
namespace Go.Proofs.YtejofgdglpmlkaaGreatDoor
open Go.Lib (join joinTail)

abbrev Bs := List UInt8
def take1 (l : List Bs) (n : Bs) : List Bs := if n = [] ∨ n = [46] then l else if n = [46, 46] then l.dropLast else l ++ [n]
def nrun : Bs → Bs → List Bs → List Bs
  | [], cur, l => take1 l cur
  | c :: r, cur, l => if c = 47 then nrun r [] (take1 l cur) else nrun r (cur ++ [c]) l
def cnames (p : Bs) : List Bs := nrun p [] []
def joinS (l : List Bs) : Bs := join l [47]
def clean (p : Bs) : Bs := joinS (cnames p)
structure Good (n : Bs) : Prop where
  ne : n ≠ []
  dot : n ≠ [46]
  dots : n ≠ [46, 46]
  sl : (47 : UInt8) ∉ n

theorem nrun_skip : ∀ (xs r cur : Bs) (l : List Bs), (∀ c ∈ xs, c ≠ 47) → nrun (xs ++ r) cur l = nrun r (cur ++ xs) l
  | [], r, cur, l, _ => by simp
  | c :: xs, r, cur, l, h => by
    have hc : c ≠ 47 := h c (by simp)
    show nrun (c :: (xs ++ r)) cur l = _
    rw [nrun, if_neg hc, nrun_skip xs r (cur ++ [c]) l (fun x hx => h x (by simp [hx]))]
    simp
theorem nrun_end (cur : Bs) (l : List Bs) : nrun [] cur l = take1 l cur := rfl
theorem nrun_slash (r cur : Bs) (l : List Bs) : nrun (47 :: r) cur l = nrun r [] (take1 l cur) := by rw [nrun, if_pos rfl]
theorem take1_good {l : List Bs} {n : Bs} (hl : ∀ x ∈ l, Good x) (hn : (47 : UInt8) ∉ n) : ∀ x ∈ take1 l n, Good x := by
  intro x hx
  unfold take1 at hx
  split at hx
  · exact hl x hx
  · rename_i h1
    split at hx
    · exact hl x ((List.dropLast_sublist l).subset hx)
    · rename_i h2
      rcases List.mem_append.1 hx with h | h
      · exact hl x h
      · obtain rfl := List.mem_singleton.1 h
        exact ⟨fun e => h1 (Or.inl e), fun e => h1 (Or.inr e), h2, hn⟩
theorem nrun_good : ∀ (r cur : Bs) (l : List Bs), (∀ x ∈ l, Good x) → (47 : UInt8) ∉ cur → ∀ x ∈ nrun r cur l, Good x
  | [], cur, l, hl, hc => take1_good hl hc
  | c :: r, cur, l, hl, hc => by
    rw [nrun]
    split
    · exact nrun_good r [] _ (take1_good hl hc) (by simp)
    · rename_i h
      exact nrun_good r _ l hl (by simp [hc]; exact fun e => h e.symm)
theorem cnames_good (p : Bs) : ∀ x ∈ cnames p, Good x := nrun_good p [] [] (by simp) (by simp)

theorem snoc_cases (l : List Bs) : l = [] ∨ ∃ a x, l = a ++ [x] := by
  rcases l.eq_nil_or_concat with h | ⟨a, x, h⟩
  · exact Or.inl h
  · exact Or.inr ⟨a, x, by rw [h, List.concat_eq_append]⟩
def tot (l : List Bs) : Nat := (l.map fun n => n.length + 1).sum
theorem tot_append (a b : List Bs) : tot (a ++ b) = tot a + tot b := by simp [tot]
theorem tot_dropLast (l : List Bs) : tot l.dropLast ≤ tot l := by
  rcases snoc_cases l with rfl | ⟨a, x, rfl⟩
  · simp
  · rw [List.dropLast_concat, tot_append]; omega
theorem take1_tot (l : List Bs) (n : Bs) : tot (take1 l n) ≤ tot l + n.length + 1 := by
  unfold take1
  split
  · omega
  · split
    · have := tot_dropLast l; omega
    · rw [tot_append]; simp [tot]; omega
theorem nrun_tot : ∀ (r cur : Bs) (l : List Bs), tot (nrun r cur l) ≤ tot l + cur.length + 1 + r.length
  | [], cur, l => by have := take1_tot l cur; rw [nrun]; simpa using this
  | c :: r, cur, l => by
    rw [nrun]
    split
    · have h1 := nrun_tot r [] (take1 l cur)
      have h2 := take1_tot l cur
      simp only [List.length_nil, List.length_cons] at *; omega
    · have h1 := nrun_tot r (cur ++ [c]) l
      simp only [List.length_append, List.length_cons, List.length_nil] at *; omega
theorem cnames_tot (p : Bs) : tot (cnames p) ≤ p.length + 1 := by have := nrun_tot p [] []; simp [tot] at this; unfold cnames tot; omega
theorem tot_len (l : List Bs) : l.length ≤ tot l := by
  induction l with
  | nil => simp [tot]
  | cons a l ih => simp only [tot, List.map_cons, List.sum_cons, List.length_cons] at *; omega
theorem tot_mem {l : List Bs} {n : Bs} (h : n ∈ l) : n.length + 1 ≤ tot l := by
  induction l with
  | nil => simp at h
  | cons a l ih =>
    simp only [tot, List.map_cons, List.sum_cons] at *
    rcases List.mem_cons.1 h with rfl | h
    · omega
    · have := ih h; omega
theorem cnames_len (p : Bs) : (cnames p).length ≤ p.length + 1 := Nat.le_trans (tot_len _) (cnames_tot p)
theorem joinS_nil : joinS [] = [] := rfl
theorem joinS_one (x : Bs) : joinS [x] = x := Go.Lib.join_one x [47]
theorem joinTail_append (a b : List Bs) : joinTail [47] (a ++ b) = joinTail [47] a ++ joinTail [47] b := by simp [joinTail]
theorem joinS_cons (x : Bs) (r : List Bs) : joinS (x :: r) = x ++ joinTail [47] r := Go.Lib.join_cons x r [47]
theorem joinS_two (x y : Bs) (r : List Bs) : joinS (x :: y :: r) = x ++ 47 :: joinS (y :: r) := by
  rw [joinS_cons, joinS_cons]; simp [joinTail]
theorem joinS_snoc {l : List Bs} (hl : l ≠ []) (n : Bs) : joinS (l ++ [n]) = joinS l ++ 47 :: n := by
  cases l with
  | nil => exact absurd rfl hl
  | cons x r => rw [List.cons_append, joinS_cons, joinS_cons, joinTail_append]; simp [joinTail]
theorem joinS_len : ∀ l : List Bs, (joinS l).length ≤ tot l
  | [] => by simp [joinS_nil]
  | [x] => by rw [joinS_one]; simp [tot]
  | x :: y :: r => by
    have := joinS_len (y :: r)
    rw [joinS_two]
    simp only [tot, List.map_cons, List.sum_cons, List.length_append, List.length_cons] at *; omega
theorem joinS_len' : ∀ l : List Bs, l ≠ [] → (joinS l).length + 1 = tot l
  | [], h => absurd rfl h
  | [x], _ => by rw [joinS_one]; simp [tot]
  | x :: y :: r, _ => by
    have := joinS_len' (y :: r) (by simp)
    rw [joinS_two]
    simp only [tot, List.map_cons, List.sum_cons, List.length_append, List.length_cons] at *; omega
theorem clean_len (p : Bs) : (clean p).length ≤ p.length := by
  unfold clean
  by_cases h : cnames p = []
  · rw [h]; simp [joinS_nil]
  · have := joinS_len' _ h
    have := cnames_tot p
    omega
theorem take1_of_good {l : List Bs} {n : Bs} (h : Good n) : take1 l n = l ++ [n] := by
  unfold take1
  rw [if_neg (by rintro (e | e); exact h.ne e; exact h.dot e), if_neg h.dots]
theorem nrun_join : ∀ (r : List Bs) (acc : List Bs) (x : Bs), (∀ n ∈ x :: r, Good n) → nrun (joinS (x :: r)) [] acc = acc ++ x :: r
  | [], acc, x, h => by
    have hx := h x (by simp)
    have := nrun_skip x [] [] acc (fun c hc e => hx.sl (e ▸ hc))
    rw [List.append_nil] at this
    rw [joinS_one, this, List.nil_append, nrun_end, take1_of_good hx]
  | y :: r, acc, x, h => by
    have hx := h x (by simp)
    rw [joinS_two, nrun_skip x _ [] acc (fun c hc e => hx.sl (e ▸ hc)), List.nil_append, nrun_slash, take1_of_good hx, nrun_join r (acc ++ [x]) y (fun n hn => h n (by simp at hn ⊢; exact Or.inr hn))]
    simp
theorem cnames_join {l : List Bs} (h : ∀ n ∈ l, Good n) : cnames (joinS l) = l := by
  cases l with
  | nil => simp [joinS_nil, cnames, nrun, take1]
  | cons x r => exact nrun_join r [] x h
theorem cnames_clean (p : Bs) : cnames (clean p) = cnames p := cnames_join (cnames_good p)
theorem clean_clean (p : Bs) : clean (clean p) = clean p := by unfold clean; rw [show cnames (joinS (cnames p)) = cnames p from cnames_clean p]
/-- One name alone. -/
theorem cnames_name {n : Bs} (h : Good n) : cnames n = [n] := by
  have := cnames_join (l := [n]) (by simpa using h)
  rwa [joinS_one] at this
theorem clean_name {n : Bs} (h : Good n) : clean n = n := by unfold clean; rw [cnames_name h, joinS_one]

def validB (p : Bs) : Bool := decide (p.length ≤ 1000) && decide (clean p = p) && !(decide ((0 : UInt8) ∈ p) || decide ((10 : UInt8) ∈ p)) && (cnames p).all fun n => decide (n.length ≤ 255)
theorem validB_iff {p : Bs} : validB p = true ↔ p.length ≤ 1000 ∧ clean p = p ∧ ((0 : UInt8) ∉ p ∧ (10 : UInt8) ∉ p) ∧ ∀ n ∈ cnames p, n.length ≤ 255 := by
  simp [validB, and_assoc]

/-- The place of the last slash. -/
def lastAt : Nat → Bs → Int → Int
  | _, [], a => a
  | k, c :: r, a => lastAt (k + 1) r (if c = 47 then (k : Int) else a)
def lastSl (s : Bs) : Int := lastAt 0 s (-1)
theorem lastAt_none : ∀ (s : Bs) (k : Nat) (a : Int), (∀ c ∈ s, c ≠ 47) → lastAt k s a = a
  | [], _, _, _ => rfl
  | c :: s, k, a, h => by rw [lastAt, if_neg (h c (by simp)), lastAt_none s _ _ (fun x hx => h x (by simp [hx]))]
theorem lastAt_split : ∀ (a : Bs) (b : Bs) (k : Nat) (z : Int), (∀ c ∈ b, c ≠ 47) → lastAt k (a ++ 47 :: b) z = (k + a.length : Nat)
  | [], b, k, z, h => by rw [List.nil_append, lastAt, if_pos rfl, lastAt_none b _ _ h]; simp
  | c :: a, b, k, z, h => by rw [List.cons_append, lastAt, lastAt_split a b _ _ h]; simp only [List.length_cons]; omega
theorem lastSl_none {s : Bs} (h : ∀ c ∈ s, c ≠ 47) : lastSl s = -1 := lastAt_none s 0 _ h
theorem lastSl_split {a b : Bs} (h : ∀ c ∈ b, c ≠ 47) : lastSl (a ++ 47 :: b) = a.length := by unfold lastSl; rw [lastAt_split a b 0 _ h]; simp
def parentP (p : Bs) : Bs := joinS (cnames p).dropLast
def lastP (p : Bs) : Bs := (cnames p).getLastD []
theorem lastAt_bd : ∀ (s : Bs) (k : Nat) (a : Int), a < k → -1 ≤ a → lastAt k s a < (k + s.length : Nat) ∧ -1 ≤ lastAt k s a
  | [], k, a, h, h' => by simp [lastAt]; omega
  | c :: s, k, a, h, h' => by
    have := lastAt_bd s (k + 1) (if c = 47 then (k : Int) else a) (by split <;> omega) (by split <;> omega)
    rw [lastAt]
    simp only [List.length_cons]
    omega
theorem lastSl_lt (s : Bs) : lastSl s < s.length ∧ -1 ≤ lastSl s := by
  have := lastAt_bd s 0 (-1) (by omega) (by omega)
  unfold lastSl
  omega
theorem clean_parts (p : Bs) : (clean p).take (max 0 (lastSl (clean p))).toNat = parentP p ∧ (clean p).drop (lastSl (clean p) + 1).toNat = lastP p := by
  have hg := cnames_good p
  unfold clean parentP lastP
  generalize cnames p = l at hg
  rcases snoc_cases l with rfl | ⟨a, x, rfl⟩
  · rw [joinS_nil, lastSl_none (by simp)]; simp [joinS_nil]
  · have hx : ∀ c ∈ x, c ≠ 47 := fun c hc e => (hg x (by simp)).sl (e ▸ hc)
    rw [List.dropLast_concat]
    cases a with
    | nil => rw [List.nil_append, joinS_one, lastSl_none hx]; simp [joinS_nil]; exact Or.inl (by decide)
    | cons y a =>
      rw [joinS_snoc (by simp), lastSl_split hx]
      refine ⟨?_, ?_⟩
      · rw [show (max (0 : Int) ((joinS (y :: a)).length : Int)).toNat = (joinS (y :: a)).length by omega]
        rw [List.take_left]
      · rw [show (((joinS (y :: a)).length : Int) + 1).toNat = (joinS (y :: a)).length + 1 by omega]
        rw [List.getLastD_concat, ← List.drop_drop, List.drop_left]
        simp

/-- The paths above a path, from the top on. -/
def upsFrom : Bs → Bs → List Bs
  | _, [] => []
  | pre, c :: r => if c = 47 then pre :: upsFrom (pre ++ [c]) r else upsFrom (pre ++ [c]) r
def ups (p : Bs) : List Bs := upsFrom [] p
theorem upsFrom_skip : ∀ (xs r pre : Bs), (∀ c ∈ xs, c ≠ 47) → upsFrom pre (xs ++ r) = upsFrom (pre ++ xs) r
  | [], r, pre, _ => by simp
  | c :: xs, r, pre, h => by
    rw [List.cons_append, upsFrom, if_neg (h c (by simp)), upsFrom_skip xs r _ (fun x hx => h x (by simp [hx]))]
    simp
theorem upsFrom_slash (r pre : Bs) : upsFrom pre (47 :: r) = pre :: upsFrom (pre ++ [47]) r := by rw [upsFrom, if_pos rfl]
end Go.Proofs.YtejofgdglpmlkaaGreatDoor
namespace Go.Proofs.YtejofgdglpmlkaaGreatDoor
open Go.RowKit
theorem pz0 (a : Act) (d : Option Tmp) (v : Value) : a.put d v = match d with
  | some d => { a with tmps := a.tmps.setIfInBounds d v }
  | none => a := rfl
theorem pz1 {α : Type} (l : List α) (i : Nat) (x : α) : l.toArray.setIfInBounds i x = (l.set i x).toArray := List.setIfInBounds_toArray ..
theorem pz2 {α : Type} (y : α) (l : List α) (x : α) : (y :: l).set 0 x = x :: l := rfl
theorem pz3 {α : Type} (y : α) (l : List α) (i : Nat) (x : α) : (y :: l).set (i + 1) x = y :: l.set i x := rfl

theorem drop_cons {p : ByteArray} {j : Nat} (h : j < p.size) : p.data.toList.drop j = p[j] :: p.data.toList.drop (j + 1) := by
  rw [List.drop_eq_getElem_cons (by rw [← Go.Lib.size_eq]; exact h)]; rfl
theorem heap_lt {w : World} {b : Nat} {o : Obj} (h : w.heap[b]? = some o) : b < w.heap.size := (Array.getElem?_eq_some_iff.1 h).1
theorem cells_new (w : World) (vs : List Value) (t : TypeId) : ∀ (j : Nat) (u : Value), vs[j]? = some u → (w.alloc (Obj.cells vs.toArray t)).cell? ((⟨w.heap.size, 0, none⟩ : Addr).add j) = some u := by
  intro j u h
  have e : (⟨w.heap.size, 0, none⟩ : Addr).add j = ⟨w.heap.size, j, none⟩ := by unfold Addr.add; split <;> simp_all
  rw [e]
  unfold World.cell?
  rw [heap_alloc_new]
  simpa using h
theorem byte_eq {c : UInt8} {n : Nat} (h : (c.toNat : Int) = n) (hn : n < 256) : c = n.toUInt8 :=
  UInt8.toNat_inj.1 (by have : c.toNat = n := by omega
                        rw [this]; simp; omega)
theorem _root_.Go.RowKit.Below.mono' {w w1 w2 : World} (h : Below w1.heap.size w1 w2) (hb : Below w.heap.size w w1) : Below w.heap.size w w2 := hb.trans (h.mono hb.size)
theorem below_drewN' {B : Nat} {a w : World} (h : Below B a w) (n : Nat) : Below B a (w.drewN n) := h.trans ⟨rfl, rfl, rfl, Nat.le_refl _, fun _ _ => rfl⟩
theorem ba_ext {a b : ByteArray} (h : a.data.toList = b.data.toList) : a = b := by
  cases a with | mk a => cases b with | mk b => cases a with | mk a => cases b with | mk b => simp at h; subst h; rfl
theorem ba_back (s : ByteArray) : (⟨s.data.toList.toArray⟩ : ByteArray) = s := ba_ext (by simp)
theorem ba_append (a b : ByteArray) : (a ++ b).data.toList = a.data.toList ++ b.data.toList := by rw [ByteArray.data_append, Array.toList_append]
theorem ba_ne {a b : ByteArray} (h : a ≠ b) : (a.toList == b.toList) = false := by
  rw [beq_eq_false_iff_ne, Go.Lib.toList_data, Go.Lib.toList_data]
  exact fun e => h (ba_ext e)
theorem drop_take1 {p : ByteArray} {j : Nat} (h : j < p.size) : p.data.toList.take (j + 1) = p.data.toList.take j ++ [p[j]] := by
  rw [List.take_succ_eq_append_getElem (by rw [← Go.Lib.size_eq]; exact h)]; rfl
theorem extract_one {p : ByteArray} {j : Nat} (h : j < p.size) : (p.extract j (j + 1)).data.toList = [p[j]] := by
  rw [Go.Lib.extract_data, show j + 1 - j = 1 by omega, drop_cons h]; rfl
theorem below_al {w w1 : World} {o : Obj} (h : Below w.heap.size w w1) : Below w.heap.size w (w1.alloc o) := h.alloc h.size _
/-- A slice of strings that reads as a list: whoever owns it. -/
def StrsAt (w : World) (v : Value) (l : List ByteArray) : Prop :=
  ∃ (a : Option Addr) (n c : Nat), v = .slice a n c ∧ n = l.length ∧ n ≤ c ∧ c ≤ maxLen ∧
    (0 < n → ∃ b off, a = some ⟨b, off, none⟩ ∧ b < w.heap.size ∧ ∀ (k : Nat) (s : ByteArray), l[k]? = some s → w.cell? ⟨b, off + k, none⟩ = some (.string s)) ∧ (a = none → c = 0)
theorem StrsAt.below {w w' : World} {v : Value} {l : List ByteArray} (h : StrsAt w v l) (hb : Below w.heap.size w w') : StrsAt w' v l := by
  obtain ⟨a, n, c, h1, h2, h3, h3', h4, h5⟩ := h
  refine ⟨a, n, c, h1, h2, h3, h3', fun hn => ?_, h5⟩
  obtain ⟨b, off, ha, hl, hc⟩ := h4 hn
  exact ⟨b, off, ha, Nat.lt_of_lt_of_le hl hb.size, fun k s hk => (hb.cell (p := ⟨b, off + k, none⟩) hl).trans (hc k s hk)⟩
def scells (l : List ByteArray) : List Value := l.map Value.string
theorem strsAt_own {w : World} {base : Nat} {v : Value} {l : List ByteArray} (h : w.ownsRow base 9 1 v l.length (scells l)) : StrsAt w v l := by
  have hc := fun g => h.cells (g := g)
  obtain ⟨hl, h⟩ := h
  rcases h with ⟨rfl, hn⟩ | ⟨g, cap, cur, rfl, hb, hg, hn, hm, _⟩
  · exact ⟨none, 0, 0, rfl, hn.symm, Nat.le_refl _, Nat.zero_le _, fun h => absurd h (Nat.lt_irrefl _), fun _ => rfl⟩
  · have ad : ∀ j, (⟨g, 0, none⟩ : Addr).add j = ⟨g, j, none⟩ := fun j => by unfold Addr.add; split <;> simp_all
    refine ⟨_, _, _, rfl, rfl, hn, hm, fun _ => ⟨g, 0, rfl, heap_lt hg, fun k s hk => ?_⟩, fun h => by cases h⟩
    rw [Nat.zero_add, ← ad]
    exact hc g rfl k _ (by simp [scells, hk])
theorem ba_eq_iff {a b : ByteArray} : (a.toList = b.toList) ↔ a = b := by
  rw [Go.Lib.toList_data, Go.Lib.toList_data]
  exact ⟨ba_ext, fun h => by rw [h]⟩
theorem ba_beq (a b : ByteArray) : (a.toList == b.toList) = decide (a = b) := by
  rw [Bool.eq_iff_iff, beq_iff_eq, decide_eq_true_eq, ba_eq_iff]
theorem getElem_split {α : Type} {l : List α} {k : Nat} {x : α} (h : l[k]? = some x) : l.drop k = x :: l.drop (k + 1) := by
  have hk := (List.getElem?_eq_some_iff.1 h).1
  rw [List.drop_eq_getElem_cons hk, (List.getElem?_eq_some_iff.1 h).2]
theorem take_more {α : Type} {l : List α} {n : Nat} {x : α} (h : l[n]? = some x) : l.take (n + 1) = l.take n ++ [x] := by
  rw [List.take_add_one, h]; rfl
theorem infoStr : (Tryz.prog.info? 9).map (fun i => (i.zero, i.size, i.bytes)) = some (some (.string ⟨#[]⟩), 1, 16) := by kernel_rfl

theorem strs_block (w : World) (t : TypeId) (cs : Array Value) (n g : Nat) (l : List ByteArray) (hc : cs = (scells l).toArray) (hn : n = l.length) (hg : g = w.heap.size) (hm : n ≤ 100) : StrsAt (w.alloc (.cells cs t)) (.slice (some ⟨g, 0, none⟩) n n) l := by
  subst hc hn hg
  refine ⟨_, _, _, rfl, rfl, Nat.le_refl _, by unfold maxLen; omega, fun _ => ⟨w.heap.size, 0, rfl, by simp, fun k s hs => ?_⟩, fun h => by cases h⟩
  unfold World.cell?
  rw [heap_alloc_new]
  simp only [Option.isSome_none, Bool.false_eq_true, if_false]
  simp [scells, hs]

/-- Is a text in a list? -/
def inL (x : ByteArray) : List ByteArray → Bool
  | [] => false
  | y :: l => decide (y = x) || inL x l
theorem inL_iff {x : ByteArray} : ∀ {l : List ByteArray}, inL x l = true ↔ x ∈ l
  | [] => by simp [inL]
  | y :: l => by simp only [inL, Bool.or_eq_true, decide_eq_true_eq, inL_iff, List.mem_cons]; exact ⟨fun h => h.imp Eq.symm id, fun h => h.imp Eq.symm id⟩


theorem bcell {W w1 : World} (hb : Below W.heap.size W w1) : (∀ b o, b < W.heap.size → w1.cell? ⟨b, o, none⟩ = W.cell? ⟨b, o, none⟩) ∧ (∀ b o, b < W.heap.size → w1.frozen? ⟨b, o, none⟩ = W.frozen? ⟨b, o, none⟩) :=
  ⟨fun b o h => hb.cell (p := ⟨b, o, none⟩) h, fun b o h => hb.frozen (p := ⟨b, o, none⟩) h⟩
/-- A list of bytes as a string. -/
def mk (l : Bs) : ByteArray := ⟨l.toArray⟩
theorem mk_list (l : Bs) : (mk l).data.toList = l := by simp [mk]
theorem mk_back (s : ByteArray) : mk s.data.toList = s := ba_ext (by simp [mk])
theorem mk_inj {a b : Bs} (h : mk a = mk b) : a = b := by rw [← mk_list a, h, mk_list]
theorem mk_size (l : Bs) : (mk l).size = l.length := by rw [Go.Lib.size_eq, mk_list]

/-- A step of the decoding at a byte that is no ASCII: none of its bytes is a slash. -/
theorem decode_far (s : ByteArray) (pos : Nat) (h : pos < s.size) (ha : 128 ≤ (s[pos]'h).toNat) :
    1 ≤ (Utf8.decode s pos).2 ∧ pos + (Utf8.decode s pos).2 ≤ s.size ∧ (∀ c ∈ (s.data.toList.drop pos).take (Utf8.decode s pos).2, 128 ≤ c.toNat) ∧ 128 ≤ (Utf8.decode s pos).1 := by
  have hh := decode_high s pos h ha
  have hg : ∀ k, pos + k < s.size → (s.data.toList.drop pos)[k]? = some (s.get! (pos + k)) := by
    intro k hk
    rw [List.getElem?_drop, List.getElem?_eq_getElem (by rw [← Go.Lib.size_eq]; exact hk)]
    simp [ByteArray.get!, getElem!_pos, hk]
  have h0 : s.get! (pos + 0) = s[pos]'h := get_at s pos h
  have mem : ∀ d c, c ∈ (s.data.toList.drop pos).take d → pos + d ≤ s.size → ∃ k, k < d ∧ c = s.get! (pos + k) := by
    intro d c hc hd
    obtain ⟨k, hk, e⟩ := List.getElem_of_mem hc
    have hk' : k < d := by simp at hk; omega
    refine ⟨k, hk', ?_⟩
    have := hg k (by omega)
    rw [List.getElem_take] at e
    rw [List.getElem?_eq_getElem (by simp; omega)] at this
    rw [← e]; exact Option.some.inj this
  rw [Go.Lib.decode_at] at hh ⊢
  rcases Go.Lib.decodeN_shape (s.size - pos) (s.get! pos).toNat (s.get! (pos + 1)).toNat (s.get! (pos + 2)).toNat (s.get! (pos + 3)).toNat with ⟨hb, e⟩ | ⟨hb, hn, h1, _, e⟩ | ⟨hb, hn, h1, h2, _, _, e⟩ | ⟨hb, hn, h1, h2, h3, _, _, e⟩ | e
  · rw [Nat.add_zero] at h0; rw [h0] at hb; omega
  all_goals
    rw [e] at hh ⊢
    dsimp only at hh ⊢
    refine ⟨by omega, by omega, fun c hc => ?_, hh.1⟩
    obtain ⟨k, hk, rfl⟩ := mem _ c hc (by omega)
    rw [Nat.add_zero] at h0
    rcases (show k = 0 ∨ k = 1 ∨ k = 2 ∨ k = 3 by omega) with rfl | rfl | rfl | rfl
    · rw [Nat.add_zero, h0]; exact ha
    all_goals first | (exfalso; omega) | omega
end Go.Proofs.YtejofgdglpmlkaaGreatDoor
namespace Go.Proofs.YtejofgdglpmlkaaGreatDoor
open Go.RowKit

def bcells (l : List Bs) : List Value := l.map fun b => .string (mk b)
theorem bcells_len (l : List Bs) : (bcells l).length = l.length := by simp [bcells]
theorem bcells_append (a b : List Bs) : bcells (a ++ b) = bcells a ++ bcells b := by simp [bcells]
def LooseS (w : World) (B : Nat) (v : Value) (l : List Bs) : Prop :=
  (v = .slice none 0 0 ∧ l = []) ∨ ∃ g cap cur, v = .slice (some ⟨g, 0, none⟩) l.length cap ∧ B ≤ g ∧ w.heap[g]? = some (.cells cur 9 (0, 0)) ∧ l.length ≤ cap ∧ cap ≤ maxLen ∧ cap ≤ cur.size ∧ cur.toList.take l.length = bcells l
theorem LooseS.nil (w : World) (B : Nat) : LooseS w B (.slice none 0 0) [] := Or.inl ⟨rfl, rfl⟩
theorem LooseS.lt {w : World} {B : Nat} {v : Value} {l : List Bs} (h : LooseS w B v l) : ∀ g, v.ownBlock = some g → B ≤ g ∧ g < w.heap.size := by
  intro k hk
  rcases h with ⟨rfl, _⟩ | ⟨g, cap, cur, rfl, hb, hg, _⟩
  · simp [Value.ownBlock] at hk
  · simp [Value.ownBlock] at hk; subst hk
    exact ⟨hb, heap_lt hg⟩
theorem LooseS.kept {w w' : World} {B : Nat} {v : Value} {l : List Bs} (h : LooseS w B v l) (hk : ∀ g, v.ownBlock = some g → w'.heap[g]? = w.heap[g]?) : LooseS w' B v l := by
  rcases h with h | ⟨g, cap, cur, rfl, hb, hg, r⟩
  · exact Or.inl h
  · exact Or.inr ⟨g, cap, cur, rfl, hb, (hk g rfl).trans hg, r⟩
theorem LooseS.grown {w w' : World} {B : Nat} {row : Option Nat} {v : Value} {l : List Bs} (h : LooseS w B v l) (hg : w.grownBy w' row) (hr : ∀ g, row = some g → g < B) : LooseS w' B v l :=
  h.kept fun g e => hg.block g (h.lt g e).2 fun e' => by have := hr g e'.symm; have := (h.lt g e).1; omega
theorem LooseS.own {w : World} {B : Nat} {v : Value} {l : List Bs} {n : Nat} (h : w.ownsRow B 9 1 v n (bcells l)) (hn : n = l.length) : LooseS w B v l := by
  subst hn
  obtain ⟨hl, h⟩ := h
  rcases h with ⟨rfl, h0⟩ | ⟨g, cap, cur, rfl, hb, hg, hn, hm, hc, ht⟩
  · exact Or.inl ⟨rfl, List.length_eq_zero_iff.1 h0⟩
  · exact Or.inr ⟨g, cap, cur, rfl, hb, hg, hn, hm, by omega, by rw [Nat.mul_one] at ht; exact ht⟩
theorem LooseS.cells {w : World} {B : Nat} {v : Value} {l : List Bs} (h : LooseS w B v l) {k : Nat} {x : Bs} (hk : l[k]? = some x) : ∃ g cap, v = .slice (some ⟨g, 0, none⟩) l.length cap ∧ B ≤ g ∧ g < w.heap.size ∧ w.cell? ⟨g, k, none⟩ = some (.string (mk x)) := by
  rcases h with ⟨rfl, rfl⟩ | ⟨g, cap, cur, rfl, hb, hg, hn, hm, hc, ht⟩
  · simp at hk
  · refine ⟨g, cap, rfl, hb, heap_lt hg, ?_⟩
    have hkl := (List.getElem?_eq_some_iff.1 hk).1
    rw [cell_of_row w g k cur 9 (0, 0) hg]
    have : (bcells l)[k]? = some (.string (mk x)) := by simp [bcells, hk]
    rw [← ht, List.getElem?_take_of_lt hkl] at this
    simpa using this
theorem LooseS.strs {w : World} {B : Nat} {v : Value} {l : List Bs} (h : LooseS w B v l) : StrsAt w v (l.map mk) := by
  have hc := fun k x hk => h.cells (k := k) (x := x) hk
  rcases h with ⟨rfl, rfl⟩ | ⟨g, cap, cur, rfl, hb, hg, hn, hm, hcs, ht⟩
  · exact ⟨none, 0, 0, rfl, rfl, Nat.le_refl _, Nat.zero_le _, fun h => absurd h (Nat.lt_irrefl _), fun _ => rfl⟩
  · refine ⟨_, _, _, rfl, by simp, hn, hm, fun _ => ⟨g, 0, rfl, heap_lt hg, fun k s hk => ?_⟩, fun h => by cases h⟩
    rw [List.getElem?_map] at hk
    cases hx : l[k]? with
    | none => rw [hx] at hk; cases hk
    | some x =>
      rw [hx] at hk
      obtain rfl : mk x = s := Option.some.inj hk
      obtain ⟨g', cap', e, -, -, hcell⟩ := hc k x hx
      injection e with e1 e2 e3
      injection e1 with e1; injection e1 with e1
      subst e1
      rw [Nat.zero_add]; exact hcell
/-- One name less. -/
theorem LooseS.pop {w : World} {B g cap n : Nat} {l : List Bs} (h : LooseS w B (.slice (some ⟨g, 0, none⟩) n cap) l) : LooseS w B (.slice (some ⟨g, 0, none⟩) (n - 1) (n - 1)) l.dropLast := by
  rcases h with ⟨e, _⟩ | ⟨g', cap', cur, e, hb, hg, hn, hm, hc, ht⟩
  · cases e
  · injection e with e1 e2 e3
    injection e1 with e1; injection e1 with e1
    subst e1 e2 e3
    refine Or.inr ⟨g, l.length - 1, cur, by simp, hb, hg, by simp, by unfold maxLen at *; omega, by omega, ?_⟩
    rw [List.length_dropLast]
    have : (cur.toList.take l.length).take (l.length - 1) = (bcells l).take (l.length - 1) := by rw [ht]
    rw [List.take_take, Nat.min_eq_left (by omega)] at this
    rw [this, List.dropLast_eq_take]
    simp [bcells, List.map_take]

theorem run_append_loose (w : World) (B : Nat) (v : Value) (l : List Bs) (h : LooseS w B v l) (a : Addr) (c : Nat) (s : ByteArray) (ty : TypeId) (hc : w.cell? a = some (.string s)) (ha : a.add 0 = a) (hl : l.length ≤ 1099511627776) (hB : B ≤ w.heap.size) :
    ∃ g cap w', (Builtin.append_ #[67, 67] ty #[v, .slice (some a) 1 c]).run Tryz.prog w = .ok (.slice (some ⟨g, 0, none⟩) (l.length + 1) cap) w' ∧ LooseS w' B (.slice (some ⟨g, 0, none⟩) (l.length + 1) cap) (l ++ [s.data.toList]) ∧ w.grownBy w' v.ownBlock ∧ (v.ownBlock = some g ∨ w.heap.size ≤ g) := by
  obtain ⟨i0, hi, hz0, hz1, hz2⟩ := info_parts infoStr
  have hnews : ∀ (j : Nat) (u : Value), [Value.string s][j]? = some u → w.cell? (a.add j) = some u := by
    intro j u hu
    match j, hu with
    | 0, hu => simp at hu; subst hu; rw [ha]; exact hc
    | j + 1, hu => simp at hu
  have hone : ∀ u ∈ [Value.string s], u.oneCell' = true := by simp [Value.oneCell']
  have hb1 : bcells (l ++ [s.data.toList]) = bcells l ++ [.string s] := by rw [bcells_append]; simp [bcells, mk_back]
  have own : ∀ {w' : World} {B' : Nat} {v' : Value}, B ≤ B' → w'.ownsRow B' 9 1 v' (l.length + 1) (bcells l ++ [.string s]) → ∃ g cap, v' = .slice (some ⟨g, 0, none⟩) (l.length + 1) cap ∧ LooseS w' B v' (l ++ [s.data.toList]) ∧ B' ≤ g := by
    intro w' B' v' hBB ho
    have ho' : w'.ownsRow B' 9 1 v' (l.length + 1) (bcells (l ++ [s.data.toList])) := by rw [hb1]; exact ho
    have hL := LooseS.own ho' (by simp)
    rcases hL with ⟨rfl, e⟩ | ⟨g, cap, cur, rfl, hbg, r⟩
    · simp at e
    · exact ⟨g, cap, by simp, Or.inr ⟨g, cap, cur, by simp, Nat.le_trans hBB hbg, r⟩, hbg⟩
  rcases h with ⟨rfl, rfl⟩ | ⟨g, cap, cur, rfl, hb, hg, hn, hm, hcs, ht⟩
  · obtain ⟨v', w', hrun, ho, hgr, _⟩ := run_append_own (P := Tryz.prog) w w.heap.size 67 ty 9 i0 _ 1 16 Tryz.underlying67 hi hz0 hz1 hz2 rfl (by decide) (.slice none 0 0) 0 [] (World.ownsRow_nil w _ 9 1) a 1 c [.string s] rfl hnews hone (by unfold maxLen; omega) (by omega) (Nat.le_refl _)
    obtain ⟨g, cap, rfl, hL, hge⟩ := own hB (by simpa [bcells] using ho)
    exact ⟨g, cap, w', by simpa using hrun, by simpa using hL, hgr, Or.inr hge⟩
  · by_cases hr : l.length + 1 ≤ cap
    · have hrun := run_append_room (P := Tryz.prog) w 67 ty 9 i0 Tryz.underlying67 hi g l.length cap cur hg a 1 c [.string s] (by rw [hz1]; rfl) hnews hone hr (by rw [hz1]; simp; omega)
      rw [hz1, Nat.mul_one] at hrun
      refine ⟨g, cap, _, hrun, Or.inr ⟨g, cap, _, by simp, hb, setRow_heap w g cur _ 9 _ hg, by simpa using hr, hm, ?_, ?_⟩, ⟨rfl, rfl, rfl, by simp [World.setRow], fun k _ hk => setRow_other w g k _ (fun e => hk (by simp [Value.ownBlock, e]))⟩, Or.inl rfl⟩
      · simp; omega
      · rw [hb1, ht]
        have e : (l ++ [s.data.toList]).length = (bcells l ++ [Value.string s]).length := by simp [bcells_len]
        rw [e]
        exact List.take_left
    · obtain ⟨v', w', hrun, ho, hgr⟩ := run_append_arg_grows (P := Tryz.prog) w 67 ty 9 i0 _ 1 16 Tryz.underlying67 hi hz0 hz1 hz2 rfl (by decide) ⟨g, 0, none⟩ l.length cap (bcells l) (by rw [bcells_len, Nat.mul_one]) (fun j u hu => by
        have e : (⟨g, 0, none⟩ : Addr).add j = ⟨g, j, none⟩ := by unfold Addr.add; split <;> simp_all
        have hj : j < l.length := by have := (List.getElem?_eq_some_iff.1 hu).1; rwa [bcells_len] at this
        rw [e, cell_of_row w g j cur 9 (0, 0) hg]
        rw [← ht, List.getElem?_take_of_lt hj] at hu
        simpa using hu) a 1 c [.string s] rfl hnews (by omega) (by unfold maxLen; omega) (by omega)
      obtain ⟨g', cap', rfl, hL, hge⟩ := own hB ho
      exact ⟨g', cap', w', hrun, hL, ⟨hgr.os, hgr.tape, hgr.output, hgr.size, fun k hk _ => hgr.block k hk (by simp)⟩, Or.inr hge⟩

theorem wpList_append_loose {ops : Array Oper} {rest : List Oper} {o : Oper} {a : Act} {Q : Exit → Act → World → Prop} (w : World) (hgd : o.guard = none) (s x : Operand)
    (hop : o.op = Op.call { callee := Callee.builtin Builtin.append, args := #[s, x], argTypes := #[67, 67] }) (B : Nat) (v : Value) (hs : a.eval s = v) (l : List Bs) (h : LooseS w B v l) (ad : Addr) (c : Nat) (t : ByteArray) (hx : a.eval x = .slice (some ad) 1 c)
    (hc : w.cell? ad = some (.string t)) (ha : ad.add 0 = ad) (hl : l.length ≤ 1099511627776) (hB : B ≤ w.heap.size)
    (hK : ∀ g cap w', LooseS w' B (.slice (some ⟨g, 0, none⟩) (l.length + 1) cap) (l ++ [t.data.toList]) → w.grownBy w' v.ownBlock → (v.ownBlock = some g ∨ w.heap.size ≤ g) → wpList Tryz.prog ops Q rest (a.put o.dst (.slice (some ⟨g, 0, none⟩) (l.length + 1) cap)) w') :
    wpList Tryz.prog ops Q (o :: rest) a w := by
  refine wpList_plain hgd fun K hK' => ?_
  obtain ⟨g, cap, w', hrun, r1, r2, r3⟩ := run_append_loose w B v l h ad c t o.type hc ha hl hB
  unfold Oper.wp
  simp [execOp, hop, resolve, invoke, builtin, hs, hx, hrun, Result.andThen]
  exact hK' _ _ (hK g cap w' r1 r2 r3)
end Go.Proofs.YtejofgdglpmlkaaGreatDoor
