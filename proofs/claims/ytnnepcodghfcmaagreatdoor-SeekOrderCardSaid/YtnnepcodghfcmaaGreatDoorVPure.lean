/-
  Paths as lists of bytes: names, the clean form, the parent, the last name. Plain Lean. Conditions: none.
-/
import Derived.Lib.Join
namespace Go.Proofs.YtnnepcodghfcmaaGreatDoor
open Go.Lib (join joinTail)

abbrev Bs := List UInt8
def take1 (l : List Bs) (n : Bs) : List Bs := if n = [] ∨ n = [46] then l else if n = [46, 46] then l.dropLast else l ++ [n]
def nrun : Bs → Bs → List Bs → List Bs
  | [], cur, l => take1 l cur
  | c :: r, cur, l => if c = 47 then nrun r [] (take1 l cur) else nrun r (cur ++ [c]) l
def cnames (p : Bs) : List Bs := nrun p [] []
def joinS (l : List Bs) : Bs := join l [47]
def clean (p : Bs) : Bs := joinS (cnames p)
structure Good (n : Bs) : Prop where
  ne : n ≠ []
  dot : n ≠ [46]
  dots : n ≠ [46, 46]
  sl : (47 : UInt8) ∉ n

theorem nrun_skip : ∀ (xs r cur : Bs) (l : List Bs), (∀ c ∈ xs, c ≠ 47) → nrun (xs ++ r) cur l = nrun r (cur ++ xs) l
  | [], r, cur, l, _ => by simp
  | c :: xs, r, cur, l, h => by
    have hc : c ≠ 47 := h c (by simp)
    show nrun (c :: (xs ++ r)) cur l = _
    rw [nrun, if_neg hc, nrun_skip xs r (cur ++ [c]) l (fun x hx => h x (by simp [hx]))]
    simp
theorem nrun_end (cur : Bs) (l : List Bs) : nrun [] cur l = take1 l cur := rfl
theorem nrun_slash (r cur : Bs) (l : List Bs) : nrun (47 :: r) cur l = nrun r [] (take1 l cur) := by rw [nrun, if_pos rfl]
theorem take1_good {l : List Bs} {n : Bs} (hl : ∀ x ∈ l, Good x) (hn : (47 : UInt8) ∉ n) : ∀ x ∈ take1 l n, Good x := by
  intro x hx
  unfold take1 at hx
  split at hx
  · exact hl x hx
  · rename_i h1
    split at hx
    · exact hl x ((List.dropLast_sublist l).subset hx)
    · rename_i h2
      rcases List.mem_append.1 hx with h | h
      · exact hl x h
      · obtain rfl := List.mem_singleton.1 h
        exact ⟨fun e => h1 (Or.inl e), fun e => h1 (Or.inr e), h2, hn⟩
theorem nrun_good : ∀ (r cur : Bs) (l : List Bs), (∀ x ∈ l, Good x) → (47 : UInt8) ∉ cur → ∀ x ∈ nrun r cur l, Good x
  | [], cur, l, hl, hc => take1_good hl hc
  | c :: r, cur, l, hl, hc => by
    rw [nrun]
    split
    · exact nrun_good r [] _ (take1_good hl hc) (by simp)
    · rename_i h
      exact nrun_good r _ l hl (by simp [hc]; exact fun e => h e.symm)
theorem cnames_good (p : Bs) : ∀ x ∈ cnames p, Good x := nrun_good p [] [] (by simp) (by simp)

theorem snoc_cases (l : List Bs) : l = [] ∨ ∃ a x, l = a ++ [x] := by
  rcases l.eq_nil_or_concat with h | ⟨a, x, h⟩
  · exact Or.inl h
  · exact Or.inr ⟨a, x, by rw [h, List.concat_eq_append]⟩
def tot (l : List Bs) : Nat := (l.map fun n => n.length + 1).sum
theorem tot_append (a b : List Bs) : tot (a ++ b) = tot a + tot b := by simp [tot]
theorem tot_dropLast (l : List Bs) : tot l.dropLast ≤ tot l := by
  rcases snoc_cases l with rfl | ⟨a, x, rfl⟩
  · simp
  · rw [List.dropLast_concat, tot_append]; omega
theorem take1_tot (l : List Bs) (n : Bs) : tot (take1 l n) ≤ tot l + n.length + 1 := by
  unfold take1
  split
  · omega
  · split
    · have := tot_dropLast l; omega
    · rw [tot_append]; simp [tot]; omega
theorem nrun_tot : ∀ (r cur : Bs) (l : List Bs), tot (nrun r cur l) ≤ tot l + cur.length + 1 + r.length
  | [], cur, l => by have := take1_tot l cur; rw [nrun]; simpa using this
  | c :: r, cur, l => by
    rw [nrun]
    split
    · have h1 := nrun_tot r [] (take1 l cur)
      have h2 := take1_tot l cur
      simp only [List.length_nil, List.length_cons] at *; omega
    · have h1 := nrun_tot r (cur ++ [c]) l
      simp only [List.length_append, List.length_cons, List.length_nil] at *; omega
theorem cnames_tot (p : Bs) : tot (cnames p) ≤ p.length + 1 := by have := nrun_tot p [] []; simp [tot] at this; unfold cnames tot; omega
theorem tot_len (l : List Bs) : l.length ≤ tot l := by
  induction l with
  | nil => simp [tot]
  | cons a l ih => simp only [tot, List.map_cons, List.sum_cons, List.length_cons] at *; omega
theorem tot_mem {l : List Bs} {n : Bs} (h : n ∈ l) : n.length + 1 ≤ tot l := by
  induction l with
  | nil => simp at h
  | cons a l ih =>
    simp only [tot, List.map_cons, List.sum_cons] at *
    rcases List.mem_cons.1 h with rfl | h
    · omega
    · have := ih h; omega
theorem cnames_len (p : Bs) : (cnames p).length ≤ p.length + 1 := Nat.le_trans (tot_len _) (cnames_tot p)
theorem joinS_nil : joinS [] = [] := rfl
theorem joinS_one (x : Bs) : joinS [x] = x := Go.Lib.join_one x [47]
theorem joinTail_append (a b : List Bs) : joinTail [47] (a ++ b) = joinTail [47] a ++ joinTail [47] b := by simp [joinTail]
theorem joinS_cons (x : Bs) (r : List Bs) : joinS (x :: r) = x ++ joinTail [47] r := Go.Lib.join_cons x r [47]
theorem joinS_two (x y : Bs) (r : List Bs) : joinS (x :: y :: r) = x ++ 47 :: joinS (y :: r) := by
  rw [joinS_cons, joinS_cons]; simp [joinTail]
theorem joinS_snoc {l : List Bs} (hl : l ≠ []) (n : Bs) : joinS (l ++ [n]) = joinS l ++ 47 :: n := by
  cases l with
  | nil => exact absurd rfl hl
  | cons x r => rw [List.cons_append, joinS_cons, joinS_cons, joinTail_append]; simp [joinTail]
theorem joinS_len : ∀ l : List Bs, (joinS l).length ≤ tot l
  | [] => by simp [joinS_nil]
  | [x] => by rw [joinS_one]; simp [tot]
  | x :: y :: r => by
    have := joinS_len (y :: r)
    rw [joinS_two]
    simp only [tot, List.map_cons, List.sum_cons, List.length_append, List.length_cons] at *; omega
theorem joinS_len' : ∀ l : List Bs, l ≠ [] → (joinS l).length + 1 = tot l
  | [], h => absurd rfl h
  | [x], _ => by rw [joinS_one]; simp [tot]
  | x :: y :: r, _ => by
    have := joinS_len' (y :: r) (by simp)
    rw [joinS_two]
    simp only [tot, List.map_cons, List.sum_cons, List.length_append, List.length_cons] at *; omega
theorem clean_len (p : Bs) : (clean p).length ≤ p.length := by
  unfold clean
  by_cases h : cnames p = []
  · rw [h]; simp [joinS_nil]
  · have := joinS_len' _ h
    have := cnames_tot p
    omega
theorem take1_of_good {l : List Bs} {n : Bs} (h : Good n) : take1 l n = l ++ [n] := by
  unfold take1
  rw [if_neg (by rintro (e | e); exact h.ne e; exact h.dot e), if_neg h.dots]
theorem nrun_join : ∀ (r : List Bs) (acc : List Bs) (x : Bs), (∀ n ∈ x :: r, Good n) → nrun (joinS (x :: r)) [] acc = acc ++ x :: r
  | [], acc, x, h => by
    have hx := h x (by simp)
    have := nrun_skip x [] [] acc (fun c hc e => hx.sl (e ▸ hc))
    rw [List.append_nil] at this
    rw [joinS_one, this, List.nil_append, nrun_end, take1_of_good hx]
  | y :: r, acc, x, h => by
    have hx := h x (by simp)
    rw [joinS_two, nrun_skip x _ [] acc (fun c hc e => hx.sl (e ▸ hc)), List.nil_append, nrun_slash, take1_of_good hx, nrun_join r (acc ++ [x]) y (fun n hn => h n (by simp at hn ⊢; exact Or.inr hn))]
    simp
theorem cnames_join {l : List Bs} (h : ∀ n ∈ l, Good n) : cnames (joinS l) = l := by
  cases l with
  | nil => simp [joinS_nil, cnames, nrun, take1]
  | cons x r => exact nrun_join r [] x h
theorem cnames_clean (p : Bs) : cnames (clean p) = cnames p := cnames_join (cnames_good p)
theorem clean_clean (p : Bs) : clean (clean p) = clean p := by unfold clean; rw [show cnames (joinS (cnames p)) = cnames p from cnames_clean p]
/-- One name alone. -/
theorem cnames_name {n : Bs} (h : Good n) : cnames n = [n] := by
  have := cnames_join (l := [n]) (by simpa using h)
  rwa [joinS_one] at this
theorem clean_name {n : Bs} (h : Good n) : clean n = n := by unfold clean; rw [cnames_name h, joinS_one]

def validB (p : Bs) : Bool := decide (p.length ≤ 1000) && decide (clean p = p) && !(decide ((0 : UInt8) ∈ p) || decide ((10 : UInt8) ∈ p)) && (cnames p).all fun n => decide (n.length ≤ 255)
theorem validB_iff {p : Bs} : validB p = true ↔ p.length ≤ 1000 ∧ clean p = p ∧ ((0 : UInt8) ∉ p ∧ (10 : UInt8) ∉ p) ∧ ∀ n ∈ cnames p, n.length ≤ 255 := by
  simp [validB, and_assoc]

/-- The place of the last slash. -/
def lastAt : Nat → Bs → Int → Int
  | _, [], a => a
  | k, c :: r, a => lastAt (k + 1) r (if c = 47 then (k : Int) else a)
def lastSl (s : Bs) : Int := lastAt 0 s (-1)
theorem lastAt_none : ∀ (s : Bs) (k : Nat) (a : Int), (∀ c ∈ s, c ≠ 47) → lastAt k s a = a
  | [], _, _, _ => rfl
  | c :: s, k, a, h => by rw [lastAt, if_neg (h c (by simp)), lastAt_none s _ _ (fun x hx => h x (by simp [hx]))]
theorem lastAt_split : ∀ (a : Bs) (b : Bs) (k : Nat) (z : Int), (∀ c ∈ b, c ≠ 47) → lastAt k (a ++ 47 :: b) z = (k + a.length : Nat)
  | [], b, k, z, h => by rw [List.nil_append, lastAt, if_pos rfl, lastAt_none b _ _ h]; simp
  | c :: a, b, k, z, h => by rw [List.cons_append, lastAt, lastAt_split a b _ _ h]; simp only [List.length_cons]; omega
theorem lastSl_none {s : Bs} (h : ∀ c ∈ s, c ≠ 47) : lastSl s = -1 := lastAt_none s 0 _ h
theorem lastSl_split {a b : Bs} (h : ∀ c ∈ b, c ≠ 47) : lastSl (a ++ 47 :: b) = a.length := by unfold lastSl; rw [lastAt_split a b 0 _ h]; simp
def parentP (p : Bs) : Bs := joinS (cnames p).dropLast
def lastP (p : Bs) : Bs := (cnames p).getLastD []
theorem lastAt_bd : ∀ (s : Bs) (k : Nat) (a : Int), a < k → -1 ≤ a → lastAt k s a < (k + s.length : Nat) ∧ -1 ≤ lastAt k s a
  | [], k, a, h, h' => by simp [lastAt]; omega
  | c :: s, k, a, h, h' => by
    have := lastAt_bd s (k + 1) (if c = 47 then (k : Int) else a) (by split <;> omega) (by split <;> omega)
    rw [lastAt]
    simp only [List.length_cons]
    omega
theorem lastSl_lt (s : Bs) : lastSl s < s.length ∧ -1 ≤ lastSl s := by
  have := lastAt_bd s 0 (-1) (by omega) (by omega)
  unfold lastSl
  omega
theorem clean_parts (p : Bs) : (clean p).take (max 0 (lastSl (clean p))).toNat = parentP p ∧ (clean p).drop (lastSl (clean p) + 1).toNat = lastP p := by
  have hg := cnames_good p
  unfold clean parentP lastP
  generalize cnames p = l at hg
  rcases snoc_cases l with rfl | ⟨a, x, rfl⟩
  · rw [joinS_nil, lastSl_none (by simp)]; simp [joinS_nil]
  · have hx : ∀ c ∈ x, c ≠ 47 := fun c hc e => (hg x (by simp)).sl (e ▸ hc)
    rw [List.dropLast_concat]
    cases a with
    | nil => rw [List.nil_append, joinS_one, lastSl_none hx]; simp [joinS_nil]; exact Or.inl (by decide)
    | cons y a =>
      rw [joinS_snoc (by simp), lastSl_split hx]
      refine ⟨?_, ?_⟩
      · rw [show (max (0 : Int) ((joinS (y :: a)).length : Int)).toNat = (joinS (y :: a)).length by omega]
        rw [List.take_left]
      · rw [show (((joinS (y :: a)).length : Int) + 1).toNat = (joinS (y :: a)).length + 1 by omega]
        rw [List.getLastD_concat, ← List.drop_drop, List.drop_left]
        simp

/-- The paths above a path, from the top on. -/
def upsFrom : Bs → Bs → List Bs
  | _, [] => []
  | pre, c :: r => if c = 47 then pre :: upsFrom (pre ++ [c]) r else upsFrom (pre ++ [c]) r
def ups (p : Bs) : List Bs := upsFrom [] p
theorem upsFrom_skip : ∀ (xs r pre : Bs), (∀ c ∈ xs, c ≠ 47) → upsFrom pre (xs ++ r) = upsFrom (pre ++ xs) r
  | [], r, pre, _ => by simp
  | c :: xs, r, pre, h => by
    rw [List.cons_append, upsFrom, if_neg (h c (by simp)), upsFrom_skip xs r _ (fun x hx => h x (by simp [hx]))]
    simp
theorem upsFrom_slash (r pre : Bs) : upsFrom pre (47 :: r) = pre :: upsFrom (pre ++ [47]) r := by rw [upsFrom, if_pos rfl]
end Go.Proofs.YtnnepcodghfcmaaGreatDoor
