/-
  The reference's own paths as lists of bytes: names, the clean form, what is a path, the parent. Plain Lean. Conditions: none.
-/
import Derived.Test.YtejofgdglpmlkaaGreatDoorVTree
namespace Go.Proofs.YtejofgdglpmlkaaGreatDoor
open Go.RowKit

def more (out : List Bs) (cur : Bs) : List Bs := if cur = [] then out else out ++ [cur]
def rrun : Bs → Bs → List Bs → List Bs
  | [], cur, out => more out cur
  | c :: r, cur, out => if c = 47 then rrun r [] (more out cur) else rrun r (cur ++ [c]) out
def rnames (p : Bs) : List Bs := rrun p [] []
def rstep (l : List Bs) (n : Bs) : List Bs := if n = [46] then l else if n = [46, 46] then l.dropLast else l ++ [n]
theorem more_fold (out : List Bs) (cur : Bs) : (more out cur).foldl rstep [] = take1 (out.foldl rstep []) cur := by
  unfold more take1
  by_cases h : cur = []
  · rw [if_pos h, if_pos (Or.inl h)]
  · rw [if_neg h, List.foldl_append]
    simp only [List.foldl_cons, List.foldl_nil]
    generalize List.foldl rstep [] out = X
    unfold rstep
    by_cases h1 : cur = [46]
    · rw [if_pos h1, if_pos (Or.inr h1)]
    · rw [if_neg h1, if_neg (show ¬(cur = [] ∨ cur = [46]) from fun e => e.elim h h1)]
theorem rrun_fold : ∀ (r cur : Bs) (out : List Bs), (rrun r cur out).foldl rstep [] = nrun r cur (out.foldl rstep [])
  | [], cur, out => by rw [rrun, nrun]; exact more_fold out cur
  | c :: r, cur, out => by
    rw [rrun, nrun]
    split
    · rw [rrun_fold r [] _, more_fold]
    · exact rrun_fold r _ out
theorem rclean_eq (p : Bs) : joinS ((rnames p).foldl rstep []) = clean p := by
  unfold rnames clean cnames
  rw [rrun_fold]; rfl
theorem rrun_skip : ∀ (xs r cur : Bs) (l : List Bs), (∀ c ∈ xs, c ≠ 47) → rrun (xs ++ r) cur l = rrun r (cur ++ xs) l
  | [], r, cur, l, _ => by simp
  | c :: xs, r, cur, l, h => by
    have hc : c ≠ 47 := h c (by simp)
    show rrun (c :: (xs ++ r)) cur l = _
    rw [rrun, if_neg hc, rrun_skip xs r (cur ++ [c]) l (fun x hx => h x (by simp [hx]))]
    simp
theorem more_good {out : List Bs} {x : Bs} (h : Good x) : more out x = out ++ [x] := by unfold more; rw [if_neg h.ne]
theorem rrun_join : ∀ (r : List Bs) (acc : List Bs) (x : Bs), (∀ n ∈ x :: r, Good n) → rrun (joinS (x :: r)) [] acc = acc ++ x :: r
  | [], acc, x, h => by
    have hx := h x (by simp)
    have := rrun_skip x [] [] acc (fun c hc e => hx.sl (e ▸ hc))
    rw [List.append_nil] at this
    rw [joinS_one, this, List.nil_append, rrun, more_good hx]
  | y :: r, acc, x, h => by
    have hx := h x (by simp)
    rw [joinS_two, rrun_skip x _ [] acc (fun c hc e => hx.sl (e ▸ hc)), List.nil_append, rrun, if_pos rfl, more_good hx, rrun_join r (acc ++ [x]) y (fun n hn => h n (by simp at hn ⊢; exact Or.inr hn))]
    simp
theorem rnames_join {l : List Bs} (h : ∀ n ∈ l, Good n) : rnames (joinS l) = l := by
  cases l with
  | nil => rfl
  | cons x r => exact rrun_join r [] x h
theorem rnames_clean (p : Bs) : rnames (clean p) = cnames p := rnames_join (cnames_good p)
theorem mem_joinS {c : UInt8} (hc : c ≠ 47) : ∀ l : List Bs, c ∈ joinS l ↔ ∃ n ∈ l, c ∈ n
  | [] => by simp [joinS_nil]
  | [x] => by simp [joinS_one]
  | x :: y :: r => by
    rw [joinS_two, List.mem_append, List.mem_cons, mem_joinS hc (y :: r)]
    constructor
    · rintro (h | h | ⟨n, h1, h2⟩)
      · exact ⟨x, by simp, h⟩
      · exact absurd h hc
      · exact ⟨n, List.mem_cons_of_mem _ h1, h2⟩
    · rintro ⟨n, h1, h2⟩
      rcases List.mem_cons.1 h1 with rfl | h1
      · exact Or.inl h2
      · exact Or.inr (Or.inr ⟨n, h1, h2⟩)
def okName (n : Bs) : Bool := decide (n.length ≤ 255) && !decide ((0 : UInt8) ∈ n) && !decide ((10 : UInt8) ∈ n)
def rvalid (p : Bs) : Bool := decide (p.length ≤ 1000) && decide (clean p = p) && (rnames p).all okName
theorem rvalid_eq (p : Bs) : rvalid p = validB p := by
  rw [Bool.eq_iff_iff, validB_iff]
  unfold rvalid okName
  simp only [Bool.and_eq_true, decide_eq_true_eq, List.all_eq_true, Bool.not_eq_true', decide_eq_false_iff_not]
  constructor
  · rintro ⟨⟨h1, h2⟩, h3⟩
    have hn : rnames p = cnames p := by rw [← rnames_clean p, h2]
    have hj : joinS (cnames p) = p := h2
    rw [hn] at h3
    refine ⟨h1, h2, ⟨fun h => ?_, fun h => ?_⟩, fun n hm => (h3 n hm).1.1⟩
    · rw [← hj, mem_joinS (by decide)] at h
      obtain ⟨n, a, b⟩ := h
      exact (h3 n a).1.2 b
    · rw [← hj, mem_joinS (by decide)] at h
      obtain ⟨n, a, b⟩ := h
      exact (h3 n a).2 b
  · rintro ⟨h1, h2, ⟨h3, h4⟩, h5⟩
    have hn : rnames p = cnames p := by rw [← rnames_clean p, h2]
    have hj : joinS (cnames p) = p := h2
    refine ⟨⟨h1, h2⟩, fun n hm => ?_⟩
    rw [hn] at hm
    refine ⟨⟨h5 n hm, fun h => h3 ?_⟩, fun h => h4 ?_⟩
    · rw [← hj, mem_joinS (by decide)]; exact ⟨n, hm, h⟩
    · rw [← hj, mem_joinS (by decide)]; exact ⟨n, hm, h⟩
theorem rparent_eq (p : Bs) : joinS (rnames (clean p)).dropLast = parentP p := by rw [rnames_clean]; rfl
theorem rrun_tot : ∀ (r cur : Bs) (l : List Bs), tot (rrun r cur l) ≤ tot l + cur.length + 1 + r.length
  | [], cur, l => by
    rw [rrun]; unfold more
    split
    · simp only [List.length_nil]; omega
    · rw [tot_append]; simp [tot]; omega
  | c :: r, cur, l => by
    rw [rrun]
    split
    · have h1 := rrun_tot r [] (more l cur)
      have h2 : tot (more l cur) ≤ tot l + cur.length + 1 := by
        unfold more
        split
        · omega
        · rw [tot_append]; simp [tot]; omega
      simp only [List.length_nil, List.length_cons] at *; omega
    · have h1 := rrun_tot r (cur ++ [c]) l
      simp only [List.length_append, List.length_cons, List.length_nil] at *; omega
theorem rnames_tot (p : Bs) : tot (rnames p) ≤ p.length + 1 := by have := rrun_tot p [] []; simp [tot] at this; unfold rnames tot; omega
theorem rnames_len (p : Bs) : (rnames p).length ≤ p.length + 1 := Nat.le_trans (tot_len _) (rnames_tot p)
end Go.Proofs.YtejofgdglpmlkaaGreatDoor
