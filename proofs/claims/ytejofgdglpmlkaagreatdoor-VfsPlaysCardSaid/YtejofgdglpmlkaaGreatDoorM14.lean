/-
  The reference's Valid: what it answers is validB. Conditions: texts of at most 2^31 bytes.
  The reference's file system: looking for a path (a binary search), its weight. Conditions: at most 1000 nodes, data of at most 2^40 bytes.
  Plain laws for the reference's file system: the paths above a path, lists and their places, lists that have the same nodes. Plain Lean. Conditions: none.
-/
import Derived.Test.YtejofgdglpmlkaaGreatDoorM13
import Derived.Test.YtejofgdglpmlkaaGreatDoorM08
import Derived.Test.YtejofgdglpmlkaaGreatDoorM12
namespace Go.Proofs.YtejofgdglpmlkaaGreatDoor
open Go.RowKit

theorem okName_take {l : List Bs} {k : Nat} {n : Bs} (h : l[k]? = some n) : ((l.take (k + 1)).all okName) = (((l.take k).all okName) && okName n) := by
  rw [take_more h, List.all_append]; simp
theorem rvalid_not {p : Bs} {n : Bs} (hm : n ∈ rnames p) (h : okName n = false) : validB p = false := by
  rw [← rvalid_eq, ← Bool.not_eq_true]
  unfold rvalid
  simp only [Bool.and_eq_true, List.all_eq_true]
  rintro ⟨_, h'⟩
  rw [h' n hm] at h; cases h
set_option maxRecDepth 100000 in
set_option maxHeartbeats 2000000 in
theorem refValid_calls (p : ByteArray) (w : World) (hp : p.size ≤ 2147483647) :
    Calls Tryz.prog 29 #[.string p] w fun e w' => e = .returned (.bool (validB p.data.toList)) ∧ Below w.heap.size w w' := by
  have hp' : p.size ≤ 1099511627775 := by omega
  by_cases h1 : 1000 < p.size
  · have hv : validB p.data.toList = false := by
      rw [← Bool.not_eq_true, validB_iff]; rintro ⟨h, _⟩; rw [← Go.Lib.size_eq] at h; omega
    have kv := Lib.hid hv
    clear hv
    go_enter Tryz.func29, Tryz.ntmps29
    go_wp2
    go_ret
    exact ⟨by rw [kv.out]; rfl, Below.refl _ _⟩
  have h1' : p.size ≤ 1000 := by omega
  clear h1
  have hC := Lib.hid (fun w => refClean_calls p w hp')
  by_cases h2 : clean p.data.toList = p.data.toList
  · have h2' := Lib.hid h2
    have hmk : mk (clean p.data.toList) = p := by rw [h2, mk_back]
    have hCc := Lib.hid (show ∀ w, Calls Tryz.prog 54 #[.string p] w fun e w' => e = .returned (.string p) ∧ Below w.heap.size w w' from fun w => by have := hC.out w; rwa [hmk] at this)
    have hN := Lib.hid (fun w => refNames_calls p w hp')
    have hlen := rnames_len p.data.toList
    have htot := rnames_tot p.data.toList
    rw [← Go.Lib.size_eq] at hlen htot
    have kvb := Lib.hid (show validB p.data.toList = (rnames p.data.toList).all okName by
      rw [← rvalid_eq]
      unfold rvalid
      have : p.data.toList.length ≤ 1000 := by rw [← Go.Lib.size_eq]; exact h1'
      rw [decide_eq_true this, decide_eq_true h2]; rfl)
    have kvn := Lib.hid (fun (n : Bs) (hm : n ∈ rnames p.data.toList) (h : okName n = false) => rvalid_not hm h)
    clear h2 hmk hC
    go_enter Tryz.func29, Tryz.ntmps29
    go_wp2_with (first | (go_at_call 54; refine (hCc.out _).mono ?_; rintro e w1 ⟨rfl, hb⟩; have kb1 := Lib.hid hb; clear hb) | (go_at_call 55; refine (hN.out _).mono ?_; rintro e w3 ⟨v, rfl, hl, hb⟩; have kb3 := Lib.hid hb; obtain ⟨ao, cap, rfl⟩ := hl.form; have kl := Lib.hid hl; clear hb hl))
    have hB := Lib.hid (kb1.out.trans (kb3.out.mono kb1.out.size))
    clear kb1 kb3
    generalize rnames p.data.toList = L at *
    go_loop [4] (fun kv => ∃ k : Nat, k ≤ L.length ∧ kv = .int .i64 k ∧ ((L.take k).all okName) = true) (fun kv => L.length - (intOf kv).toNat)
    case atStart => exact ⟨0, Nat.zero_le _, rfl, rfl⟩
    case round =>
      obtain ⟨k, hk, rfl, hall⟩ := hrel
      have kall := Lib.hid hall
      clear hall
      by_cases hlt : k < L.length
      · obtain ⟨n, hn⟩ : ∃ n, L[k]? = some n := ⟨_, List.getElem?_eq_getElem hlt⟩
        obtain ⟨g, cap', e, hbg, hg, hcell⟩ := kl.out.cells hn
        injection e with e1 e2 e3
        subst e1 e3
        have kat := Lib.hid (okName_take hn)
        have kno := Lib.hid (fun h => kvn.out n (List.mem_of_getElem? hn) h)
        have hnl := tot_mem (List.mem_of_getElem? hn)
        have hms := mk_size n
        have hml := mk_list n
        have hI0 := Lib.hid (fun w => refIndex_calls (mk n) 0 w (by rw [mk_size]; omega) 0 rfl)
        have hI1 := Lib.hid (fun w => refIndex_calls (mk n) 10 w (by rw [mk_size]; omega) 10 rfl)
        rw [hml] at hI0 hI1
        have kq := Lib.hid hms
        have z1 : (0 : Int) ≤ (k : Int) := by omega
        have z2 : (k : Int) < (L.length : Int) := by omega
        generalize mk n = M at *
        clear hn hms hml
        by_cases h255 : n.length ≤ 255
        · have hm255 : M.size ≤ 255 := by rw [kq.out]; exact h255
          by_cases h0 : (0 : UInt8) ∈ n
          · have kf := Lib.hid (kno.out (by unfold okName; rw [decide_eq_true h0]; simp))
            have k0 := Lib.hid h0
            clear h0
            go_wp2_with (go_at_call_of 56 (Value.int .u8 0); refine (hI0.out _).mono ?_; rintro e w4 ⟨q, rfl, hq, rfl⟩; have hq0 := hq.2 k0.out; clear hq)
            go_ret
            exact ⟨by rw [kf.out]; rfl, hB.out⟩
          · have k0 := Lib.hid h0
            clear h0
            by_cases h10 : (10 : UInt8) ∈ n
            · have kf := Lib.hid (kno.out (by unfold okName; rw [decide_eq_true h10]; simp))
              have k1 := Lib.hid h10
              clear h10
              go_wp2_with (first | (go_at_call_of 56 (Value.int .u8 0); refine (hI0.out _).mono ?_; rintro e w4 ⟨q, rfl, hq, rfl⟩; have hq0 : q < 0 := Int.not_le.1 (fun h => k0.out (hq.1 h)); clear hq) | (go_at_call_of 56 (Value.int .u8 10); refine (hI1.out _).mono ?_; rintro e w4 ⟨q1, rfl, hq, rfl⟩; have hq1 := hq.2 k1.out; clear hq))
              go_ret
              exact ⟨by rw [kf.out]; rfl, hB.out⟩
            · have kf := Lib.hid (show okName n = true by unfold okName; rw [decide_eq_true h255, decide_eq_false k0.out, decide_eq_false h10]; rfl)
              have k1 := Lib.hid h10
              clear h10
              go_wp2_with (first | (go_at_call_of 56 (Value.int .u8 0); refine (hI0.out _).mono ?_; rintro e w4 ⟨q, rfl, hq, rfl⟩; have hq0 : q < 0 := Int.not_le.1 (fun h => k0.out (hq.1 h)); clear hq) | (go_at_call_of 56 (Value.int .u8 10); refine (hI1.out _).mono ?_; rintro e w4 ⟨q1, rfl, hq, rfl⟩; have hq1 : q1 < 0 := Int.not_le.1 (fun h => k1.out (hq.1 h)); clear hq))
              go_round
              case rel => exact ⟨k + 1, by omega, by go_num, by rw [kat.out, kall.out, kf.out]; rfl⟩
              case measure => simp [intOf]; omega
        · have hm255 : 255 < M.size := by rw [kq.out]; omega
          have kf := Lib.hid (kno.out (by unfold okName; rw [decide_eq_false h255]; rfl))
          go_wp2
          go_ret
          exact ⟨by rw [kf.out]; rfl, hB.out⟩
      · have kf := Lib.hid (show validB p.data.toList = true by
          have := kall.out
          rw [List.take_of_length_le (by omega)] at this
          rw [kvb.out]; exact this)
        go_wp2
        go_ret
        exact ⟨by rw [kf.out]; rfl, hB.out⟩
  · have hv : validB p.data.toList = false := by
      rw [← Bool.not_eq_true, validB_iff]; rintro ⟨_, h, _⟩; exact h2 h
    have kv := Lib.hid hv
    have hne : ((mk (clean p.data.toList)).toList == p.toList) = false := ba_ne (fun e => h2 (by have := congrArg (fun b : ByteArray => b.data.toList) e; rwa [mk_list] at this))
    clear hv h2
    generalize mk (clean p.data.toList) = Q at *
    go_enter Tryz.func29, Tryz.ntmps29
    go_wp2_with (go_at_call 54; refine (hC.out _).mono ?_; rintro e w1 ⟨rfl, hb⟩; have kb := Lib.hid hb; clear hb)
    go_ret
    exact ⟨by rw [kv.out]; rfl, kb.out⟩
end Go.Proofs.YtejofgdglpmlkaaGreatDoor
namespace Go.Proofs.YtejofgdglpmlkaaGreatDoor
open Go.RowKit

theorem rising_lt {l : St} (h : Rising l) {i j : Nat} {x y : Bs × PN} (hij : i < j) (hx : l[i]? = some x) (hy : l[j]? = some y) : x.1 < y.1 := by
  obtain ⟨hi, rfl⟩ := List.getElem?_eq_some_iff.1 hx
  obtain ⟨hj, rfl⟩ := List.getElem?_eq_some_iff.1 hy
  exact List.pairwise_iff_getElem.1 h i j hi hj hij
theorem more_mk' {p y : Bs} (h : ¬ y < p) : Op.bytesLess (mk y).toList (mk p).toList = false := by
  rw [Go.Lib.toList_data, Go.Lib.toList_data, mk_list, mk_list, bytesLess_eq]
  simpa using h
/-- What the search keeps. -/
structure Seek (l : St) (p : Bs) (a b : Nat) : Prop where make ::
  ab : a ≤ b
  bl : b ≤ l.length
  lo : ∀ (i : Nat) (x : Bs × PN), i < a → l[i]? = some x → x.1 < p
  hi : ∀ (i : Nat) (x : Bs × PN), b ≤ i → l[i]? = some x → ¬ x.1 < p
theorem Seek.start (l : St) (p : Bs) : Seek l p 0 l.length := ⟨Nat.zero_le _, Nat.le_refl _, fun i x h => absurd h (Nat.not_lt_zero _), fun i x h hx => by have := (List.getElem?_eq_some_iff.1 hx).1; omega⟩
theorem Seek.up {l : St} {p : Bs} {a b m : Nat} {y : Bs × PN} (h : Seek l p a b) (hr : Rising l) (hy : l[m]? = some y) (hm : a ≤ m) (hb : m < b) (hlt : y.1 < p) : Seek l p (m + 1) b := by
  refine ⟨hb, h.bl, fun i x hi hx => ?_, h.hi⟩
  by_cases e : i = m
  · subst e; rw [hx] at hy; injection hy with hy; subst hy; exact hlt
  · exact List.lt_trans (rising_lt hr (by omega) hx hy) hlt
theorem Seek.down {l : St} {p : Bs} {a b m : Nat} {y : Bs × PN} (h : Seek l p a b) (hr : Rising l) (hy : l[m]? = some y) (hm : a ≤ m) (hb : m < b) (hlt : ¬ y.1 < p) : Seek l p a m := by
  refine ⟨hm, by have := h.bl; omega, h.lo, fun i x hi hx hxp => ?_⟩
  by_cases e : i = m
  · subst e; rw [hx] at hy; injection hy with hy; subst hy; exact hlt hxp
  · exact hlt (List.lt_trans (rising_lt hr (by omega) hy hx) hxp)
theorem Seek.none {l : St} {p : Bs} {a b : Nat} (h : Seek l p a b) (hab : ¬ a < b) (hr : Rising l) (hn : ∀ x, l[a]? = some x → x.1 ≠ p) : ∀ x ∈ l, x.1 ≠ p := by
  intro x hx e
  obtain ⟨i, hi⟩ := List.getElem?_of_mem hx
  by_cases h1 : i < a
  · have := h.lo i x h1 hi
    rw [e] at this
    exact List.lt_irrefl _ this
  · by_cases h2 : i = a
    · subst h2; exact hn x hi e
    · have ha : a < l.length := by have := (List.getElem?_eq_some_iff.1 hi).1; omega
      have hl := rising_lt hr (show a < i by omega) (List.getElem?_eq_getElem ha) hi
      rw [e] at hl
      exact h.hi a _ (by have := h.ab; omega) (List.getElem?_eq_getElem ha) hl
theorem half {a b : Nat} : ((a : Int) + (b : Int)).tdiv 2 = (((a + b) / 2 : Nat) : Int) := by
  rw [show ((a : Int) + (b : Int)) = ((a + b : Nat) : Int) by omega]
  rfl
/-- What the search answers. -/
def SeekAns (l : St) (p : Bs) (k : Int) : Prop := (k = -1 ∧ ∀ x ∈ l, x.1 ≠ p) ∨ ∃ (j : Nat) (x : Bs × PN), k = j ∧ l[j]? = some x ∧ x.1 = p
set_option maxRecDepth 100000 in
set_option maxHeartbeats 2000000 in
theorem refAt_calls {w : World} {fb : Nat} {sa : Option Addr} {sc : Nat} {c1 c2 : Value} {l : St} {T : Nat → Prop} (hb : w.heap[fb]? = some (.cells #[.slice sa l.length sc, c1, c2] 62 (0, 0))) (ht : TreeAt w (.slice sa l.length sc) l T) (hr : Rising l) (p : Bs) (hl : l.length ≤ 1099511627776) :
    Calls Tryz.prog 31 #[.pointer (some ⟨fb, 0, none⟩), .string (mk p)] w fun e w' => ∃ k : Int, e = .returned (.int .i64 k) ∧ SeekAns l p k ∧ w = w' := by
  obtain ⟨hc0, -⟩ := cells3 hb
  have hfl := heap_lt hb
  have kt := Lib.hid ht
  have kr := Lib.hid hr
  clear hb ht hr
  go_enter Tryz.func31, Tryz.ntmps31
  go_wp2
  go_loop [5, 6, 7] (fun av bv _ => ∃ a b : Nat, av = .int .i64 a ∧ bv = .int .i64 b ∧ Seek l p a b) (fun av bv _ => (intOf bv).toNat - (intOf av).toNat)
  case atStart => exact ⟨0, l.length, rfl, rfl, Seek.start l p⟩
  case round =>
    obtain ⟨a, b, rfl, rfl, hS⟩ := hrel
    have h1 := hS.ab
    have h2 := hS.bl
    have kS := Lib.hid hS
    clear hS
    by_cases hlt : a < b
    · have hhalf := half (a := a) (b := b)
      obtain ⟨m, hm⟩ : ∃ m, m = (a + b) / 2 := ⟨_, rfl⟩
      have hm1 : a ≤ m := by omega
      have hm2 : m < b := by omega
      rw [← hm] at hhalf
      clear hm
      obtain ⟨y, hy⟩ : ∃ y, l[m]? = some y := ⟨_, List.getElem?_eq_getElem (by omega)⟩
      obtain ⟨bb, off, dv, hta, hTb, hbl, hd0, -, -, -, -⟩ := kt.out.at hy
      subst hta
      have ky := Lib.hid hy
      clear hy hTb
      have z1 : (m : Int) < (l.length : Int) := by omega
      by_cases hyp : y.1 < p
      · have hq := less_mk hyp
        have kn := Lib.hid (kS.out.up kr.out ky.out hm1 hm2 hyp)
        clear hyp
        go_wp2
        go_round
        case rel => exact ⟨m + 1, b, by go_num, rfl, kn.out⟩
        case measure => simp [intOf]; omega
      · have hq := more_mk' hyp
        have kn := Lib.hid (kS.out.down kr.out ky.out hm1 hm2 hyp)
        clear hyp
        go_wp2
        go_round
        case rel => exact ⟨a, m, rfl, rfl, kn.out⟩
        case measure => simp [intOf]; omega
    · by_cases hal : a < l.length
      · obtain ⟨y, hy⟩ : ∃ y, l[a]? = some y := ⟨_, List.getElem?_eq_getElem hal⟩
        obtain ⟨bb, off, dv, hta, hTb, hbl, hd0, -, -, -, -⟩ := kt.out.at hy
        subst hta
        have ky := Lib.hid hy
        clear hy hTb
        have z1 : (a : Int) < (l.length : Int) := by omega
        by_cases hyp : y.1 = p
        · subst hyp
          go_wp2
          go_ret
          exact ⟨(a : Int), rfl, Or.inr ⟨a, y, rfl, ky.out, rfl⟩, rfl⟩
        · have hq : ((mk y.1).toList == (mk p).toList) = false := mk_ne hyp
          have kn := Lib.hid (kS.out.none hlt kr.out (fun x hx => by rw [ky.out] at hx; injection hx with hx; subst hx; exact hyp))
          clear hyp
          go_wp2
          go_ret
          exact ⟨-1, rfl, Or.inl ⟨rfl, kn.out⟩, rfl⟩
      · have kn := Lib.hid (kS.out.none hlt kr.out (fun x hx => absurd (List.getElem?_eq_some_iff.1 hx).1 hal))
        go_wp2
        go_ret
        exact ⟨-1, rfl, Or.inl ⟨rfl, kn.out⟩, rfl⟩
set_option maxRecDepth 100000 in
set_option maxHeartbeats 2000000 in
theorem refweight_calls {w : World} {sa : Option Addr} {sc : Nat} {l : St} {T : Nat → Prop} (ht : TreeAt w (.slice sa l.length sc) l T) (hl : l.length ≤ 1000) (hd : ∀ x ∈ l, x.2.data.length ≤ 1099511627776) :
    Calls Tryz.prog 32 #[.slice sa l.length sc] w fun e w' => e = .returned (.int .i64 ((l.length : Int) + (bytesOf l : Int))) ∧ w = w' := by
  have kt := Lib.hid ht
  have kd := Lib.hid hd
  clear ht hd
  go_enter Tryz.func32, Tryz.ntmps32
  go_wp2
  go_loop [3, 4] (fun nv iv => ∃ k : Nat, k ≤ l.length ∧ iv = .int .i64 k ∧ nv = .int .i64 ((l.length : Int) + (bytesOf (l.take k) : Int))) (fun _ iv => l.length - (intOf iv).toNat)
  case atStart => exact ⟨0, Nat.zero_le _, rfl, by simp [bytesOf]⟩
  case round =>
    obtain ⟨k, hk, rfl, rfl⟩ := hrel
    have hsum := bytes_small (l := l.take k) (by simp; omega) (fun y hy => kd.out y (List.mem_of_mem_take hy))
    by_cases hlt : k < l.length
    · obtain ⟨x, hx⟩ : ∃ x, l[k]? = some x := ⟨_, List.getElem?_eq_getElem hlt⟩
      obtain ⟨bb, off, dv, hta, hTb, hbl, -, -, -, hd3, hdv⟩ := kt.out.at hx
      obtain ⟨da, dc, hdf⟩ := hdv.form
      subst hta hdf
      have hdl := kd.out x (List.mem_of_getElem? hx)
      have htk := bytes_take hx
      clear hTb hdv hx
      go_wp2
      go_round
      case rel => exact ⟨k + 1, by omega, by go_num, by rw [htk]; congr 1; omega⟩
      case measure => simp [intOf]; omega
    · have hkl : k = l.length := by omega
      subst hkl
      rw [List.take_length]
      go_wp2
      go_ret
      exact ⟨rfl, rfl⟩
end Go.Proofs.YtejofgdglpmlkaaGreatDoor
namespace Go.Proofs.YtejofgdglpmlkaaGreatDoor
open Go.RowKit

/-- The paths above a path, out of its names. -/
def waysFrom : List Bs → List Bs → List Bs
  | _, [] => []
  | _, [_] => []
  | acc, x :: y :: r => joinS (acc ++ [x]) :: waysFrom (acc ++ [x]) (y :: r)
def preJ : List Bs → Bs
  | [] => []
  | x :: r => joinS (x :: r) ++ [47]
theorem preJ_add (acc : List Bs) (x : Bs) : preJ acc ++ x = joinS (acc ++ [x]) := by
  cases acc with
  | nil => rw [List.nil_append, joinS_one]; rfl
  | cons y r => rw [joinS_snoc (by simp)]; simp [preJ]
theorem preJ_more (acc : List Bs) (x : Bs) : joinS (acc ++ [x]) ++ [47] = preJ (acc ++ [x]) := by
  cases h : acc ++ [x] with
  | nil => simp at h
  | cons y r => rfl
theorem upsFrom_join : ∀ (r acc : List Bs) (x : Bs), (∀ n ∈ x :: r, Good n) → upsFrom (preJ acc) (joinS (x :: r)) = waysFrom acc (x :: r)
  | [], acc, x, h => by
    have hx := h x (by simp)
    have := upsFrom_skip x [] (preJ acc) (fun c hc e => hx.sl (e ▸ hc))
    rw [List.append_nil] at this
    rw [joinS_one, this]; rfl
  | y :: r, acc, x, h => by
    have hx := h x (by simp)
    rw [joinS_two, upsFrom_skip x _ _ (fun c hc e => hx.sl (e ▸ hc)), upsFrom_slash, preJ_add, preJ_more, upsFrom_join r (acc ++ [x]) y (fun n hn => h n (by simp at hn ⊢; exact Or.inr hn))]
    rfl
theorem ups_cnames {q : Bs} (h : clean q = q) : ups q = waysFrom [] (cnames q) := by
  have hj : joinS (cnames q) = q := h
  have hg := cnames_good q
  generalize cnames q = L at *
  subst hj
  cases L with
  | nil => rfl
  | cons x r => exact upsFrom_join r [] x hg
theorem ways_step {L : List Bs} {i : Nat} (h : i + 1 < L.length) : ∃ x, L[i]? = some x ∧ waysFrom (L.take i) (L.drop i) = joinS (L.take (i + 1)) :: waysFrom (L.take (i + 1)) (L.drop (i + 1)) := by
  have h0 : i < L.length := by omega
  refine ⟨L[i]'h0, List.getElem?_eq_getElem h0, ?_⟩
  have e1 : L.drop i = L[i]'h0 :: L.drop (i + 1) := List.drop_eq_getElem_cons h0
  have e2 : L.drop (i + 1) = L[i + 1]'h :: L.drop (i + 2) := List.drop_eq_getElem_cons h
  have e3 : L.take (i + 1) = L.take i ++ [L[i]'h0] := take_more (List.getElem?_eq_getElem h0)
  rw [e1, e2, waysFrom, ← e3]
theorem ways_end {L : List Bs} {i : Nat} (h : ¬ i + 1 < L.length) : waysFrom (L.take i) (L.drop i) = [] := by
  have : (L.drop i).length ≤ 1 := by rw [List.length_drop]; omega
  match hd : L.drop i, this with
  | [], _ => rfl
  | [x], _ => rfl

/-- Where a path's node is. -/
theorem at_cases {l : St} (hr : Rising l) {p : Bs} {k : Int} (h : SeekAns l p k) : (k = -1 ∧ find l p = none) ∨ ∃ (j : Nat) (n : PN), k = j ∧ l[j]? = some (p, n) ∧ find l p = some n := by
  rcases h with ⟨h1, h2⟩ | ⟨j, x, h1, h2, h3⟩
  · exact Or.inl ⟨h1, find_none.2 h2⟩
  · right
    obtain ⟨y, n⟩ := x
    obtain rfl : y = p := h3
    exact ⟨j, n, h1, h2, find_of_mem hr (List.mem_of_getElem? h2)⟩
theorem at_none {l : St} (hr : Rising l) {p : Bs} {k : Int} (hf : find l p = none) (h : SeekAns l p k) : k = -1 := by
  rcases at_cases hr h with ⟨h1, _⟩ | ⟨j, n, _, _, h3⟩
  · exact h1
  · rw [hf] at h3; cases h3
theorem at_some {l : St} (hr : Rising l) {p : Bs} {k : Int} {n : PN} (hf : find l p = some n) (h : SeekAns l p k) : ∃ j : Nat, k = j ∧ l[j]? = some (p, n) := by
  rcases at_cases hr h with ⟨_, h2⟩ | ⟨j, m, h1, h2, h3⟩
  · rw [hf] at h2; cases h2
  · rw [hf] at h3; injection h3 with h3; subst h3; exact ⟨j, h1, h2⟩
theorem at_is {l : St} (hr : Rising l) {p : Bs} {k : Int} {j : Nat} {n : PN} (hj : l[j]? = some (p, n)) (h : SeekAns l p k) : k = j := by
  obtain ⟨i, h1, h2⟩ := at_some hr (find_of_mem hr (List.mem_of_getElem? hj)) h
  rcases Nat.lt_trichotomy i j with h3 | h3 | h3
  · exact absurd (rising_lt hr h3 h2 hj) (List.lt_irrefl _)
  · rw [h1, h3]
  · exact absurd (rising_lt hr h3 hj h2) (List.lt_irrefl _)
theorem st_index {l : St} (hr : Rising l) {i j : Nat} {p : Bs} {m n : PN} (hj : l[j]? = some (p, n)) (hi : l[i]? = some (p, m)) : j = i := by
  rcases Nat.lt_trichotomy i j with h3 | h3 | h3
  · exact absurd (rising_lt hr h3 hi hj) (List.lt_irrefl _)
  · exact h3.symm
  · exact absurd (rising_lt hr h3 hj hi) (List.lt_irrefl _)
theorem find_get {l : St} {p : Bs} {n : PN} (h : find l p = some n) : ∃ j : Nat, l[j]? = some (p, n) ∧ (0 : Int) ≤ (j : Int) ∧ (j : Int) < (l.length : Int) := by
  obtain ⟨j, hj⟩ := List.getElem?_of_mem (find_mem h)
  have := (List.getElem?_eq_some_iff.1 hj).1
  exact ⟨j, hj, by omega, by omega⟩
theorem find_at {l : St} (hr : Rising l) {j : Nat} {p : Bs} {n : PN} (h : l[j]? = some (p, n)) : find l p = some n := find_of_mem hr (List.mem_of_getElem? h)
theorem st_ext : ∀ {a b : St}, Rising a → Rising b → (∀ x, find a x = find b x) → a = b
  | [], [], _, _, _ => rfl
  | [], (q, m) :: r, _, _, h => by have := h q; rw [find, find, if_pos rfl] at this; cases this
  | (q, m) :: r, [], _, _, h => by have := h q; rw [find, find, if_pos rfl] at this; cases this
  | (p, n) :: a, (q, m) :: b, ha, hb, h => by
    obtain ⟨a1, a2⟩ := List.pairwise_cons.1 ha
    obtain ⟨b1, b2⟩ := List.pairwise_cons.1 hb
    have hpq : p = q := by
      rcases lt_tri p q with h1 | h1 | h1
      · have h2 := h p
        rw [find, if_pos rfl, find, if_neg (fun e => by rw [e] at h1; exact List.lt_irrefl _ h1)] at h2
        have := b1 _ (find_mem h2.symm)
        exact absurd (List.lt_trans h1 this) (List.lt_irrefl _)
      · exact h1
      · have h2 := h q
        rw [find, if_neg (fun e => by rw [e] at h1; exact List.lt_irrefl _ h1), find, if_pos rfl] at h2
        have := a1 _ (find_mem h2)
        exact absurd (List.lt_trans h1 this) (List.lt_irrefl _)
    subst hpq
    have h2 := h p
    rw [find, if_pos rfl, find, if_pos rfl] at h2
    injection h2 with h2
    subst h2
    congr 1
    refine st_ext a2 b2 fun x => ?_
    by_cases e : p = x
    · subst e
      rw [find_none.2 (fun y hy e => by have := a1 y hy; rw [e] at this; exact List.lt_irrefl _ this), find_none.2 (fun y hy e => by have := b1 y hy; rw [e] at this; exact List.lt_irrefl _ this)]
    · have := h x
      rwa [find, if_neg e, find, if_neg e] at this
theorem put_set : ∀ {l : St} {j : Nat} {p : Bs} {m n : PN}, Rising l → l[j]? = some (p, m) → putSt l p n = l.set j (p, n)
  | [], j, p, m, n, _, h => by simp at h
  | (k, u) :: r, 0, p, m, n, _, h => by
    simp at h
    rw [putSt, if_pos h.1, List.set_cons_zero]
  | (k, u) :: r, j + 1, p, m, n, hr, h => by
    obtain ⟨h1, h2⟩ := List.pairwise_cons.1 hr
    simp at h
    have hlt : k < p := h1 _ (List.mem_of_getElem? h)
    rw [putSt, if_neg (fun e => by rw [e] at hlt; exact List.lt_irrefl _ hlt), if_neg (fun e => List.lt_irrefl _ (List.lt_trans e hlt)), List.set_cons_succ, put_set h2 h]
theorem put_insert : ∀ {l : St} {k : Nat} {p : Bs} {n : PN}, Rising l → find l p = none → (∀ (i : Nat) (x : Bs × PN), i < k → l[i]? = some x → x.1 < p) → (∀ x, l[k]? = some x → ¬ x.1 < p) → putSt l p n = l.take k ++ (p, n) :: l.drop k
  | [], k, p, n, _, _, _, _ => by simp [putSt]
  | (q, m) :: r, 0, p, n, _, hf, _, hk => by
    have h1 := hk (q, m) (by simp)
    have hne : q ≠ p := fun e => by rw [find, if_pos e] at hf; cases hf
    rw [putSt, if_neg hne, if_pos (by rcases lt_tri q p with h | h | h; exact absurd h h1; exact absurd h hne; exact h)]; rfl
  | (q, m) :: r, k + 1, p, n, hr, hf, hlo, hk => by
    obtain ⟨h1, h2⟩ := List.pairwise_cons.1 hr
    have hlt : q < p := hlo 0 (q, m) (by omega) (by simp)
    have hne : q ≠ p := fun e => by rw [e] at hlt; exact List.lt_irrefl _ hlt
    rw [find, if_neg hne] at hf
    rw [putSt, if_neg hne, if_neg (fun e => List.lt_irrefl _ (List.lt_trans e hlt)), List.take_succ_cons, List.drop_succ_cons, List.cons_append, put_insert h2 hf (fun i x (hi : i < k) hx => hlo (i + 1) x (Nat.succ_lt_succ hi) (by simpa using hx)) (fun x hx => hk x (by simpa using hx))]
theorem del_at {l : St} {j : Nat} {p : Bs} {m : PN} (hr : Rising l) (h : l[j]? = some (p, m)) : delSt l p = l.take j ++ l.drop (j + 1) := by
  have hj := (List.getElem?_eq_some_iff.1 h).1
  have hsub : (l.take j ++ l.drop (j + 1)).Sublist l := by
    conv => rhs; rw [← List.take_append_drop j l]
    exact List.Sublist.append (List.Sublist.refl _) (List.drop_sublist_drop_left l (by omega))
  have hd : Rising (delSt l p) := hr.filter _
  refine st_ext hd (hr.sublist hsub) fun x => ?_
  rw [find_del]
  by_cases e : x = p
  · subst e
    rw [if_pos rfl]
    refine (find_none.2 fun y hy e => ?_).symm
    rcases List.mem_append.1 hy with hy | hy
    · obtain ⟨i, hi⟩ := List.getElem?_of_mem hy
      have hil := (List.getElem?_eq_some_iff.1 hi).1
      rw [List.length_take] at hil
      rw [List.getElem?_take_of_lt (by omega)] at hi
      have := rising_lt hr (show i < j by omega) hi h
      rw [e] at this; exact List.lt_irrefl _ this
    · obtain ⟨i, hi⟩ := List.getElem?_of_mem hy
      rw [List.getElem?_drop] at hi
      have := rising_lt hr (show j < j + 1 + i by omega) h hi
      rw [e] at this; exact List.lt_irrefl _ this
  · rw [if_neg e]
    cases hf : find l x with
    | none => exact (find_none.2 fun y hy => find_none.1 hf y (hsub.subset hy)).symm
    | some n =>
      obtain ⟨i, hi⟩ := List.getElem?_of_mem (find_mem hf)
      refine (find_of_mem (hr.sublist hsub) (List.mem_append.2 ?_)).symm
      rcases Nat.lt_trichotomy i j with h1 | h1 | h1
      · left
        exact List.mem_of_getElem? (i := i) (by rw [List.getElem?_take_of_lt h1]; exact hi)
      · subst h1; rw [hi] at h; injection h with h; injection h with h; exact absurd h e
      · right
        exact List.mem_of_getElem? (i := i - (j + 1)) (by rw [List.getElem?_drop, show j + 1 + (i - (j + 1)) = i by omega]; exact hi)
/-- Renaming, in the one order and in the other. -/
theorem rename_eq {l : St} {p q : Bs} {n : PN} (hr : Rising l) (hne : p ≠ q) : putSt (delSt (delSt l p) q) q n = delSt (putSt l q n) p := by
  refine st_ext (rising_put q n (rising_del q (rising_del p hr))) (rising_del p (rising_put q n hr)) fun x => ?_
  simp only [find_put, find_del]
  by_cases h1 : x = q
  · subst h1; simp [Ne.symm hne]
  · simp [h1]
theorem rename_eq' {l : St} {p q : Bs} {n : PN} (hr : Rising l) (hne : p ≠ q) (hf : find l q = none) : putSt (delSt l p) q n = delSt (putSt l q n) p := by
  rw [← rename_eq hr hne, del_none (show find (delSt l p) q = none by rw [find_del, if_neg (Ne.symm hne)]; exact hf)]
/-- What the reference's look answers: a place, and an error. -/
def RLook (l : St) (q : Bs) (k e : Int) : Prop := match lookQ l q with
  | .err c => k = -1 ∧ e = c ∧ 0 < c
  | .root => k = -2 ∧ e = 0
  | .none => k = -1 ∧ e = 0
  | .node n => e = 0 ∧ ∃ j : Nat, k = j ∧ l[j]? = some (q, n)
end Go.Proofs.YtejofgdglpmlkaaGreatDoor
