/-
  put: a header, and data. Conditions: texts of at most 2^20 bytes, data of at most 2^40.
-/
import Derived.Test.YtnjagoglabllaaaGreatDoorArItoa
namespace Go.Proofs.YtnjagoglabllaaaGreatDoor
open Go.RowKit

theorem infoAny : (Tryz.prog.info? 20).map (fun i => (i.zero, i.size, i.bytes)) = some (some .nilIface, 1, 16) := by kernel_rfl
def putL (name date owner mode : Bs) (n : Nat) : List (Bs × Nat) := [(name, 16), (date, 12), (owner, 6), (owner, 6), (mode, 8), (Go.Lib.decDigits n, 10)]
theorem putL_head (name date owner mode : Bs) (n : Nat) : padL (putL name date owner mode n) ++ [96, 10] = headB name date owner mode n := by simp [putL, padL, headB]
theorem padL_pos (name date owner mode : Bs) (n : Nat) : 0 < (padL (putL name date owner mode n)).length := by
  have : ∀ s : Bs, 16 ≤ (padB s 16).length := by intro s; unfold padB; rw [List.length_append, List.length_replicate]; omega
  have := this name
  unfold putL
  rw [padL, List.length_append]
  omega
theorem putL_small {name date owner mode : Bs} {n : Nat} (h1 : name.length ≤ 1048576) (h2 : date.length ≤ 1048576) (h3 : owner.length ≤ 1048576) (h4 : mode.length ≤ 1048576) (h5 : n ≤ 1099511627776) : ∀ x ∈ putL name date owner mode n, x.1.length ≤ 1048576 ∧ x.2 ≤ 1000 := by
  intro x hx
  have h6 : (Go.Lib.decDigits n).length ≤ 13 := dec_len (by have : (10 : Nat) ^ 13 = 10000000000000 := by decide
                                                            omega) (by decide)
  simp only [putL, List.mem_cons, List.not_mem_nil, or_false] at hx
  rcases hx with rfl | rfl | rfl | rfl | rfl | rfl <;> dsimp only <;> omega
theorem anys_new (w1 : World) (name date owner mode : Bs) (n : Nat) {q : Bs} (hq : q = Go.Lib.decDigits n) :
    AnysAt (w1.alloc (Obj.cells #[.iface 9 (.string (mk name)), .iface 3 (.int .i64 16), .iface 9 (.string (mk date)), .iface 3 (.int .i64 12), .iface 9 (.string (mk owner)), .iface 3 (.int .i64 6), .iface 9 (.string (mk owner)), .iface 3 (.int .i64 6), .iface 9 (.string (mk mode)), .iface 3 (.int .i64 8), .iface 9 (.string (mk q)), .iface 3 (.int .i64 10)] 20))
      (.slice (some ⟨w1.heap.size, 0, none⟩) 12 12) (putL name date owner mode n) := by
  subst hq
  refine ⟨w1.heap.size, 12, rfl, by simp, fun k x hk => ?_⟩
  match k, hk with
  | 0, hk => simp [putL] at hk; subst hk; exact ⟨by rw [World.cell?_alloc_at _ _ _ _ rfl]; rfl, by rw [World.cell?_alloc_at _ _ _ _ rfl]; rfl⟩
  | 1, hk => simp [putL] at hk; subst hk; exact ⟨by rw [World.cell?_alloc_at _ _ _ _ rfl]; rfl, by rw [World.cell?_alloc_at _ _ _ _ rfl]; rfl⟩
  | 2, hk => simp [putL] at hk; subst hk; exact ⟨by rw [World.cell?_alloc_at _ _ _ _ rfl]; rfl, by rw [World.cell?_alloc_at _ _ _ _ rfl]; rfl⟩
  | 3, hk => simp [putL] at hk; subst hk; exact ⟨by rw [World.cell?_alloc_at _ _ _ _ rfl]; rfl, by rw [World.cell?_alloc_at _ _ _ _ rfl]; rfl⟩
  | 4, hk => simp [putL] at hk; subst hk; exact ⟨by rw [World.cell?_alloc_at _ _ _ _ rfl]; rfl, by rw [World.cell?_alloc_at _ _ _ _ rfl]; rfl⟩
  | 5, hk => simp [putL] at hk; subst hk; exact ⟨by rw [World.cell?_alloc_at _ _ _ _ rfl]; rfl, by rw [World.cell?_alloc_at _ _ _ _ rfl]; rfl⟩
  | k + 6, hk => simp [putL] at hk
/-- A row that the call owns, behind what touches nothing. -/
theorem own_below {B : Nat} {w w' : World} {v : Value} {n : Nat} {xs : List Value} (h : w.ownsRow B 5 1 v n xs) (hb : Below w.heap.size w w') : w'.ownsRow B 5 1 v n xs := by
  obtain ⟨hl, h⟩ := h
  refine ⟨hl, ?_⟩
  rcases h with h | ⟨g, cap, cur, e, h1, h2, h3⟩
  · exact Or.inl h
  · exact Or.inr ⟨g, cap, cur, e, h1, (hb.block g (heap_lt h2)).trans h2, h3⟩
theorem byte_new (w : World) (u : UInt8) : BytesAt (w.alloc (.cells #[.int .u8 u.toNat] 5)) (.slice (some ⟨w.heap.size, 0, none⟩) 1 1) [u] (fun j => j = w.heap.size) := by
  refine ⟨_, 1, rfl, Nat.le_refl _, by decide, (fun e => by cases e), fun _ => ⟨w.heap.size, 0, rfl, rfl, by simp, fun k y hk => ?_⟩⟩
  match k, hk with
  | 0, hk =>
    simp at hk; subst hk
    exact one_new w _ _
/-- An append to one's own row touches nothing below. -/
theorem own_grown {B : Nat} {w w' : World} {v : Value} {n : Nat} {xs : List Value} (h : w.ownsRow B 5 1 v n xs) (hg : w.grownBy w' v.ownBlock) (hB : B ≤ w.heap.size) : Below B w w' := by
  refine ⟨hg.os, hg.tape, hg.output, hg.size, fun j hj => hg.block j (by omega) (fun e => ?_)⟩
  rcases h.2 with ⟨e1, -⟩ | ⟨g, _, _, e1, hb, _⟩
  · rw [e1] at e; cases e
  · rw [e1] at e; injection e with e; subst e; exact Nat.not_lt.2 hb hj
/-- Three appends to one's own row touch nothing below. -/
theorem put_grown {B : Nat} {w w3 w4 w5 w6 : World} {v : Value} {g4 n4 c4 g5 n5 c5 : Nat} (hb : Below w.heap.size w w3) (k4 : w3.grownBy w4 v.ownBlock) (k5 : w4.grownBy w5 (Value.slice (some ⟨g4, 0, none⟩) n4 c4).ownBlock) (k6 : w5.grownBy w6 (Value.slice (some ⟨g5, 0, none⟩) n5 c5).ownBlock)
    (hv : ∀ k, v.ownBlock = some k → B ≤ k) (h4 : v.ownBlock = some g4 ∨ g4 = w3.heap.size) (h5 : (Value.slice (some ⟨g4, 0, none⟩) n4 c4).ownBlock = some g5 ∨ g5 = w4.heap.size) (hB : B ≤ w.heap.size) : Below B w w6 ∧ B ≤ g5 := by
  have s3 := hb.size
  have s4 := k4.size
  have s5 := k5.size
  have s6 := k6.size
  have q4 : B ≤ g4 := by
    rcases h4 with h | h
    · exact hv _ h
    · omega
  have q5 : B ≤ g5 := by
    rcases h5 with h | h
    · injection h with h; subst h; exact q4
    · omega
  refine ⟨(hb.mono hB).trans ⟨k6.os.trans (k5.os.trans k4.os), k6.tape.trans (k5.tape.trans k4.tape), k6.output.trans (k5.output.trans k4.output), by omega, fun j hj => ?_⟩, q5⟩
  exact (k6.block j (by omega) (by intro e; injection e with e; subst e; exact Nat.not_lt.2 q5 hj)).trans ((k5.block j (by omega) (by intro e; injection e with e; subst e; exact Nat.not_lt.2 q4 hj)).trans (k4.block j (by omega) (fun e => by have := hv j e.symm; omega)))
theorem _root_.Go.World.grownBy.weak {w w1 : World} {r : Option Nat} (h : w.grownBy w1 none) : w.grownBy w1 r := ⟨h.os, h.tape, h.output, h.size, fun k hk _ => h.block k hk (by simp)⟩
theorem _root_.Go.World.grownBy.more {w w1 w2 : World} {r r2 : Option Nat} (h : w.grownBy w1 r) (h2 : w1.grownBy w2 r2) (hr : ∀ g, r2 = some g → r = some g ∨ w.heap.size ≤ g) : w.grownBy w2 r :=
  ⟨h2.os.trans h.os, h2.tape.trans h.tape, h2.output.trans h.output, Nat.le_trans h.size h2.size, fun k hk hne => (h2.block k (Nat.lt_of_lt_of_le hk h.size) (fun e => by
    rcases hr k e.symm with h' | h'
    · exact hne h'.symm
    · exact Nat.not_le.2 hk h')).trans (h.block k hk hne)⟩
theorem put_touch {w w3 w4 w5 w6 : World} {v : Value} {g4 n4 c4 g5 n5 c5 : Nat} (hb : Below w.heap.size w w3) (k4 : w3.grownBy w4 v.ownBlock) (k5 : w4.grownBy w5 (Value.slice (some ⟨g4, 0, none⟩) n4 c4).ownBlock) (k6 : w5.grownBy w6 (Value.slice (some ⟨g5, 0, none⟩) n5 c5).ownBlock)
    (h4 : v.ownBlock = some g4 ∨ g4 = w3.heap.size) (h5 : (Value.slice (some ⟨g4, 0, none⟩) n4 c4).ownBlock = some g5 ∨ g5 = w4.heap.size) : w.grownBy w6 v.ownBlock := by
  have z3 := hb.size
  have z4 := k4.size
  have q4 : v.ownBlock = some g4 ∨ w.heap.size ≤ g4 := h4.imp id (fun h => by omega)
  have q5 : v.ownBlock = some g5 ∨ w.heap.size ≤ g5 := by
    rcases h5 with h | h
    · injection h with h; subst h; exact q4
    · right; omega
  refine ((((below_grown hb).weak.more k4 (fun g h => Or.inl h)).more k5 (fun g h => ?_)).more k6 (fun g h => ?_))
  · injection h with h; subst h; exact q4
  · injection h with h; subst h; exact q5
theorem RowX.below {B : Nat} {w w' : World} {v : Value} {xs : Bs} (h : RowX w B v xs) (hb : Below w.heap.size w w') : RowX w' B v xs := by
  refine ⟨h.1, ?_⟩
  rcases h.2 with h | ⟨g, e, h1, h2⟩
  · exact Or.inl (own_below h hb)
  · exact Or.inr ⟨g, e, h1, (hb.block g (heap_lt h2)).trans h2⟩
set_option maxRecDepth 100000 in
set_option maxHeartbeats 4000000 in
theorem put_calls {B : Nat} {w : World} {v : Value} {xs : Bs} (hT : Tab B w) (hB : B ≤ w.heap.size) (hown : RowX w B v xs) {name date owner mode data : Bs} {dv : Value} {S : Nat → Prop} (hd : BytesAt w dv data S)
    (hS : ∀ k, S k → k < w.heap.size ∧ v.ownBlock ≠ some k) (h1 : name.length ≤ 1048576) (h2 : date.length ≤ 1048576) (h3 : owner.length ≤ 1048576) (h4 : mode.length ≤ 1048576) (h5 : data.length ≤ 1099511627776) (h6 : xs.length ≤ 1099511627776) :
    Calls Tryz.prog 26 #[v, .string (mk name), .string (mk date), .string (mk owner), .string (mk mode), dv] w fun e w' => ∃ a' n' c', e = .returned (.slice a' n' c') ∧
      w'.ownsRow B 5 1 (.slice a' n' c') (xs ++ (headB name date owner mode data.length ++ evenB data)).length (ucells (xs ++ (headB name date owner mode data.length ++ evenB data))) ∧ Below B w w' ∧ w.grownBy w' v.ownBlock := by
  obtain ⟨ie, hie, hz0, hz1, hz2⟩ := info_parts infoAny
  obtain ⟨da, dc, hdv⟩ := hd.form
  subst hdv
  have kd := Lib.hid hd
  have kS := Lib.hid hS
  have kown := Lib.hid hown
  have kT := Lib.hid hT
  have hI := Lib.hid (itoa_calls hT (data.length : Int) (by omega) (by omega))
  have hdec := Lib.hid (itoa_nat data.length)
  clear hd hS hown hT
  go_enter Tryz.func26, Tryz.ntmps26
  go_wp2_with (go_at_call 27; refine hI.out.mono ?_; rintro e w1 ⟨rfl, hb⟩; have kb1 := Lib.hid hb; clear hb)
  have kA := Lib.hid (anys_new w1 name date owner mode data.length hdec.out)
  have kb2 := Lib.hid (below_al (o := Obj.cells #[.iface 9 (.string (mk name)), .iface 3 (.int .i64 16), .iface 9 (.string (mk date)), .iface 3 (.int .i64 12), .iface 9 (.string (mk owner)), .iface 3 (.int .i64 6), .iface 9 (.string (mk owner)), .iface 3 (.int .i64 6), .iface 9 (.string (mk mode)), .iface 3 (.int .i64 8), .iface 9 (.string (mk (Go.Lib.itoa (data.length : Int)))), .iface 3 (.int .i64 10)] 20) kb1.out)
  generalize (w1.alloc (Obj.cells #[.iface 9 (.string (mk name)), .iface 3 (.int .i64 16), .iface 9 (.string (mk date)), .iface 3 (.int .i64 12), .iface 9 (.string (mk owner)), .iface 3 (.int .i64 6), .iface 9 (.string (mk owner)), .iface 3 (.int .i64 6), .iface 9 (.string (mk mode)), .iface 3 (.int .i64 8), .iface 9 (.string (mk (Go.Lib.itoa (data.length : Int)))), .iface 3 (.int .i64 10)] 20)) = w2 at *
  have hP := Lib.hid (padded_calls kA.out (putL_small h1 h2 h3 h4 h5) (by show 6 ≤ 100; omega))
  have hpl := padL_len _ (putL_small h1 h2 h3 h4 h5) (by show 6 ≤ 100; omega)
  refine hP.out.mono ?_
  rintro e w3 ⟨rfl, hb⟩
  have kb3 := Lib.hid (kb2.out.trans (hb.mono kb2.out.size))
  have hB3 := Nat.le_trans hB kb3.out.size
  have hH0 := padL_pos name date owner mode data.length
  generalize hH : padL (putL name date owner mode data.length) = H at *
  have kH := Lib.hid hH
  clear hb hH
  go_upto_region 2 with (at_builtin; refine wpList_append_str _ rfl _ _ rfl B v xs rfl (kown.out.below kb3.out) H rfl hH0 (by omega) hB3 ?_; intro g4 n4 c4 w4 hn4 ho4 hg4 ha4; have ko4 := Lib.hid ho4; have kg4 := Lib.hid hg4; have ka4 := Lib.hid ha4; clear ho4 hg4 ha4)
  have hB4 : B ≤ w4.heap.size := Nat.le_trans hB3 kg4.out.size
  have hl4 : (xs ++ H).length ≤ 1099622000000 := by rw [List.length_append]; omega
  have hp4 : 0 < (xs ++ H).length := by rw [List.length_append]; omega
  obtain ⟨X4, hX4⟩ : ∃ X4, X4 = xs ++ H := ⟨_, rfl⟩
  rw [← hX4] at ko4 hn4 hl4 hp4
  go_upto_region 3 with (at_builtin; refine wpList_append_str _ rfl _ _ rfl B (.slice (some ⟨g4, 0, none⟩) n4 c4) X4 rfl ⟨hp4, Or.inl ko4.out⟩ [96, 10] rfl (by decide) (by show X4.length + 2 ≤ _; omega) hB4 ?_; intro g5 n5 c5 w5 hn5 ho5 hg5 ha5; have ko5 := Lib.hid ho5; have kg5 := Lib.hid hg5; have ka5 := Lib.hid ha5; clear ho5 hg5 ha5)
  have hB5 : B ≤ w5.heap.size := Nat.le_trans hB4 kg5.out.size
  have hl5 : (X4 ++ [96, 10]).length ≤ 1099622000100 := by rw [List.length_append]; show _ + 2 ≤ _; omega
  have hX5 : X4 ++ [96, 10] = xs ++ headB name date owner mode data.length := by rw [hX4, List.append_assoc, ← kH.out, putL_head]
  rw [hX5] at ko5 hn5 hl5
  have kd5 := Lib.hid (kd.out.of_heap (w' := w5) (S' := S) (fun k hk => by
    obtain ⟨q1, q2⟩ := kS.out k hk
    have s3 := kb3.out.size
    have s4 := kg4.out.size
    refine (kg5.out.block k (by omega) ?_).trans ((kg4.out.block k (by omega) (fun e => q2 e.symm)).trans (kb3.out.block k q1))
    intro e
    injection e with e
    subst e
    rcases ka4.out with h | h
    · exact q2 h
    · omega) (fun _ h => h))
  generalize hY : xs ++ headB name date owner mode data.length = Y at *
  have kY := Lib.hid hY
  clear hY hX5 hX4 hpl hp4 hl4
  go_upto_region 4 with (at_builtin; refine wpList_append_byt _ rfl _ _ rfl B (.slice (some ⟨g5, 0, none⟩) n5 c5) Y rfl ko5.out _ data S rfl kd5.out (by omega) hB5 ?_; intro a6 n6 c6 w6 hn6 ho6 hg6 ha6; have ko6 := Lib.hid ho6; have kg6 := Lib.hid hg6; have ka6 := Lib.hid ha6; clear ho6 hg6 ha6)
  have hB6 : B ≤ w6.heap.size := Nat.le_trans hB5 kg6.out.size
  have hl6 : (Y ++ data).length ≤ 2199233000100 := by rw [List.length_append]; omega
  obtain ⟨X6, hX6⟩ : ∃ X6, X6 = Y ++ data := ⟨_, rfl⟩
  rw [← hX6] at ko6 hn6 hl6
  have hvB : ∀ k, v.ownBlock = some k → B ≤ k := fun k hk => (kown.out.own hk).1
  have hg := Lib.hid (put_grown kb3.out kg4.out kg5.out kg6.out hvB ka4.out ka5.out hB)
  have hG6 := Lib.hid (put_touch kb3.out kg4.out kg5.out kg6.out ka4.out ka5.out)
  have ha := and_one data.length (by omega)
  have kh6 := Lib.hid hX6
  clear hX6
  by_cases hodd : data.length % 2 = 1
  · rw [hodd] at ha
    have kev := Lib.hid (show evenB data = data ++ [10] by unfold evenB; rw [if_pos hodd])
    have kb7 := Lib.hid (below_al (o := .cells #[.int .u8 10] 5) (Below.refl w6.heap.size w6))
    have ko7 := Lib.hid (own_below ko6.out kb7.out)
    have kt := Lib.hid (byte_new w6 10)
    have hB7 : B ≤ (w6.alloc (.cells #[.int .u8 10] 5)).heap.size := Nat.le_trans hB6 kb7.out.size
    go_wp2_with (at_builtin; refine wpList_append_byt _ rfl _ _ rfl B (.slice a6 n6 c6) X6 rfl ko7.out _ [10] _ rfl kt.out (by show X6.length + 1 ≤ _; omega) hB7 ?_; intro a8 n8 c8 w8 hn8 ho8 hg8 _; have ko8 := Lib.hid ho8; have kg8 := Lib.hid hg8; clear ho8 hg8)
    go_ret
    refine ⟨_, _, _, rfl, ?_, ?_⟩
    · rw [kev.out, ← List.append_assoc, kY.out, ← List.append_assoc, ← kh6.out]
      exact ko8.out
    · refine ⟨hg.out.1.trans ((kb7.out.mono hB6).trans (own_grown ko7.out kg8.out hB7)), hG6.out.more ((below_grown kb7.out).weak.more kg8.out (fun g hg' => Or.inl hg')) (fun g hg' => ?_)⟩
      have z5 := kg5.out.size
      have z4 := kg4.out.size
      have z3 := kb3.out.size
      rcases ka6.out g hg' with h | h
      · injection h with h
        subst h
        rcases ka5.out with h | h
        · injection h with h
          subst h
          rcases ka4.out with h | h
          · exact Or.inl h
          · right; show w.heap.size ≤ g4; omega
        · right; show w.heap.size ≤ g5; omega
      · right; omega
  · have hev : data.length % 2 = 0 := by omega
    have kev := Lib.hid (show evenB data = data by unfold evenB; rw [if_neg hodd])
    rw [hev] at ha
    go_wp2_with fail
    go_ret
    refine ⟨_, _, _, rfl, ?_, hg.out.1, hG6.out⟩
    rw [kev.out, ← List.append_assoc, kY.out, ← kh6.out]
    exact ko6.out
end Go.Proofs.YtnjagoglabllaaaGreatDoor
