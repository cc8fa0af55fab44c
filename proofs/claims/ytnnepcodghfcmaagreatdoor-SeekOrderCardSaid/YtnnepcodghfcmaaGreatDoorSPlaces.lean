/-
  The places where a name may be: the iterator. Conditions: texts of at most 2^31 bytes; MaxLen's cell holds a number.
-/
import Derived.Test.YtnnepcodghfcmaaGreatDoorSWords
import Derived.Test.YtnnepcodghfcmaaGreatDoorSPat
import Derived.Test.YtnnepcodghfcmaaGreatDoorSSplit
namespace Go.Proofs.YtnnepcodghfcmaaGreatDoor
open Go.RowKit Go.Shelf

attribute [local go_sem] Oper.semAt_some

/-- Cells that were there stay. -/
def KeepsCells (W W' : World) : Prop := ∀ (a : Addr) (v : Value), W.cell? a = some v → W'.cell? a = some v
theorem KeepsCells.trans {A B C : World} (h : KeepsCells A B) (k : KeepsCells B C) : KeepsCells A C := fun a v e => k a v (h a v e)
theorem KeepsCells.refl (A : World) : KeepsCells A A := fun _ _ e => e
theorem keeps_below {W W' : World} (h : Below W.heap.size W W') : KeepsCells W W' := fun a v e => (h.cell (p := a) (World.block_lt_of_cell? W a e)).trans e
theorem keeps_put {w : World} (W : World) (l : Nat) (o o' : Obj) (_ : w.heap.size ≤ l) (h : W.heap[l]? = some o) (hc : o.isCells = false) (_ : o.isWalk = false) : KeepsCells W (W.putObj l o') := fun a v e => by
  by_cases ha : a.block = l
  · exfalso
    unfold World.cell? at e
    rw [ha, h] at e
    cases o <;> first | (cases hc; done) | simp at e
  · exact (World.cell?_of_block (World.putObj_heap_other ha)).trans e
theorem below_grow {w w' : World} (h : Below w.heap.size w w') : w.grownBy w' none := ⟨h.os, h.tape, h.output, h.size, fun k hk _ => h.block k hk⟩
/-- Pairs of texts in memory. -/
def PairsAt (w : World) (v : Value) (l : List (ByteArray × ByteArray)) : Prop :=
  ∃ a c, v = .slice a l.length c ∧ (0 < l.length → ∃ b off, a = some ⟨b, off, none⟩ ∧ ∀ (k : Nat) (x : ByteArray × ByteArray), l[k]? = some x → w.cell? ⟨b, off + k * 2, none⟩ = some (.string x.1) ∧ w.cell? ⟨b, off + k * 2 + 1, none⟩ = some (.string x.2))
theorem PairsAt.keeps {w w' : World} {v : Value} {l : List (ByteArray × ByteArray)} (h : PairsAt w v l) (hk : KeepsCells w w') : PairsAt w' v l := by
  obtain ⟨a, c, h1, h2⟩ := h
  refine ⟨a, c, h1, fun h0 => ?_⟩
  obtain ⟨b, off, h3, h4⟩ := h2 h0
  exact ⟨b, off, h3, fun k x hx => ⟨hk _ _ (h4 k x hx).1, hk _ _ (h4 k x hx).2⟩⟩
/-- Texts in memory. -/
def TextsAt (w : World) (v : Value) (l : List ByteArray) : Prop :=
  ∃ a c, v = .slice a l.length c ∧ (0 < l.length → ∃ b off, a = some ⟨b, off, none⟩ ∧ ∀ (k : Nat) (x : ByteArray), l[k]? = some x → w.cell? ⟨b, off + k, none⟩ = some (.string x))
theorem TextsAt.keeps {w w' : World} {v : Value} {l : List ByteArray} (h : TextsAt w v l) (hk : KeepsCells w w') : TextsAt w' v l := by
  obtain ⟨a, c, h1, h2⟩ := h
  refine ⟨a, c, h1, fun h0 => ?_⟩
  obtain ⟨b, off, h3, h4⟩ := h2 h0
  exact ⟨b, off, h3, fun k x hx => hk _ _ (h4 k x hx)⟩
theorem texts_own {w : World} {base : Nat} {v : Value} {l : List ByteArray} (h : w.ownsRow base 9 1 v l.length (scells l)) : TextsAt w v l := by
  obtain ⟨a, n, c, rfl, rfl, _, _, h1, _⟩ := strsAt_own h
  refine ⟨a, c, rfl, fun h0 => ?_⟩
  obtain ⟨b, off, h2, _, h3⟩ := h1 h0
  exact ⟨b, off, h2, h3⟩
def joinB (a b : ByteArray) : ByteArray := mk (clean (a.data.toList ++ 47 :: b.data.toList))
def pathWords (s : ByteArray) (pl : List (ByteArray × ByteArray)) : List ByteArray := pl.flatMap fun x => if (matchS x.1 s).isSome then (wordsS x.2).map (joinB · s) else []
def coloned (dirs : ByteArray) : ByteArray := mk (Lib.replaceAll dirs.data.toList [58] [32])
def dirWords (s dirs : ByteArray) : List ByteArray := (wordsS (coloned dirs)).map (joinB · s)
/-- The places where a name may be. -/
def placesP (pl : List (ByteArray × ByteArray)) (dirs s : ByteArray) : List ByteArray := s :: if (splitOf s).isSome then [] else pathWords s pl ++ dirWords s dirs
theorem pathWords_snoc {s : ByteArray} {pl : List (ByteArray × ByteArray)} {k : Nat} {x : ByteArray × ByteArray} (h : pl[k]? = some x) : pathWords s (pl.take (k + 1)) = pathWords s (pl.take k) ++ if (matchS x.1 s).isSome then (wordsS x.2).map (joinB · s) else [] := by
  rw [take_more h]; simp [pathWords]
theorem words_prefix {ws : List ByteArray} {k : Nat} {y s : ByteArray} (h : ws[k]? = some y) : (ws.take k).map (joinB · s) ++ [joinB y s] <+: ws.map (joinB · s) := by
  have e : (ws.take k).map (joinB · s) ++ [joinB y s] = (ws.take (k + 1)).map (joinB · s) := by rw [take_more h, List.map_append]; rfl
  rw [e]
  exact (List.take_prefix _ _).map _
theorem path_prefix {s x1 x2 y : ByteArray} {pl : List (ByteArray × ByteArray)} {i k : Nat} {st : ByteArray} (hx : pl[i]? = some (x1, x2)) (hm : matchS x1 s = some st) (hk : (wordsS x2)[k]? = some y) :
    pathWords s (pl.take i) ++ ((wordsS x2).take k).map (joinB · s) ++ [joinB y s] <+: pathWords s pl := by
  have h1 : pathWords s pl = pathWords s (pl.take (i + 1)) ++ pathWords s (pl.drop (i + 1)) := by
    unfold pathWords
    rw [← List.flatMap_append, List.take_append_drop]
  rw [h1, pathWords_snoc hx, hm]
  obtain ⟨r, hr⟩ := words_prefix (s := s) hk
  refine ⟨r ++ pathWords s (pl.drop (i + 1)), ?_⟩
  simp only [Option.isSome_some, if_true]
  rw [← hr]
  simp [List.append_assoc]
theorem wrun_size : ∀ (s cur : Bs), ∀ x ∈ wrun s cur, x.length ≤ s.length + cur.length
  | [], cur, x, h => by
    rw [wrun] at h
    split at h
    · cases h
    · rw [List.mem_singleton] at h; subst h; simp
  | c :: r, cur, x, h => by
    rw [wrun] at h
    split at h
    · split at h
      · have := wrun_size r [] x h; simp at this; simp; omega
      · rcases List.mem_cons.1 h with rfl | h
        · simp
        · have := wrun_size r [] x h; simp at this; simp; omega
    · have := wrun_size r (cur ++ [c]) x h; simp at this; simp; omega
theorem word_size {s x : ByteArray} (h : x ∈ wordsS s) : x.size ≤ s.size := by
  obtain ⟨y, hy, rfl⟩ := List.mem_map.1 h
  have := wrun_size _ _ y hy
  rw [mk_size, Go.Lib.size_eq]
  simpa using this
/-- What the iterator has captured, and what it reads. -/
structure PlaceC (B1 B2 B3 : Nat) (s dirs : ByteArray) (pv : Value) (pl : List (ByteArray × ByteArray)) (mx : Int) (W : World) : Prop where make ::
  name : W.cell? ⟨B1, 0, none⟩ = some (.string s)
  base : W.cell? ⟨B2, 2, none⟩ = some pv
  dirs : W.cell? ⟨B3, 0, none⟩ = some (.string dirs)
  pairs : PairsAt W pv pl
  most : W.cell? ⟨1, 0, none⟩ = some (.int .i64 mx)
theorem PlaceC.keeps {B1 B2 B3 : Nat} {s dirs : ByteArray} {pv : Value} {pl : List (ByteArray × ByteArray)} {mx : Int} {W W' : World} (h : PlaceC B1 B2 B3 s dirs pv pl mx W) (hk : KeepsCells W W') : PlaceC B1 B2 B3 s dirs pv pl mx W' :=
  ⟨hk _ _ h.name, hk _ _ h.base, hk _ _ h.dirs, h.pairs.keeps hk, hk _ _ h.most⟩
/-- The round of a place. -/
def Round (m l : Nat) (J Jx : List ByteArray → World → Prop) (all : List ByteArray) : Prop :=
  ∀ pre x W, J pre W → pre ++ [x] <+: all → YieldAt Fence.wide (m - 1) Tryz.prog l #[.string x] W fun e W' =>
      (e = .returned (.bool true) ∧ J (pre ++ [x]) W' ∧ KeepsCells W W') ∨ (e = .returned (.bool false) ∧ Jx (pre ++ [x]) W')
set_option maxRecDepth 100000 in
set_option maxHeartbeats 8000000 in
theorem places1_in (l B1 B2 B3 : Nat) (s dirs : ByteArray) (pv : Value) (pl : List (ByteArray × ByteArray)) (mx : Int) (hs : s.size ≤ 2147483647) (hd : dirs.size ≤ 2147483647) (hc1 : dirs.size + Lib.countB dirs ⟨#[58]⟩ * 1 ≤ 140737488355328) (hc2 : (coloned dirs).size ≤ 2147483647)
    (hpl : ∀ x ∈ pl, x.1.size ≤ 2147483647 ∧ x.2.size ≤ 2147483647) (hpn : pl.length ≤ 1099511627776) (m : Nat) (hm : 2 ≤ m) (J Jx : List ByteArray → World → Prop) (hY : Round m l J Jx (placesP pl dirs s))
    (W : World) (hJ : AbidesFrom W.heap.size J) (hC : PlaceC B1 B2 B3 s dirs pv pl mx W) (h0 : J [] W) :
    CallsIn Fence.wide m Tryz.prog 26 #[.func (.yield l) #[] #[], .pointer (some ⟨B1, 0, none⟩), .pointer (some ⟨B2, 0, none⟩), .pointer (some ⟨B3, 0, none⟩)] W fun e W' => (∃ v, e = .returned v) ∧
      ((∃ ys, ys = placesP pl dirs s ∧ J ys W') ∨ (∃ pre, pre <+: placesP pl dirs s ∧ Jx pre W')) := by
  have hm1 : 1 ≤ m := by omega
  have kJ := Lib.hid (fun pre (A B : World) (h : J pre A) (hb : Below A.heap.size A B) => hJ pre A B none h (below_grow hb) (fun r e => by cases e))
  have kY := Lib.hid hY
  have kS := Lib.hid (fun W => split_calls s W (by omega))
  obtain ⟨f1, t1, as1, b1, hy1, hR1⟩ := hY [] s W h0 ⟨_, rfl⟩
  have cn := hC.name
  obtain ⟨pa, pc, hpv, -⟩ := hC.pairs
  subst hpv
  have kC := Lib.hid hC
  clear hY hJ hC
  refine callsIn_of_wp Tryz.func26 rfl trivial ?_ rfl
  simp only [Tryz.ntmps26, List.size_toArray, List.length_cons, List.length_nil, Nat.reduceAdd, Nat.reduceSub, Array.replicate_succ, Array.replicate_zero, List.push_toArray, List.append_toArray, List.nil_append, List.cons_append]
  gi_wp2
  refine hR1.mono ?_
  rintro e W1 (⟨rfl, hJ1, hk1⟩ | ⟨rfl, hJx1⟩)
  · have kC1 := Lib.hid (kC.out.keeps hk1)
    obtain ⟨cn1, cb1, cd1, -, -⟩ := kC.out.keeps hk1
    have kJ1 := Lib.hid hJ1
    clear hJ1 hk1 hy1 hR1 cn kC
    cases hsp : splitOf s with
    | some ab =>
      have hv : splitVal s = .tuple #[.string ab.1, .string ab.2, .bool true] := by unfold splitVal; rw [hsp]
      rw [hv] at kS
      have hpp := Lib.hid (show placesP pl dirs s = [s] by unfold placesP; rw [hsp]; rfl)
      gi_wp2_with (refine ⟨trivial, ?_⟩; gi_at_call 11; refine (callsIn_wide.2 (kS.out _)).mono ?_; rintro e w2 ⟨rfl, hb⟩; have kb2 := Lib.hid hb; clear hb)
      refine bodyPost_ret (results_none rfl _ _ _) rfl ?_
      exact ⟨⟨_, rfl⟩, .inl ⟨_, rfl, by rw [hpp.out]; exact kJ.out _ _ _ kJ1.out kb2.out⟩⟩
    | none =>
      have hv : splitVal s = .tuple #[.string ⟨#[]⟩, .string ⟨#[]⟩, .bool false] := by unfold splitVal; rw [hsp]
      rw [hv] at kS
      have hpp := Lib.hid (show placesP pl dirs s = s :: (pathWords s pl ++ dirWords s dirs) by unfold placesP; rw [hsp]; rfl)
      have kMt := Lib.hid (fun (x : ByteArray × ByteArray) (hx : x ∈ pl) (W : World) => match_calls x.1 s W (by have := (hpl x hx).1; omega) (by omega))
      have kTs := Lib.hid (fun (x : ByteArray × ByteArray) (hx : x ∈ pl) (W : World) => tsplit_calls x.2 (by have := (hpl x hx).2; omega) W)
      have kJn := Lib.hid (fun (x y : ByteArray) (hx : x ∈ wordsS y) (hy : y.size ≤ 2147483647) (W : World) => show Calls Tryz.prog 29 #[.string x, .string s] W fun e w' => e = .returned (.string (joinB x s)) ∧ Below W.heap.size W w' from pjoin_calls x s W (by have := word_size hx; omega) (by omega))
      gi_wp2_with (refine ⟨trivial, ?_⟩; gi_at_call 11; refine (callsIn_wide.2 (kS.out _)).mono ?_; rintro e w2 ⟨rfl, hb⟩; have kb2 := Lib.hid hb; clear hb; have cb2 := keeps_below kb2.out _ _ cb1)
      gi_loopw [30] (fun iv wr => ∃ i : Nat, i ≤ pl.length ∧ iv = .int .i64 i ∧ Hid (J (s :: pathWords s (pl.take i)) wr) ∧ Hid (PlaceC B1 B2 B3 s dirs (.slice pa pl.length pc) pl mx wr)) (fun iv _ => pl.length - (intOf iv).toNat)
      case atStart => exact ⟨0, Nat.zero_le _, rfl, Lib.hid (kJ.out _ _ _ kJ1.out kb2.out), Lib.hid (kC1.out.keeps (keeps_below kb2.out))⟩
      case round =>
        obtain ⟨i, hi, rfl, kJr, kCr⟩ := hrel
        have crn := kCr.out.name
        have hBn := World.block_lt_of_cell? wr _ crn
        by_cases hlt : i < pl.length
        · have y0 : (i : Int) < (pl.length : Int) := by omega
          obtain ⟨x, hx⟩ : ∃ x, pl[i]? = some x := ⟨_, List.getElem?_eq_getElem hlt⟩
          have hxm := List.mem_of_getElem? hx
          obtain ⟨pa', pc', e, hcs⟩ := kCr.out.pairs
          injection e with e1 e2 e3
          subst e1 e3
          obtain ⟨pb, po, rfl, hcells⟩ := hcs (by omega)
          obtain ⟨x0, x1⟩ := hcells i x hx
          have hpbl := World.block_lt_of_cell? wr _ x0
          have kx := Lib.hid hx
          clear hcells hcs hx e2
          have ksn := Lib.hid (pathWords_snoc (s := s) kx.out)
          have kcellN := Lib.hid (fun (w3 : World) (hb : Below (wr.alloc (.cells #[.string x.1, .string x.2] 41)).heap.size (wr.alloc (.cells #[.string x.1, .string x.2] 41)) w3) => show w3.cell? ⟨wr.heap.size, 1, none⟩ = some (.string x.2) from (hb.cell (p := ⟨wr.heap.size, 1, none⟩) (by simp)).trans (by unfold World.cell?; rw [heap_alloc_new]; rfl))
          cases hmt : matchS x.1 s with
          | none =>
            have hMt := Lib.hid (kMt.out x hxm)
            rw [hmt] at hMt ksn
            gi_wp2_with (refine ⟨trivial, ?_⟩; gi_at_call 27; refine (callsIn_wide.2 (hMt.out _)).mono ?_; rintro e w3 ⟨rfl, hb⟩; have kb3 := Lib.hid ((below_al (Below.refl _ _)).trans (hb.mono (by simp))); clear hb; dsimp only [stemVal])
            go_roundw
            case rel => exact ⟨i + 1, by omega, by go_num, Lib.hid (by rw [ksn.out]; simpa using kJ.out _ _ _ kJr.out kb3.out), Lib.hid (kCr.out.keeps (keeps_below kb3.out))⟩
            case measure => simp [intOf]; omega
          | some stm =>
            have hMt := Lib.hid (kMt.out x hxm)
            rw [hmt] at hMt ksn
            have hTs := Lib.hid (kTs.out x hxm)
            have hwl := wordsS_len x.2
            have hx2 := (hpl x hxm).2
            gi_wp2_with (first
              | (refine ⟨trivial, ?_⟩; gi_at_call 27; refine (callsIn_wide.2 (hMt.out _)).mono ?_; rintro e w3 ⟨rfl, hb⟩; have c31 := kcellN.out _ hb; have kb3 := Lib.hid ((below_al (Below.refl _ _)).trans (hb.mono (by simp))); clear hb; dsimp only [stemVal])
              | (refine ⟨trivial, ?_⟩; gi_at_call 28; refine (callsIn_wide.2 (hTs.out _)).mono ?_; rintro e w4 ⟨wv, rfl, hrow, hb⟩; have kT4 := Lib.hid (texts_own hrow); have kb4 := Lib.hid (kb3.out.trans (hb.mono kb3.out.size)); clear hb hrow; obtain ⟨wa, wc, hwv, -⟩ := kT4.out; subst hwv))
            gi_loopw [47] (fun iv wr => ∃ k : Nat, k ≤ (wordsS x.2).length ∧ iv = .int .i64 k ∧ Hid (J (s :: (pathWords s (pl.take i) ++ ((wordsS x.2).take k).map (joinB · s))) wr) ∧ Hid (PlaceC B1 B2 B3 s dirs (.slice (some ⟨pb, po, none⟩) pl.length pc) pl mx wr) ∧ Hid (TextsAt wr (.slice wa (wordsS x.2).length wc) (wordsS x.2))) (fun iv _ => (wordsS x.2).length - (intOf iv).toNat)
            case atStart => exact ⟨0, Nat.zero_le _, rfl, Lib.hid (by simpa using kJ.out _ _ _ kJr.out kb4.out), Lib.hid (kCr.out.keeps (keeps_below kb4.out)), kT4⟩
            case round =>
              obtain ⟨k, hk, rfl, kJk, kCk, kTk⟩ := hrel
              have ckn := kCk.out.name
              have hBk := World.block_lt_of_cell? wr _ ckn
              by_cases hlk : k < (wordsS x.2).length
              · have y1 : (k : Int) < ((wordsS x.2).length : Int) := by omega
                obtain ⟨y, hy⟩ : ∃ y, (wordsS x.2)[k]? = some y := ⟨_, List.getElem?_eq_getElem hlk⟩
                obtain ⟨wa', wc', e, hcs⟩ := kTk.out
                injection e with e1 e2 e3
                subst e1 e3
                obtain ⟨tb, tof, rfl, hcells⟩ := hcs (by omega)
                have t0 := hcells k y hy
                have htbl := World.block_lt_of_cell? wr _ t0
                have ky := Lib.hid hy
                have hJn := Lib.hid (kJn.out y x.2 (List.mem_of_getElem? hy) (by omega))
                have kpre := Lib.hid (show s :: (pathWords s (pl.take i) ++ ((wordsS x.2).take k).map (joinB · s)) ++ [joinB y s] <+: placesP pl dirs s by
                  rw [hpp.out, List.cons_append, List.prefix_cons_inj]
                  exact (path_prefix (x1 := x.1) (x2 := x.2) kx.out hmt hy).trans (List.prefix_append _ _))
                clear hcells hcs hy e2
                gi_wp2_with (refine ⟨trivial, ?_⟩; gi_at_call 29; refine (callsIn_wide.2 (hJn.out _)).mono ?_; rintro e w5 ⟨rfl, hb⟩; have kb5 := Lib.hid hb; clear hb; obtain ⟨f2, t2, as2, b2, hy2, hR2⟩ := kY.out _ (joinB y s) w5 (kJ.out _ _ _ kJk.out kb5.out) kpre.out)
                refine hR2.mono ?_
                rintro e W3 (⟨rfl, hJ3, hk3⟩ | ⟨rfl, hJx3⟩)
                · gi_wp2
                  go_roundw
                  case rel => exact ⟨k + 1, by omega, by go_num, Lib.hid (by rw [take_more ky.out, List.map_append, ← List.append_assoc]; simpa using hJ3), Lib.hid (kCk.out.keeps ((keeps_below kb5.out).trans hk3)), Lib.hid (kTk.out.keeps ((keeps_below kb5.out).trans hk3))⟩
                  case measure => simp [intOf]; omega
                · gi_wp2
                  refine bodyPost_ret (results_none rfl _ _ _) rfl ?_
                  exact ⟨⟨_, rfl⟩, .inr ⟨_, kpre.out, hJx3⟩⟩
              · have y1 : ¬ (k : Int) < ((wordsS x.2).length : Int) := by omega
                have hke : k = (wordsS x.2).length := by omega
                gi_wp2
                go_roundw
                case rel => exact ⟨i + 1, by omega, by go_num, Lib.hid (by have h := kJk.out; rw [hke, List.take_length] at h; rw [ksn.out]; simpa using h), kCk⟩
                case measure => simp [intOf]; omega
        · have y0 : ¬ (i : Int) < (pl.length : Int) := by omega
          have hie : i = pl.length := by omega
          have kJe := Lib.hid (show J (s :: pathWords s pl) wr by have h := kJr.out; rwa [hie, List.take_length] at h)
          have crd := kCr.out.dirs
          have hBd := World.block_lt_of_cell? wr _ crd
          have hRp := Lib.hid (show Calls Tryz.prog 30 #[.string dirs, .string ⟨#[58]⟩, .string ⟨#[32]⟩] wr fun e w' => e = .returned (.string (coloned dirs)) ∧ Below wr.heap.size wr w' from Tryz.strings_ReplaceAll dirs ⟨#[58]⟩ ⟨#[32]⟩ mx wr (by omega) kCr.out.most (by decide) hc1)
          have hTs := Lib.hid (fun W => tsplit_calls (coloned dirs) (by omega) W)
          have hwl := wordsS_len (coloned dirs)
          have kDw := Lib.hid (show dirWords s dirs = (wordsS (coloned dirs)).map (joinB · s) from rfl)
          have kcz := Lib.hid hc2
          generalize coloned dirs = cd at *
          clear hie
          gi_wp2_with (first
            | (refine ⟨trivial, ?_⟩; gi_at_call 30; refine (callsIn_wide.2 hRp.out).mono ?_; rintro e w3 ⟨rfl, hb⟩; have kb3 := Lib.hid hb; clear hb)
            | (refine ⟨trivial, ?_⟩; gi_at_call 28; refine (callsIn_wide.2 (hTs.out _)).mono ?_; rintro e w4 ⟨wv, rfl, hrow, hb⟩; have kT4 := Lib.hid (texts_own hrow); have kb4 := Lib.hid (kb3.out.trans (hb.mono kb3.out.size)); clear hb hrow; obtain ⟨wa, wc, hwv, -⟩ := kT4.out; subst hwv))
          gi_loopw [63] (fun iv wr => ∃ k : Nat, k ≤ (wordsS cd).length ∧ iv = .int .i64 k ∧ Hid (J (s :: (pathWords s pl ++ ((wordsS cd).take k).map (joinB · s))) wr) ∧ Hid (PlaceC B1 B2 B3 s dirs (.slice pa pl.length pc) pl mx wr) ∧ Hid (TextsAt wr (.slice wa (wordsS cd).length wc) (wordsS cd))) (fun iv _ => (wordsS cd).length - (intOf iv).toNat)
          case atStart => exact ⟨0, Nat.zero_le _, rfl, Lib.hid (by simpa using kJ.out _ _ _ kJe.out kb4.out), Lib.hid (kCr.out.keeps (keeps_below kb4.out)), kT4⟩
          case round =>
            obtain ⟨k, hk, rfl, kJk, kCk, kTk⟩ := hrel
            have ckn := kCk.out.name
            have hBk := World.block_lt_of_cell? wr _ ckn
            by_cases hlk : k < (wordsS cd).length
            · have y1 : (k : Int) < ((wordsS cd).length : Int) := by omega
              obtain ⟨y, hy⟩ : ∃ y, (wordsS cd)[k]? = some y := ⟨_, List.getElem?_eq_getElem hlk⟩
              obtain ⟨wa', wc', e, hcs⟩ := kTk.out
              injection e with e1 e2 e3
              subst e1 e3
              obtain ⟨tb, tof, rfl, hcells⟩ := hcs (by omega)
              have t0 := hcells k y hy
              have htbl := World.block_lt_of_cell? wr _ t0
              have ky := Lib.hid hy
              have hJn := Lib.hid (kJn.out y cd (List.mem_of_getElem? hy) (by omega))
              have kpre := Lib.hid (show s :: (pathWords s pl ++ ((wordsS cd).take k).map (joinB · s)) ++ [joinB y s] <+: placesP pl dirs s by
                rw [hpp.out, List.cons_append, List.prefix_cons_inj, List.append_assoc, List.prefix_append_right_inj, kDw.out]
                exact words_prefix hy)
              clear hcells hcs hy e2
              gi_wp2_with (refine ⟨trivial, ?_⟩; gi_at_call 29; refine (callsIn_wide.2 (hJn.out _)).mono ?_; rintro e w5 ⟨rfl, hb⟩; have kb5 := Lib.hid hb; clear hb; obtain ⟨f2, t2, as2, b2, hy2, hR2⟩ := kY.out _ (joinB y s) w5 (kJ.out _ _ _ kJk.out kb5.out) kpre.out)
              refine hR2.mono ?_
              rintro e W3 (⟨rfl, hJ3, hk3⟩ | ⟨rfl, hJx3⟩)
              · gi_wp2
                go_roundw
                case rel => exact ⟨k + 1, by omega, by go_num, Lib.hid (by rw [take_more ky.out, List.map_append, ← List.append_assoc]; simpa using hJ3), Lib.hid (kCk.out.keeps ((keeps_below kb5.out).trans hk3)), Lib.hid (kTk.out.keeps ((keeps_below kb5.out).trans hk3))⟩
                case measure => simp [intOf]; omega
              · gi_wp2
                refine bodyPost_ret (results_none rfl _ _ _) rfl ?_
                exact ⟨⟨_, rfl⟩, .inr ⟨_, kpre.out, hJx3⟩⟩
            · have y1 : ¬ (k : Int) < ((wordsS cd).length : Int) := by omega
              have hke : k = (wordsS cd).length := by omega
              gi_wp2
              go_end0
              exact ⟨⟨_, rfl⟩, .inl (by have h := kJk.out; rw [hke, List.take_length, ← kDw.out, ← hpp.out] at h; exact h)⟩
  · gi_wp2
    refine bodyPost_ret (results_none rfl _ _ _) rfl ?_
    exact ⟨⟨_, rfl⟩, .inr ⟨[s], ⟨_, by unfold placesP; rfl⟩, hJx1⟩⟩
/-- A place that is none of a member. -/
abbrev Pl := { x : ByteArray // x.size ≤ 2147483647 ∧ splitOf x = none }
theorem places_stops (B1 B2 B3 : Nat) (s dirs : ByteArray) (pv : Value) (pl : List (ByteArray × ByteArray)) (mx : Int) (hs : s.size ≤ 2147483647) (hd : dirs.size ≤ 2147483647) (hc1 : dirs.size + Lib.countB dirs ⟨#[58]⟩ * 1 ≤ 140737488355328) (hc2 : (coloned dirs).size ≤ 2147483647)
    (hpl : ∀ x ∈ pl, x.1.size ≤ 2147483647 ∧ x.2.size ≤ 2147483647) (hpn : pl.length ≤ 1099511627776) (m : Nat) (hm : 2 ≤ m) (w : World) (hC : PlaceC B1 B2 B3 s dirs pv pl mx w) (hP : ∀ x ∈ placesP pl dirs s, x.size ≤ 2147483647 ∧ splitOf x = none) :
    SeqStopsK Fence.wide m Tryz.prog 26 #[.pointer (some ⟨B1, 0, none⟩), .pointer (some ⟨B2, 0, none⟩), .pointer (some ⟨B3, 0, none⟩)] (fun x : Pl => #[Value.string x.1]) KeepsCells (fun ys => ys.map Subtype.val = placesP pl dirs s) (fun pre => pre.map Subtype.val <+: placesP pl dirs s) (placesP pl dirs s).length w := fun l J Jx W hW hJ hJx hY h0 => by
  refine (places1_in l B1 B2 B3 s dirs pv pl mx hs hd hc1 hc2 hpl hpn m hm (fun q W => ∃ q' : List Pl, q'.map Subtype.val = q ∧ J q' W) (fun q W => ∃ q' : List Pl, q'.map Subtype.val = q ∧ Jx q' W) ?_ W ?_ (hC.keeps (fun a v e => (hW.cell (p := a) (World.block_lt_of_cell? w a e)).trans e)) ⟨[], rfl, h0⟩).mono ?_
  · rintro pre x W1 ⟨q, rfl, hq⟩ hpre
    have hx : x ∈ placesP pl dirs s := hpre.subset (by simp)
    have hl : q.length < (placesP pl dirs s).length := by
      have := hpre.length_le; simp at this; omega
    refine (hY q ⟨x, hP x hx⟩ W1 hq hl).mono ?_
    rintro e W' (⟨h1, h2, h3⟩ | ⟨h1, h2⟩)
    · exact Or.inl ⟨h1, ⟨q ++ [⟨x, hP x hx⟩], by simp, h2⟩, h3⟩
    · exact Or.inr ⟨h1, q ++ [⟨x, hP x hx⟩], by simp, h2⟩
  · rintro q A B row ⟨q', rfl, hq⟩ hg hr
    exact ⟨q', rfl, hJ q' A B row hq hg hr⟩
  · rintro e W' ⟨hv, ⟨ys, rfl, q, hq, hj⟩ | ⟨pre, hpre, q, rfl, hj⟩⟩
    · exact ⟨hv, Or.inl ⟨q, hq, hj⟩⟩
    · exact ⟨hv, Or.inr ⟨q, hpre, hj⟩⟩
end Go.Proofs.YtnnepcodghfcmaaGreatDoor
