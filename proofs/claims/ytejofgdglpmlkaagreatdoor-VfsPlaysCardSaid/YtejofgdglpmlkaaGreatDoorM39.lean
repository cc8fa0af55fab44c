/-
  looks: what looks answers of both. Conditions: a tree that is right, texts of at most 2^31 bytes; the library's variable is laid.
-/
import Derived.Test.YtejofgdglpmlkaaGreatDoorM38
import Derived.Test.YtejofgdglpmlkaaGreatDoorM28
import Derived.Test.YtejofgdglpmlkaaGreatDoorM29
import Derived.Test.YtejofgdglpmlkaaGreatDoorM33
namespace Go.Proofs.YtejofgdglpmlkaaGreatDoor
open Go.RowKit

set_option maxRecDepth 100000 in
theorem stat_eq (a b c : Int) (w : World) : (binOp .eql 51 (.agg #[.int .i64 a, .int .i64 b, .int .i64 c]) (.agg #[.int .i64 a, .int .i64 b, .int .i64 c])).run Tryz.prog w = .ok (.bool true) w := by
  go_simp
theorem below_kept {w w1 w2 : World} {n : Nat} (h : Below n w w1) (hk : Kept (fun j => n ≤ j) w1 w2) (hn : n ≤ w1.heap.size) : Below n w w2 :=
  ⟨hk.os.trans h.os, hk.tape.trans h.tape, hk.output.trans h.output, Nat.le_trans h.size hk.size, fun k hk' => (hk.block k (by omega) (by omega)).trans (h.block k hk')⟩
theorem listP_len (st : St) (q : Bs) : (listP st q).1.length ≤ st.length := by
  have hk : (kids st q).length ≤ st.length := by
    have := subs_len q (st.map Prod.fst)
    rwa [List.length_map] at this
  unfold listP
  split
  · simp
  · simp
  · exact hk
  · split
    · exact hk
    · simp
/-- Names that are written over, from i on as they were. -/
def LeftAt (w : World) (B hi : Nat) (v : Value) (l : List Bs) (i : Nat) : Prop :=
  ∃ a c, v = .slice a l.length c ∧ (0 < l.length → ∃ g cur, a = some ⟨g, 0, none⟩ ∧ B ≤ g ∧ g < hi ∧ w.heap[g]? = some (.cells cur 9 (0, 0)) ∧ ∀ k x, i ≤ k → l[k]? = some x → cur[k]? = some (.string (mk x)))
theorem LeftAt.of {w : World} {B : Nat} {v : Value} {l : List Bs} (h : LooseS w B v l) : LeftAt w B w.heap.size v l 0 := by
  rcases h with ⟨rfl, rfl⟩ | ⟨g, cap, cur, rfl, hb, hg, hn, hm, hcs, ht⟩
  · exact ⟨none, 0, rfl, fun h => absurd h (Nat.lt_irrefl _)⟩
  · refine ⟨_, cap, rfl, fun _ => ⟨g, cur, rfl, hb, heap_lt hg, hg, fun k x _ hk => ?_⟩⟩
    have hkl := (List.getElem?_eq_some_iff.1 hk).1
    have : (bcells l)[k]? = some (.string (mk x)) := by simp [bcells, hk]
    rw [← ht, List.getElem?_take_of_lt hkl] at this
    simpa using this
theorem LeftAt.on {w w' : World} {B hi : Nat} {v : Value} {l : List Bs} {i : Nat} (h : LeftAt w B hi v l i) (he : ∀ k, B ≤ k → k < hi → w'.heap[k]? = w.heap[k]?) : LeftAt w' B hi v l i := by
  obtain ⟨a, c, h1, h2⟩ := h
  refine ⟨a, c, h1, fun hl => ?_⟩
  obtain ⟨g, cur, e1, e2, e3, e4, e5⟩ := h2 hl
  exact ⟨g, cur, e1, e2, e3, (he g e2 e3).trans e4, e5⟩
theorem LeftAt.put {w : World} {B hi g c n : Nat} {l : List Bs} {i : Nat} {u : Value} (h : LeftAt w B hi (.slice (some ⟨g, 0, none⟩) n c) l i) (hi' : i < l.length) : LeftAt (w.setCell ⟨g, i, none⟩ u) B hi (.slice (some ⟨g, 0, none⟩) n c) l (i + 1) := by
  obtain ⟨a, c', h1, h2⟩ := h
  refine ⟨a, c', h1, fun hl => ?_⟩
  obtain ⟨g', cur, e1, e2, e3, e4, e5⟩ := h2 hl
  injection h1 with h3
  rw [← h3] at e1
  injection e1 with e1; injection e1 with e1
  subst e1
  refine ⟨g, _, h3.symm, e2, e3, set_heap e4 i u, fun k x hk hx => ?_⟩
  rw [Array.getElem?_setIfInBounds, if_neg (by omega)]
  exact e5 k x (by omega) hx
/-- What the stats at the end rest on. -/
structure LookH (W : World) (f mb : Nat) (N : Bs → Nat) (S : Nat → Prop) (st : St) (clock room : Int) (fb : Nat) (fv : Value) (L : List NV) (R : Nat → Prop) (ob : Nat) (p q : Bs) (w : World) : Prop where make ::
  fs : FsIn w f mb N S st clock room
  ref : RefIn w fb fv L R st clock room
  c1 : w.cell? ⟨ob, 1, none⟩ = some (.string (mk p))
  c2 : w.cell? ⟨ob, 2, none⟩ = some (.string (mk q))
  ol : ob < w.heap.size
  below : Below W.heap.size W w
theorem LookH.on {W : World} {f mb : Nat} {N : Bs → Nat} {S : Nat → Prop} {st : St} {clock room : Int} {fb : Nat} {fv : Value} {L : List NV} {R : Nat → Prop} {ob : Nat} {p q : Bs} {w w' : World} (h : LookH W f mb N S st clock room fb fv L R ob p q w) (hb : Below w.heap.size w w') : LookH W f mb N S st clock room fb fv L R ob p q w' :=
  ⟨h.fs.below hb, h.ref.below hb, (hb.cell (p := ⟨ob, 1, none⟩) h.ol).trans h.c1, (hb.cell (p := ⟨ob, 2, none⟩) h.ol).trans h.c2, Nat.lt_of_lt_of_le h.ol hb.size, h.below.trans (hb.mono h.below.size)⟩
section
variable {w : World} {f fb : Nat} {S R Tb : Nat → Prop} {st : St} {clock room : Int} {x : OpD} {da : Option Addr} {dc : Nat}
set_option maxRecDepth 100000 in
set_option maxHeartbeats 16000000 in
theorem looks_law (hB : Both w f fb S R st clock room) (hw : Wf st clock room) (hp : x.p.length ≤ 2147483647) (hq : x.q.length ≤ 2147483647) (hlw : Laid w) :
    Calls Tryz.prog 24 #[.pointer (some ⟨f, 0, none⟩), .pointer (some ⟨fb, 0, none⟩), .agg #[.int .i64 x.kind, .string (mk x.p), .string (mk x.q), .slice da x.b.length dc]] w fun e w' => e = .returned (.bool true) ∧ Below w.heap.size w w' := by
  have kw := Lib.hid hw
  have klw := Lib.hid hlw
  have hl0 := hlw.lt
  have kX1 := Lib.hid (heap_alloc_new w (.cells #[.int .i64 x.kind, .string (mk x.p), .string (mk x.q), .slice da x.b.length dc] 43))
  have kW1 := Lib.hid (below_al (o := .cells #[.int .i64 x.kind, .string (mk x.p), .string (mk x.q), .slice da x.b.length dc] 43) (Below.refl w.heap.size w))
  obtain ⟨⟨mb, N, hF⟩, ⟨fv, L, hR⟩, -⟩ := hB
  have hps : (mk x.p).size ≤ 2147483647 := by rw [mk_size]; exact hp
  have hqs : (mk x.q).size ≤ 2147483647 := by rw [mk_size]; exact hq
  have kF := Lib.hid hF
  have kR := Lib.hid hR
  clear hF hR hw hlw
  go_enter Tryz.func24, Tryz.ntmps24
  go_upto_region 1 with (fail)
  have hz1 : w.heap.size < (w.alloc (.cells #[.int .i64 x.kind, .string (mk x.p), .string (mk x.q), .slice da x.b.length dc] 43)).heap.size := by simp
  have kH1 := Lib.hid (show LookH w f mb N S st clock room fb fv L R w.heap.size x.p x.q (w.alloc (.cells #[.int .i64 x.kind, .string (mk x.p), .string (mk x.q), .slice da x.b.length dc] 43)) from ⟨kF.out.below kW1.out, kR.out.below kW1.out, (cells4 kX1.out).2.1, (cells4 kX1.out).2.2.1, hz1, kW1.out⟩)
  generalize w.alloc (.cells #[.int .i64 x.kind, .string (mk x.p), .string (mk x.q), .slice da x.b.length dc] 43) = w1 at *
  clear kX1
  have o1 := kH1.out.c1
  have ol := kH1.out.ol
  have hRd := Lib.hid (read_calls (p := mk x.p) kH1.out.fs kw.out hps rfl (klw.out.below hl0 kW1.out))
  have hRr := Lib.hid (fun (W : World) (h : LookH w f mb N S st clock room fb fv L R w.heap.size x.p x.q W) => refRead_calls (p := mk x.p) h.ref kw.out hps rfl)
  rw [mk_list] at hRd hRr
  go_upto_region 3 with (first | (go_at_call 46; refine hRd.out.mono ?_; rintro e w2 ⟨va, rfl, hu, hb⟩; have kUa := Lib.hid hu; have kb2 := Lib.hid hb; have kH2 := Lib.hid (kH1.out.on hb); obtain ⟨aa, ac, hva⟩ := hu.1.form; subst hva; clear hu hb o1 ol; have o1 := kH2.out.c1; have ol := kH2.out.ol) | (go_at_call 47; refine (hRr.out _ kH2.out).mono ?_; rintro e w3 ⟨vb, rfl, hu, hb⟩; have kUb := Lib.hid hu; have kb3 := Lib.hid hb; have kH3 := Lib.hid (kH2.out.on hb); obtain ⟨ba, bc, hvb⟩ := hu.form; subst hvb; clear hu hb o1 ol; have o1 := kH3.out.c1; have ol := kH3.out.ol))
  have kUa3 := Lib.hid (kUa.out.of_heap (w' := w3) (fun k hk => kb3.out.block k hk.2) (fun _ h => h))
  have hcv1 := bytes_str kUa3.out.1
  have hcv2 := bytes_str kUb.out
  have hdl : (readP st (clean x.p)).1.length ≤ 1099511627776 := by
    unfold readP
    cases hlk : lookQ st (clean x.p) with
    | err e => simp
    | none => simp
    | root => simp
    | node n =>
      dsimp only
      split
      · simp
      · exact wf_data kw.out _ (find_mem (lookQ_find.2 n hlk))
  have kUl := Lib.hid (kUa3.out.loose hdl)
  have kKl := Lib.hid (Kept.refl (fun j => w1.heap.size ≤ j ∧ j < w2.heap.size) w3)
  generalize readP st (clean x.p) = rp at *
  obtain ⟨rd, rc⟩ := rp
  dsimp only at *
  go_upto_region 4 with (go_at_call 12; refine (num_calls _ _).mono ?_; rintro e w0 ⟨rfl, rfl⟩)
  have kH3b := Lib.hid (kH2.out.on kb3.out)
  have hz2 := kb2.out.size
  have hz3 := kb3.out.size
  clear hcv1 hcv2 o1 ol
  go_wp2_with fail
  go_loopw [12] (fun iv wr => ∃ i : Nat, i ≤ rd.length ∧ iv = .int .i64 i ∧ ULoose wr w1.heap.size w2.heap.size w2.heap.size (.slice aa rd.length ac) ∧ Kept (fun j => w1.heap.size ≤ j ∧ j < w2.heap.size) w3 wr) (fun iv _ => rd.length - (intOf iv).toNat)
  case atStart => exact ⟨0, Nat.zero_le _, rfl, kUl.out, kKl.out⟩
  case round =>
    obtain ⟨i, hi, rfl, hU2, hK2⟩ := hrel
    have kU2 := Lib.hid hU2
    have kK2 := Lib.hid hK2
    clear hU2 hK2
    by_cases hlt : i < rd.length
    · obtain ⟨a2, n2, c2, e', -, h2⟩ := kU2.out
      injection e' with e1 e2 e3
      subst e1 e2
      obtain ⟨b, o, cur2, e4, hbB, hbh, -, hbc, hbs⟩ := h2 (by omega)
      subst e4
      obtain ⟨u, hu⟩ := hbs i hlt
      have hcu : wr.cell? ⟨b, o + i, none⟩ = some (.int .u8 u.toNat) := by rw [cell_of_row wr b _ cur2 5 (0, 0) hbc]; exact hu
      have hfu : wr.frozen? ⟨b, o + i, none⟩ = false := Go.Joins.unfrozen_of_block hbc _
      have hbl3 := heap_lt hbc
      have y1 : (i : Int) < (rd.length : Int) := by omega
      clear hbs hu hbc h2 e3
      go_wp2_with fail
      obtain ⟨u', hu'⟩ := xor_byte u
      rw [hu']
      exact ⟨⟨i + 1, by omega, by go_num, kU2.out.put _ _ _, kK2.out.trans (S' := fun j => w1.heap.size ≤ j ∧ j < w2.heap.size) (Kept.grown (set_grown wr b _ _) (fun k e => by injection e with e; subst e; exact ⟨hbB, hbh⟩)) (fun k h => Or.inl h)⟩, by simp [intOf]; omega⟩
    · have y1 : ¬ (i : Int) < (rd.length : Int) := by omega
      have kb13 := Lib.hid (kb2.out.trans (kb3.out.mono kb2.out.size))
      have kb1r := Lib.hid (show Below w1.heap.size w1 wr from ⟨kK2.out.os.trans kb13.out.os, kK2.out.tape.trans kb13.out.tape, kK2.out.output.trans kb13.out.output, Nat.le_trans kb13.out.size kK2.out.size, fun k hk => (kK2.out.block k (by omega) (by omega)).trans (kb13.out.block k hk)⟩)
      have kH4 := Lib.hid (kH1.out.on kb1r.out)
      have o1 := kH4.out.c1
      have ol := kH4.out.ol
      have hLi := Lib.hid (list_calls (p := mk x.p) kH4.out.fs kw.out hps rfl (klw.out.below hl0 kH4.out.below))
      have hLr := Lib.hid (fun (W : World) (h : LookH w f mb N S st clock room fb fv L R w.heap.size x.p x.q W) => refList_calls (p := mk x.p) h.ref kw.out hps rfl)
      rw [mk_list] at hLi hLr
      clear hRd hRr
      go_upto_region 10 with (first | (go_at_call 48; refine hLi.out.mono ?_; rintro e w5 ⟨vl, rfl, hl, hb⟩; have kL5 := Lib.hid hl; have kb5 := Lib.hid hb; have kH5 := Lib.hid (kH4.out.on hb); obtain ⟨la, lc, hvl⟩ := names_cells hl; subst hvl; clear hl hb o1 ol; have o1 := kH5.out.c1; have ol := kH5.out.ol) | (go_at_call 49; refine (hLr.out _ kH5.out).mono ?_; rintro e w6 ⟨vm, rfl, hm, hb⟩; have kM6 := Lib.hid hm; have kb6 := Lib.hid hb; have kH6 := Lib.hid (kH5.out.on hb); obtain ⟨ma, mc, hvm⟩ := names_cells hm; subst hvm; clear hm hb o1 ol; have o1 := kH6.out.c1; have ol := kH6.out.ol))
      have kLf := Lib.hid ((LeftAt.of kL5.out).on (w' := w6) (fun k _ hk => kb6.out.block k hk))
      clear hLi hLr
      have hnl : (listP st (clean x.p)).1.length ≤ 1000 := Nat.le_trans (listP_len st _) kw.out.len
      generalize listP st (clean x.p) = lp at *
      obtain ⟨nm, lcode⟩ := lp
      dsimp only at *
      go_upto_region 11 with (go_at_call 12; refine (num_calls _ _).mono ?_; rintro e w0 ⟨rfl, rfl⟩)
      have hz5 := kb5.out.size
      have hz6 := kb6.out.size
      clear o1 ol
      go_wp2_with fail
      obtain ⟨w4, hw4⟩ : ∃ w4, w4 = wr := ⟨_, rfl⟩
      subst hw4
      go_loopw [11, 17] (fun sv iv wr => ∃ i : Nat, i ≤ nm.length ∧ sv = .bool true ∧ iv = .int .i64 i ∧ LeftAt wr w4.heap.size w5.heap.size (.slice la nm.length lc) nm i ∧ Kept (fun j => w4.heap.size ≤ j ∧ j < w5.heap.size) w6 wr) (fun _ iv _ => nm.length - (intOf iv).toNat)
      case atStart => exact ⟨0, Nat.zero_le _, rfl, rfl, kLf.out, Kept.refl _ _⟩
      case round =>
        obtain ⟨i2, hi2, rfl, rfl, hLa, hKa⟩ := hrel
        have kLa := Lib.hid hLa
        have kKa := Lib.hid hKa
        clear hLa hKa
        by_cases hlt2 : i2 < nm.length
        · obtain ⟨y, hy⟩ : ∃ y, nm[i2]? = some y := ⟨_, List.getElem?_eq_getElem hlt2⟩
          obtain ⟨a', c', e', h2⟩ := kLa.out
          injection e' with e1 e2 e3
          subst e1
          obtain ⟨g, cur, e4, hgB, hgh, hgc, hgs⟩ := h2 (by omega)
          subst e4
          have hc1 : wr.cell? ⟨g, i2, none⟩ = some (.string (mk y)) := by rw [cell_of_row wr g _ cur 9 (0, 0) hgc]; exact hgs i2 y (Nat.le_refl _) hy
          have hf1 : wr.frozen? ⟨g, i2, none⟩ = false := Go.Joins.unfrozen_of_block hgc _
          have hgl := heap_lt hgc
          obtain ⟨g2, cap2, e5, -, hgl2, hc2⟩ := (kM6.out.kept (w' := wr) (fun g hg => kKa.out.block g (kM6.out.lt g hg).2 (fun h => by have := (kM6.out.lt g hg).1; omega))).cells hy
          injection e5 with e6 e7 e8
          subst e6 e8
          have y2 : (i2 : Int) < (nm.length : Int) := by omega
          have hd2 : decide ((i2 : Int) < (nm.length : Int)) = true := decide_eq_true y2
          have kLn := Lib.hid (fun n => ((kLa.out.on (w' := wr.drewN n) (fun _ _ _ => rfl)).put (u := .string ⟨#[63]⟩) hlt2))
          have hwi : IntKind.i64.wrap ((i2 : Int) + 1) = ((i2 + 1 : Nat) : Int) := by rw [IntWalk.i64_in _ (by omega)]; omega
          clear hy e2 e3 hgs h2 e7 hgc hwi
          go_wp2_with fail
          go_quiet (fail)
          go_wp2_with fail
          refine ⟨⟨i2 + 1, by omega, rfl, by go_num, kLn.out _, kKa.out.trans (S' := fun j => w4.heap.size ≤ j ∧ j < w5.heap.size) (Below.kept (below_drewN' (Below.refl _ _) nq) (Kept.grown (set_grown _ g _ _) (fun k e => by injection e with e; subst e; exact ⟨hgB, hgh⟩))) (fun k h => Or.inl h)⟩, by simp [intOf]; omega⟩
        · have y2 : ¬ (i2 : Int) < (nm.length : Int) := by omega
          have hd2 : decide ((i2 : Int) < (nm.length : Int)) = false := decide_eq_false y2
          have kb46 := Lib.hid (kb5.out.trans (kb6.out.mono kb5.out.size))
          have kb4r := Lib.hid (show Below w4.heap.size w4 wr from ⟨kKa.out.os.trans kb46.out.os, kKa.out.tape.trans kb46.out.tape, kKa.out.output.trans kb46.out.output, Nat.le_trans kb46.out.size kKa.out.size, fun k hk => (kKa.out.block k (by omega) (by omega)).trans (kb46.out.block k hk)⟩)
          have kH19 := Lib.hid (kH4.out.on kb4r.out)
          have kH20 := Lib.hid (kH19.out.on (below_drew wr))
          have hSp := Lib.hid (fun (W : World) (h : LookH w f mb N S st clock room fb fv L R w.heap.size x.p x.q W) => stat_calls (p := mk x.p) h.fs hps rfl)
          have hSq := Lib.hid (fun (W : World) (h : LookH w f mb N S st clock room fb fv L R w.heap.size x.p x.q W) => stat_calls (p := mk x.q) h.fs hqs rfl)
          have hRp := Lib.hid (fun (W : World) (h : LookH w f mb N S st clock room fb fv L R w.heap.size x.p x.q W) => refStat_calls (p := mk x.p) h.ref kw.out hps rfl)
          have hRq := Lib.hid (fun (W : World) (h : LookH w f mb N S st clock room fb fv L R w.heap.size x.p x.q W) => refStat_calls (p := mk x.q) h.ref kw.out hqs rfl)
          rw [mk_list] at hSp hRp hSq hRq
          generalize statP st (clean x.p) = sp at *
          generalize statP st (clean x.q) = sq at *
          have hEq := fun (s : Int × Int × Int) (w : World) => (show (binOp .eql 51 (statV s) (statV s)).run Tryz.prog w = .ok (.bool true) w from stat_eq _ _ _ w)
          go_wp2_with fail
          refine lbegin 23 (LookH w f mb N S st clock room fb fv L R w.heap.size x.p x.q) (by kernel_rfl) ?_
          refine ltake 23 0 (some 106) ?_ rfl kH20.out (by rfl) (fun w' hw => ?_) ?_
          rotate_left 1
          · have p1 := hw.c1; have p2 := hw.c2; have pl := hw.ol; go_simp; first | done | with_reducible rfl
          try simp only [pz0, pz1, pz2, pz3]
          refine ltake 23 1 (some 107) ?_ rfl kH20.out (by rfl) (fun w' hw => ?_) ?_
          rotate_left 1
          · have p1 := hw.c1; have p2 := hw.c2; have pl := hw.ol; go_simp; first | done | with_reducible rfl
          try simp only [pz0, pz1, pz2, pz3]
          refine ltake 23 2 (some 108) ?_ rfl kH20.out (by rfl) (fun w' hw => ?_) ?_
          rotate_left 1
          · have p1 := hw.c1; have p2 := hw.c2; have pl := hw.ol; go_simp; first | done | with_reducible rfl
          try simp only [pz0, pz1, pz2, pz3]
          refine ltake 23 3 (some 109) ?_ rfl kH20.out (by rfl) (fun w' hw => ?_) ?_
          rotate_left 1
          · have p1 := hw.c1; have p2 := hw.c2; have pl := hw.ol; go_simp; first | done | with_reducible rfl
          try simp only [pz0, pz1, pz2, pz3]
          refine ltake 23 4 (some 110) ?_ rfl kH20.out (by rfl) (fun w' hw => ?_) ?_
          rotate_left 1
          · have p1 := hw.c1; have p2 := hw.c2; have pl := hw.ol; go_simp; first | done | with_reducible rfl
          try simp only [pz0, pz1, pz2, pz3]
          refine ltake 23 6 (some 112) ?_ rfl kH20.out (by rfl) (fun w' hw => ?_) ?_
          rotate_left 1
          · have p1 := hw.c1; have p2 := hw.c2; have pl := hw.ol; go_simp; first | done | with_reducible rfl
          try simp only [pz0, pz1, pz2, pz3]
          refine ltake 23 7 (some 113) ?_ rfl kH20.out (by rfl) (fun w' hw => ?_) ?_
          rotate_left 1
          · have p1 := hw.c1; have p2 := hw.c2; have pl := hw.ol; go_simp; first | done | with_reducible rfl
          try simp only [pz0, pz1, pz2, pz3]
          refine ltake 23 8 (some 114) ?_ rfl kH20.out (by rfl) (fun w' hw => ?_) ?_
          rotate_left 1
          · have p1 := hw.c1; have p2 := hw.c2; have pl := hw.ol; go_simp; first | done | with_reducible rfl
          try simp only [pz0, pz1, pz2, pz3]
          refine lready (rs := [5]) (by kernel_rfl) (by simp) (lcons rfl (fun K hK => ?_) (lnil))
          rw [if_pos (by rfl)]
          go_simp
          refine (hSp.out _ kH20.out).mono ?_
          rintro e w21 ⟨rfl, hb⟩
          have kH21 := Lib.hid (kH20.out.on hb)
          clear hb
          refine hK.out _ _ (fun _ => kH21.out) (fun _ => ?_)
          clear hK K
          try simp only [pz0, pz1, pz2, pz3]
          refine lready (rs := [9]) (by kernel_rfl) (by simp) (lcons rfl (fun K hK => ?_) (lnil))
          rw [if_pos (by rfl)]
          go_simp
          refine (hRp.out _ kH21.out).mono ?_
          rintro e w22 ⟨rfl, hb⟩
          have kH22 := Lib.hid (kH21.out.on hb)
          clear hb
          refine hK.out _ _ (fun _ => kH22.out) (fun _ => ?_)
          clear hK K
          try simp only [pz0, pz1, pz2, pz3]
          refine ltake 23 10 (some 116) (.bool true) rfl kH22.out (by rfl) (fun w' hw => ?_) ?_
          · have p1 := hw.c1; have p2 := hw.c2; have pl := hw.ol; simp only [statV]; go_simp; first | done | with_reducible rfl
          try simp only [pz0, pz1, pz2, pz3]
          refine ltake 23 11 (some 117) ?_ rfl kH22.out (by rfl) (fun w' hw => ?_) ?_
          rotate_left 1
          · have p1 := hw.c1; have p2 := hw.c2; have pl := hw.ol; go_simp; first | done | with_reducible rfl
          try simp only [pz0, pz1, pz2, pz3]
          refine ltake 23 12 (some 118) ?_ rfl kH22.out (by rfl) (fun w' hw => ?_) ?_
          rotate_left 1
          · have p1 := hw.c1; have p2 := hw.c2; have pl := hw.ol; go_simp; first | done | with_reducible rfl
          try simp only [pz0, pz1, pz2, pz3]
          refine ltake 23 13 (some 119) ?_ rfl kH22.out (by rfl) (fun w' hw => ?_) ?_
          rotate_left 1
          · have p1 := hw.c1; have p2 := hw.c2; have pl := hw.ol; go_simp; first | done | with_reducible rfl
          try simp only [pz0, pz1, pz2, pz3]
          refine ltake 23 14 (some 120) ?_ rfl kH22.out (by rfl) (fun w' hw => ?_) ?_
          rotate_left 1
          · have p1 := hw.c1; have p2 := hw.c2; have pl := hw.ol; go_simp; first | done | with_reducible rfl
          try simp only [pz0, pz1, pz2, pz3]
          refine ltake 23 15 (some 121) ?_ rfl kH22.out (by rfl) (fun w' hw => ?_) ?_
          rotate_left 1
          · have p1 := hw.c1; have p2 := hw.c2; have pl := hw.ol; go_simp; first | done | with_reducible rfl
          try simp only [pz0, pz1, pz2, pz3]
          refine ltake 23 17 (some 123) ?_ rfl kH22.out (by rfl) (fun w' hw => ?_) ?_
          rotate_left 1
          · have p1 := hw.c1; have p2 := hw.c2; have pl := hw.ol; go_simp; first | done | with_reducible rfl
          try simp only [pz0, pz1, pz2, pz3]
          refine ltake 23 18 (some 124) ?_ rfl kH22.out (by rfl) (fun w' hw => ?_) ?_
          rotate_left 1
          · have p1 := hw.c1; have p2 := hw.c2; have pl := hw.ol; go_simp; first | done | with_reducible rfl
          try simp only [pz0, pz1, pz2, pz3]
          refine ltake 23 19 (some 125) ?_ rfl kH22.out (by rfl) (fun w' hw => ?_) ?_
          rotate_left 1
          · have p1 := hw.c1; have p2 := hw.c2; have pl := hw.ol; go_simp; first | done | with_reducible rfl
          try simp only [pz0, pz1, pz2, pz3]
          refine lready (rs := [16]) (by kernel_rfl) (by simp) (lcons rfl (fun K hK => ?_) (lnil))
          rw [if_pos (by rfl)]
          go_simp
          refine (hSq.out _ kH22.out).mono ?_
          rintro e w23 ⟨rfl, hb⟩
          have kH23 := Lib.hid (kH22.out.on hb)
          clear hb
          refine hK.out _ _ (fun _ => kH23.out) (fun _ => ?_)
          clear hK K
          try simp only [pz0, pz1, pz2, pz3]
          refine lready (rs := [20]) (by kernel_rfl) (by simp) (lcons rfl (fun K hK => ?_) (lnil))
          rw [if_pos (by rfl)]
          go_simp
          refine (hRq.out _ kH23.out).mono ?_
          rintro e w24 ⟨rfl, hb⟩
          have kH24 := Lib.hid (kH23.out.on hb)
          clear hb
          refine hK.out _ _ (fun _ => kH24.out) (fun _ => ?_)
          clear hK K
          try simp only [pz0, pz1, pz2, pz3]
          refine ltake 23 21 (some 127) (.bool true) rfl kH24.out (by rfl) (fun w' hw => ?_) ?_
          · have p1 := hw.c1; have p2 := hw.c2; have pl := hw.ol; simp only [statV]; go_simp; first | done | with_reducible rfl
          try simp only [pz0, pz1, pz2, pz3]
          refine ltake 23 22 (some 128) ?_ rfl kH24.out (by rfl) (fun w' hw => ?_) ?_
          rotate_left 1
          · have p1 := hw.c1; have p2 := hw.c2; have pl := hw.ol; go_simp; first | done | with_reducible rfl
          try simp only [pz0, pz1, pz2, pz3]
          refine lready (rs := [23]) (by kernel_rfl) (by simp) (lcons rfl (fun K hK => ?_) (lnil))
          rw [if_pos (by rfl)]
          go_simp
          refine hK.out _ _ (fun h => absurd rfl h) (fun _ => ?_)
          clear hK K
          refine ldone (by kernel_rfl) ?_ _
          go_wp2_with fail
          go_ret
          exact ⟨rfl, kH24.out.below⟩
end
end Go.Proofs.YtejofgdglpmlkaaGreatDoor
