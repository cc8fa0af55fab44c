/-
  ArPuts answers true. Conditions: texts of at most 2^47 bytes, at most 2^42 members; Itoa's table reads as laid.
-/
import Derived.Test.YtnjagoglabllaaaGreatDoorArPutM
import Derived.Test.YtnjagoglabllaaaGreatDoorArWrites
namespace Go.Proofs.YtnjagoglabllaaaGreatDoor
open Go.RowKit

theorem drew_cell (w : World) (n : Nat) (p : Addr) : (w.drewN n).cell? p = w.cell? p := rfl
section
variable {l : List Mem} {v1 mdv : Value} {T1 Tm : Nat → Prop} {w : World}
set_option maxRecDepth 100000 in
set_option maxHeartbeats 8000000 in
theorem puts_calls (htab : Tab w.heap.size w) (h1 : MemsAt w v1 l T1) (hT1 : ∀ k, T1 k → k < w.heap.size) (hp1 : MemsOk l) (m : Mem) (hm : BytesAt w mdv m.data Tm) (hTm : ∀ k, Tm k → k < w.heap.size) (hpm : m.name.length ≤ 140737488355328 ∧ m.data.length ≤ 140737488355328) :
    Calls Tryz.prog 7 #[v1, .agg #[.string (mk m.name), .int .i64 m.date, mdv]] w fun e w' => e = .returned (.bool true) ∧ Below w.heap.size w w' := by
  obtain ⟨a1, c1, e1⟩ := h1.form
  obtain ⟨ma, mc, e2⟩ := hm.form
  subst e1 e2
  have kbx := Lib.hid (heap_alloc_new w (.cells #[.string (mk m.name), .int .i64 m.date, .slice ma m.data.length mc] 37))
  have kb0 := Lib.hid (below_al (o := .cells #[.string (mk m.name), .int .i64 m.date, .slice ma m.data.length mc] 37) (Below.refl w.heap.size w))
  have hsz0 : w.heap.size < (w.alloc (.cells #[.string (mk m.name), .int .i64 m.date, .slice ma m.data.length mc] 37)).heap.size := heap_lt kbx.out
  have k1 := Lib.hid (fun (W : World) (h : Below w.heap.size w W) => h1.of_heap (w' := W) (T' := T1) (fun j hj => h.block j (hT1 j hj)) (fun _ h => h))
  have kT1 := Lib.hid (fun (W : World) (h : Below w.heap.size w W) (j : Nat) (hj : T1 j) => Nat.lt_of_lt_of_le (hT1 j hj) h.size)
  have km := Lib.hid (fun (W : World) (h : Below w.heap.size w W) => hm.of_heap (w' := W) (S' := Tm) (fun j hj => h.block j (hTm j hj)) (fun _ h => h))
  have kTm := Lib.hid (fun (W : World) (h : Below w.heap.size w W) (j : Nat) (hj : Tm j) => Nat.lt_of_lt_of_le (hTm j hj) h.size)
  have kp1 := Lib.hid hp1
  have kpm := Lib.hid hpm
  have ktab := Lib.hid htab
  have kA := Lib.hid (fun (W : World) (h : Below w.heap.size w W) => alive_calls W ((htab.on h).mono h.size))
  have hB1 := Lib.hid (fun (W : World) (h : Below w.heap.size w W) => arbig_calls (k1.out W h) (kT1.out W h) (fun x hx => ⟨(hp1.1 x hx).1, (hp1.1 x hx).2.1⟩) hp1.2)
  clear h1 hT1 hp1 htab hm hTm hpm
  go_enter Tryz.func7, Tryz.ntmps7
  go_upto_region 1 with (fail)
  generalize w.alloc (.cells #[.string (mk m.name), .int .i64 m.date, .slice ma m.data.length mc] 37) = w1 at *
  have kA1 := Lib.hid (kA.out _ kb0.out)
  go_upto_region 2 with (go_at_call 8; refine kA1.out.mono ?_; rintro e w2 ⟨rfl, hb2⟩; have kb12 := Lib.hid hb2; clear hb2)
  have kb2 := Lib.hid (kb0.out.trans (kb12.out.mono kb0.out.size))
  have kbx2 := Lib.hid ((kb12.out.block _ hsz0).trans kbx.out)
  go_wp2_with (fail)
  refine (hB1.out _ kb2.out).mono ?_
  rintro e w3 ⟨b1, rfl, hs1', hb3⟩
  have hs1 := Lib.hid hs1'
  have kb23 := Lib.hid hb3
  have kb3 := Lib.hid (kb2.out.trans (hb3.mono kb2.out.size))
  have kbx3 := Lib.hid ((hb3.block _ (heap_lt kbx2.out)).trans kbx2.out)
  clear hb3 hs1'
  cases b1 with
  | true =>
    go_wp2_with fail
    go_ret
    exact ⟨rfl, kb3.out⟩
  | false =>
  obtain ⟨x0, x1, x2, -⟩ := cells3 kbx3.out
  have xl := heap_lt kbx3.out
  have kN4 := Lib.hid (heap_alloc_new w3 (.cells #[.string (mk m.name), .int .i64 m.date, .slice ma m.data.length mc] 37))
  have kb34 := Lib.hid (below_al (o := .cells #[.string (mk m.name), .int .i64 m.date, .slice ma m.data.length mc] 37) (Below.refl w3.heap.size w3))
  have kb4 := Lib.hid (kb3.out.trans (kb34.out.mono kb3.out.size))
  have hB2 := Lib.hid (arbig_calls (one_mem kN4.out (km.out _ kb4.out) (kTm.out _ kb4.out)) (fun j hj => hj) (fun x hx => by rw [List.mem_singleton.1 hx]; exact kpm.out) (by simp))
  have kbx4 := Lib.hid ((kb34.out.block _ xl).trans kbx3.out)
  go_wp2_with (fail)
  refine hB2.out.mono ?_
  rintro e w5 ⟨b2, rfl, hs2', hb5⟩
  have hs2 := Lib.hid hs2'
  have kb5 := Lib.hid (kb4.out.trans (hb5.mono kb4.out.size))
  have kbx5 := Lib.hid ((hb5.block _ (heap_lt kbx4.out)).trans kbx4.out)
  clear hb5 hs2' x0 x1 x2 xl
  cases b2 with
  | true =>
    go_wp2_with fail
    go_ret
    exact ⟨rfl, kb5.out⟩
  | false =>
  obtain ⟨hl1, hx1⟩ := tot_small (hs1.out (by simp))
  obtain ⟨-, hxm⟩ := tot_small (hs2.out (by simp))
  have hmm := hxm m (by simp)
  have kx1 := Lib.hid hx1
  clear hs1 hs2 hx1 hxm hB1 hB2 kA kA1 hsz0 kbx2 kbx3 kbx4 kN4 kb34 kb4 kb3 kb23 kb2 kb12
  have hL := Lib.hid (lent_calls (k1.out _ kb5.out) (kT1.out _ kb5.out) (fun x hx => by have := (kx1.out x hx).2; omega) (by omega))
  go_upto_region 6 with (go_at_call 10; refine hL.out.mono ?_; rintro e w6 ⟨g, c, L, rfl, hLl, hLo, hLs, hLc, hLm, hb⟩; have kLl := Lib.hid hLl; have kLo := Lib.hid hLo; have kLs := Lib.hid hLs; have kLm := Lib.hid hLm; have kb56 := Lib.hid hb; clear hLl hLo hLs hLm hb)
  have kb6 := Lib.hid (kb5.out.trans (kb56.out.mono kb5.out.size))
  have kbx6 := Lib.hid ((kb56.out.block _ (heap_lt kbx5.out)).trans kbx5.out)
  obtain ⟨x0, x1, x2, -⟩ := cells3 kbx6.out
  have xl := heap_lt kbx6.out
  have hMs := Lib.hid (show MemsAt w6 (.slice (some ⟨g, 0, none⟩) l.length c) l (fun j => w5.heap.size ≤ j ∧ j < w6.heap.size) from by have h := kLo.out.mems; rwa [kLl.out] at h)
  have hF := Lib.hid (find_calls hMs.out (fun _ h => h.2) (by omega) m.name)
  go_upto_region 7 with (go_at_call 19; refine hF.out.mono ?_; rintro e w7 ⟨rfl, hb⟩; have kb67 := Lib.hid hb; have kbx7 := Lib.hid ((hb.block _ xl).trans kbx6.out); clear hb x0 x1 x2 xl)
  obtain ⟨x0, x1, x2, -⟩ := cells3 kbx7.out
  have xl := heap_lt kbx7.out
  have kb7 := Lib.hid (kb6.out.trans (kb67.out.mono kb6.out.size))
  have hP := Lib.hid (arput_calls (w := w7) (hMs.out.of_heap (w' := w7) (T' := fun j => w5.heap.size ≤ j ∧ j < w6.heap.size) (fun j hj => kb67.out.block j hj.2) (fun _ h => h)) (fun j hj => Nat.lt_of_lt_of_le hj.2 kb67.out.size) (fun x hx => by have := (kx1.out x hx).2; omega) (by omega) m (km.out _ kb7.out) (kTm.out _ kb7.out) (by omega))
  go_upto_region 8 with (go_at_call 20; refine hP.out.mono ?_; rintro e w8 ⟨v8, rfl, hv8, hb⟩; have kv8 := Lib.hid hv8; have kb78 := Lib.hid hb; have kbx8 := Lib.hid ((hb.block _ xl).trans kbx7.out); clear hv8 hb x0 x1 x2 xl)
  obtain ⟨x0, x1, x2, -⟩ := cells3 kbx8.out
  have xl := heap_lt kbx8.out
  have kb8 := Lib.hid (kb7.out.trans (kb78.out.mono kb7.out.size))
  have kb68 := Lib.hid (kb67.out.trans (kb78.out.mono kb67.out.size))
  have hpl : (putP l m).length ≤ 100001 := by unfold putP; split <;> simp <;> omega
  obtain ⟨a8, c8, hv8f⟩ := kv8.out.form
  subst hv8f
  have hSt := Lib.hid (stay_calls (w := w8) kLl.out (kLo.out.keepb kb68.out.block kb68.out.size) (fun x hx => (kLs.out x hx).on (fun j _ hj hne => ⟨kb68.out.block j hj, hne⟩) kb68.out.size) hLc ((kb68.out.cell (p := ⟨g, l.length * 3 + 1, none⟩) (kLo.out.lt g rfl).2).trans kLm.out) (k1.out _ kb8.out) (kT1.out _ kb8.out) (by omega) (fun x hx => by have := (kx1.out x hx).2; omega))
  clear hF hP hL
  have f1 : (placeB l m.name == placeB l m.name) = true := beq_self_eq_true _
  go_wp2_with (fail)
  refine hSt.out.mono ?_
  rintro e w9 ⟨rfl, hb9⟩
  have kb89 := Lib.hid hb9
  have kbx9 := Lib.hid ((hb9.block _ xl).trans kbx8.out)
  clear hb9 x0 x1 x2 xl
  obtain ⟨x0, x1, x2, -⟩ := cells3 kbx9.out
  have xl := heap_lt kbx9.out
  have kb9 := Lib.hid (kb8.out.trans (kb89.out.mono kb8.out.size))
  have hMb := Lib.hid (member_calls (k1.out _ kb9.out) (by omega) m.name)
  have hPM := Lib.hid (putMember_calls (w := w9) (k1.out _ kb9.out) (kT1.out _ kb9.out) (by omega) m (km.out _ kb9.out) (kTm.out _ kb9.out) (by omega))
  go_wp2_with (go_at_call 21; refine hMb.out.mono ?_; rintro e w0 ⟨rfl, rfl⟩)
  refine hPM.out.mono ?_
  rintro e w10 ⟨v10, rfl, hv10, hb10⟩
  have kv10 := Lib.hid hv10
  have kb910 := Lib.hid hb10
  have kbx10 := Lib.hid ((hb10.block _ xl).trans kbx9.out)
  clear hv10 hb10 x0 x1 x2 xl hMb hPM
  have kb810 := Lib.hid (kb89.out.trans (kb910.out.mono kb89.out.size))
  have kb10 := Lib.hid (kb9.out.trans (kb910.out.mono kb9.out.size))
  have hSm := Lib.hid (same_calls (w := w10) (kv8.out.of_heap (w' := w10) (T' := fun j => j < w8.heap.size) (fun j hj => kb810.out.block j hj) (fun _ h => h)) kv10.out (fun j hj => Nat.lt_of_lt_of_le hj kb810.out.size) (fun _ h => h) (by omega) (by omega))
  rw [sameB_true rfl] at hSm
  go_upto_region 9 with (go_at_call 17; refine hSm.out.mono ?_; rintro e w11 ⟨rfl, hb⟩; have kb1011 := Lib.hid hb; clear hb)
  have kb811 := Lib.hid (kb810.out.trans (kb1011.out.mono kb810.out.size))
  have kb11 := Lib.hid (kb10.out.trans (kb1011.out.mono kb10.out.size))
  have kbx11 := Lib.hid ((kb1011.out.block _ (heap_lt kbx10.out)).trans kbx10.out)
  obtain ⟨x0, x1, x2, -⟩ := cells3 kbx11.out
  have xl := heap_lt kbx11.out
  have hF2 := Lib.hid (find_calls (w := w11) (kv8.out.of_heap (w' := w11) (T' := fun j => j < w8.heap.size) (fun j hj => kb811.out.block j hj) (fun _ h => h)) (fun j hj => Nat.lt_of_lt_of_le hj kb811.out.size) (by omega) m.name)
  obtain ⟨at', ha1, ha2, ha3, ha4, -, ha6⟩ := put_place l m
  rw [ha1] at hF2
  go_upto_region 10 with (go_at_call 19; refine hF2.out.mono ?_; rintro e w12 ⟨rfl, hb⟩; have kb1112 := Lib.hid hb; have kbx12 := Lib.hid ((hb.block _ xl).trans kbx11.out); clear hb x0 x1 x2 xl)
  obtain ⟨x0, x1, x2, -⟩ := cells3 kbx12.out
  have xl := heap_lt kbx12.out
  have kb812 := Lib.hid (kb811.out.trans (kb1112.out.mono kb811.out.size))
  have kb12 := Lib.hid (kb11.out.trans (kb1112.out.mono kb11.out.size))
  obtain ⟨ba, oa, da, hda, -, hbl, z0, z1, z2, hzd⟩ := (kv8.out.of_heap (w' := w12) (T' := fun j => j < w8.heap.size) (fun j hj => kb812.out.block j hj) (fun _ h => h)).at ha3
  subst hda
  have hcv1 := bytes_drew hzd
  have hcv2 := bytes_drew (km.out _ kb12.out)
  have hat := (List.getElem?_eq_some_iff.1 ha3).1
  have f2 : ((mk m.data).toList == (mk m.data).toList) = true := beq_self_eq_true _
  have f3 : ((at' : Int) == (at' : Int)) = true := beq_self_eq_true _
  have f4 : (m.date == m.date) = true := beq_self_eq_true _
  have y1 : (at' : Int) < ((putP l m).length : Int) := by omega
  clear hF2 hSm ha1 ha3 hzd
  by_cases hp : placeB l m.name < 0
  · rw [if_pos hp] at ha2
    have e1 : at' = l.length := by omega
    subst e1
    clear ha2 ha4
    go_wp2_with fail
    go_quiet (fail)
    go_wp2_with fail
    go_ret
    exact ⟨rfl, below_drewN' kb12.out nq⟩
  · rw [if_neg hp] at ha2
    rw [← ha2] at hp ⊢
    clear ha2 ha4 ha6
    go_wp2_with fail
    go_quiet (fail)
    go_wp2_with fail
    go_ret
    exact ⟨rfl, below_drewN' kb12.out nq⟩
end
end Go.Proofs.YtnjagoglabllaaaGreatDoor
