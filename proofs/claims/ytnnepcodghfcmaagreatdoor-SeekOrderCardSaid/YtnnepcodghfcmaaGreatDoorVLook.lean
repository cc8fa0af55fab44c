/-
  look, there of a file system. Conditions: texts of at most 2^31 bytes.
-/
import Derived.Test.YtnnepcodghfcmaaGreatDoorVFs2
namespace Go.Proofs.YtnnepcodghfcmaaGreatDoor
open Go.RowKit

theorem mk_empty : mk [] = ⟨#[]⟩ := rfl
theorem mk_isEmpty {q : Bs} (h : q ≠ []) : (mk q).toList.isEmpty = false := by rw [Go.Lib.toList_data, mk_list]; cases q <;> simp_all
theorem lookQ_bad {st : St} {q : Bs} (h : validB q = false) : lookQ st q = .err 16 := by unfold lookQ; rw [if_pos h]
theorem lookQ_root {st : St} : lookQ st [] = .root := by unfold lookQ; rw [if_neg (by decide), if_pos rfl]
theorem lookQ_rest {st : St} {q : Bs} (h : validB q = true) (hq : q ≠ []) : lookQ st q = lookT st q := by
  unfold lookQ; rw [if_neg (by simp [h]), if_neg hq]
theorem root_calls (w : World) : Calls Tryz.prog 24 #[] w fun e w' => e = .returned (.pointer (some ⟨w.heap.size, 0, none⟩)) ∧ w' = w.alloc (.cells #[.bool true, .int .i64 0, .slice none 0 0] 57) := by
  go_enter Tryz.func24, Tryz.ntmps24
  go_wp2
  go_ret
  exact ⟨rfl, rfl⟩
theorem take_get {q : Bs} {k : Nat} (h : k < (mk q).size) : q.drop k = (mk q)[k]'h :: q.drop (k + 1) ∧ q.take (k + 1) = q.take k ++ [(mk q)[k]'h] := by
  have h1 := drop_cons h
  have h2 := drop_take1 h
  rw [mk_list] at h1 h2
  exact ⟨h1, h2⟩
/-- What look's loop keeps. -/
def LookInv (w : World) (f mb : Nat) (N : Bs → Nat) (S : Nat → Prop) (st : St) (clock room : Int) (q : Bs) (k : Nat) (wr : World) : Prop :=
  FsIn wr f mb N S st clock room ∧ Below w.heap.size w wr ∧ chk st (upsFrom (q.take k) (q.drop k)) = chk st (ups q)
theorem ptrAt_none {st : St} {N : Bs → Nat} {p : Bs} (h : find st p = none) : ptrAt st N p = .pointer none := by unfold ptrAt; rw [h]
theorem ptrAt_some {st : St} {N : Bs → Nat} {p : Bs} {n : PN} (h : find st p = some n) : ptrAt st N p = .pointer (some ⟨N p, 0, none⟩) := by unfold ptrAt; rw [h]

set_option maxRecDepth 100000 in
set_option maxHeartbeats 2000000 in
theorem look_calls {f mb : Nat} {N : Bs → Nat} {S : Nat → Prop} {st : St} {clock room : Int} (p : ByteArray) (w : World) (h : FsIn w f mb N S st clock room) (hp : p.size ≤ 2147483647) :
    Calls Tryz.prog 13 #[.pointer (some ⟨f, 0, none⟩), .string p] w fun e w' => ∃ pv ev, e = .returned (.tuple #[.string (mk (clean p.data.toList)), pv, ev]) ∧ LookV N w.heap.size w' (clean p.data.toList) (lookQ st (clean p.data.toList)) pv ev ∧ Below w.heap.size w w' := by
  have hC := Lib.hid (fun w0 => clean_calls p w0 (by omega))
  have hcl := clean_len p.data.toList
  rw [← Go.Lib.size_eq] at hcl
  generalize clean p.data.toList = q at *
  have hqs : (mk q).size ≤ 2147483647 := by rw [mk_size]; omega
  have hV := Lib.hid (fun w0 => valid_calls (mk q) w0 hqs)
  rw [mk_list] at hV
  have hk := Lib.hid h
  have hfs : f < w.heap.size := h.lt f h.sf
  clear h hcl
  by_cases hv : validB q = true
  · rw [hv] at hV
    by_cases hq : q = []
    · subst hq
      rw [lookQ_root]
      rw [mk_empty] at *
      clear hv hqs
      go_enter Tryz.func13, Tryz.ntmps13
      go_wp2_with (first | (go_at_call 23; refine (hC.out _).mono ?_; rintro e w1 ⟨rfl, hb⟩; have kb1 := Lib.hid hb; clear hb) | (go_at_call 21; refine (hV.out _).mono ?_; rintro e w2 ⟨rfl, hb⟩; have kb2 := Lib.hid hb; clear hb) | (go_at_call 24; refine (root_calls _).mono ?_; rintro e w3 ⟨rfl, rfl⟩))
      go_ret3
      have hB := kb1.out.trans (kb2.out.mono kb1.out.size)
      exact ⟨_, _, rfl, ⟨⟨w2.heap.size, hB.size, heap_alloc_new _ _, rfl⟩, rfl⟩, hB.alloc hB.size _⟩
    · rw [lookQ_rest hv hq]
      have he := mk_isEmpty hq
      have kq := Lib.hid hq
      clear hv hq
      generalize hQ : mk q = Q at *
      have kQ := Lib.hid hQ
      have hqs0 : Q.size = q.length := by rw [← hQ, mk_size]
      have kqs := Lib.hid hqs0
      clear hQ hqs0
      go_enter Tryz.func13, Tryz.ntmps13
      go_wp2_with (first | (go_at_call 23; refine (hC.out _).mono ?_; rintro e w1 ⟨rfl, hb⟩; have kb1 := Lib.hid hb; clear hb) | (go_at_call 21; refine (hV.out _).mono ?_; rintro e w2 ⟨rfl, hb⟩; have kb2 := Lib.hid hb; clear hb))
      have hB := Lib.hid (kb1.out.trans (kb2.out.mono kb1.out.size))
      have hI0 : LookInv w f mb N S st clock room q 0 w2 := ⟨hk.out.below hB.out, hB.out, by rw [List.take_zero, List.drop_zero]; rfl⟩
      have kI0 := Lib.hid hI0
      clear kb1 kb2 hB hI0
      go_loopw [25, 7, 8] (fun kv _ _ wr => ∃ k : Nat, k ≤ Q.size ∧ kv = .int .i64 k ∧ LookInv w f mb N S st clock room q k wr) (fun kv _ _ _ => Q.size - (intOf kv).toNat)
      case atStart => exact ⟨0, Nat.zero_le _, rfl, kI0.out⟩
      case round =>
        obtain ⟨k, hkQ, rfl, hI⟩ := hrel
        have kI := Lib.hid hI
        clear hI
        have hc0 := (cells4 kI.out.1.cells).1
        have hfw : f < wr.heap.size := kI.out.1.lt f kI.out.1.sf
        by_cases hlt : k < Q.size
        · have z1 : (0 : Int) ≤ (k : Int) := by omega
          have z2 : (k : Int) ≤ (Q.size : Int) := by omega
          have htk := take_get (q := q) (k := k) (by rw [kQ.out]; exact hlt)
          have hqk : (mk q)[k]'(by rw [kQ.out]; exact hlt) = Q[k]'hlt := by congr 1
          rw [hqk] at htk
          have ktk := Lib.hid htk
          clear htk hqk
          by_cases h47 : Q[k]'hlt = 47
          · have e47 : ((((Q[k]'hlt).toNat : Nat) : Int) != 47) = false := by rw [h47]; rfl
            have hmax : (Q.extract 0 k).size ≤ maxLen := by unfold maxLen; rw [ByteArray.size_extract]; omega
            have hlk := fun n => (kI.out.1.map.of_heap (w' := wr.drewN n) rfl).look (Q.extract 0 k) hmax
            have hex : (Q.extract 0 k).data.toList = q.take k := by rw [← kQ.out, extract_mk, mk_list]
            rw [hex] at hlk
            have hups : upsFrom (q.take k) (q.drop k) = q.take k :: upsFrom (q.take (k + 1)) (q.drop (k + 1)) := by
              rw [ktk.out.1, ktk.out.2, h47, upsFrom_slash]
            have kups := Lib.hid hups
            clear h47 hups hex hmax
            cases hf : find st (q.take k) with
            | none =>
              rw [ptrAt_none hf] at hlk
              have ke := Lib.hid (lookT_err (st := st) (q := q) (e := 10) (by rw [← kI.out.2.2, kups.out]; exact chk_none hf))
              clear hf
              go_wp2_with fail
              go_quiet (fail)
              go_wp2_with fail
              go_ret3
              refine ⟨.pointer none, errV q 10, ?_, ?_, below_drewN' kI.out.2.1 _⟩
              · unfold errV; rw [kQ.out]; rfl
              · rw [ke.out]; exact ⟨rfl, rfl⟩
            | some nd =>
              rw [ptrAt_some hf] at hlk
              obtain ⟨v, hnb, -⟩ := (kI.out.1.node _ nd hf).2.2
              have hn0 := (cells3 hnb).1
              have hnl := heap_lt hnb
              clear hnb
              cases hd : nd.dir with
              | false =>
                rw [hd] at hn0
                have ke := Lib.hid (lookT_err (st := st) (q := q) (e := 11) (by rw [← kI.out.2.2, kups.out]; exact chk_file hf hd))
                clear hf hd
                go_wp2_with fail
                go_quiet (fail)
                go_wp2_with fail
                go_ret3
                refine ⟨.pointer none, errV q 11, ?_, ?_, below_drewN' kI.out.2.1 _⟩
                · unfold errV; rw [kQ.out]; rfl
                · rw [ke.out]; exact ⟨rfl, rfl⟩
              | true =>
                rw [hd] at hn0
                have ke := Lib.hid (chk_dir (r := upsFrom (q.take (k + 1)) (q.drop (k + 1))) hf hd)
                clear hf hd
                go_wp2_with fail
                go_quiet (fail)
                go_wp2_with fail
                go_roundw
                case rel => exact ⟨k + 1, by omega, by go_num, kI.out.1.of_heap (fun _ _ => rfl), below_drewN' kI.out.2.1 _, by rw [← ke.out, ← kups.out]; exact kI.out.2.2⟩
                case measure => simp [intOf]; omega
          · have e47 : ((((Q[k]'hlt).toNat : Nat) : Int) != 47) = true := by
              rw [bne_iff_ne]; intro e; exact h47 (byte_eq (n := 47) e (by omega))
            have hups : upsFrom (q.take k) (q.drop k) = upsFrom (q.take (k + 1)) (q.drop (k + 1)) := by
              rw [ktk.out.1, ktk.out.2, upsFrom, if_neg h47]
            have kups := Lib.hid hups
            clear h47 hups
            go_wp2
            go_roundw
            case rel => exact ⟨k + 1, by omega, by go_num, kI.out.1, kI.out.2.1, by rw [← kups.out]; exact kI.out.2.2⟩
            case measure => simp [intOf]; omega
        · have hkq : k = q.length := by rw [← kqs.out]; omega
          have hch : chk st (ups q) = none := by
            have := kI.out.2.2
            rw [← this, hkq, List.drop_length]; rfl
          have hmax : Q.size ≤ maxLen := by unfold maxLen; omega
          have hlk := fun n => (kI.out.1.map.of_heap (w' := wr.drewN n) rfl).look Q hmax
          have hex : Q.data.toList = q := by rw [← kQ.out, mk_list]
          rw [hex] at hlk
          clear hkq hmax hex
          cases hf : find st q with
          | none =>
            rw [ptrAt_none hf] at hlk
            have ke := Lib.hid (lookT_none hch hf)
            clear hf hch
            go_wp2_with fail
            go_quiet (fail)
            go_wp2_with fail
            go_ret3
            exact ⟨.pointer none, .nilIface, rfl, by rw [ke.out]; exact ⟨rfl, rfl⟩, below_drewN' kI.out.2.1 _⟩
          | some nd =>
            rw [ptrAt_some hf] at hlk
            have ke := Lib.hid (lookT_some hch hf)
            clear hf hch
            go_wp2_with fail
            go_quiet (fail)
            go_wp2_with fail
            go_ret3
            exact ⟨.pointer (some ⟨N q, 0, none⟩), .nilIface, rfl, by rw [ke.out]; exact ⟨rfl, rfl⟩, below_drewN' kI.out.2.1 _⟩
  · have hv' : validB q = false := by simpa using hv
    rw [hv'] at hV
    have he := Lib.hid (lookQ_bad (st := st) hv')
    clear hv hv'
    generalize hQ : mk q = Q at *
    have kQ := Lib.hid hQ
    clear hQ
    go_enter Tryz.func13, Tryz.ntmps13
    go_wp2_with (first | (go_at_call 23; refine (hC.out _).mono ?_; rintro e w1 ⟨rfl, hb⟩; have kb1 := Lib.hid hb; clear hb) | (go_at_call 21; refine (hV.out _).mono ?_; rintro e w2 ⟨rfl, hb⟩; have kb2 := Lib.hid hb; clear hb))
    go_ret3
    refine ⟨.pointer none, errV q 16, ?_, ?_, kb1.out.trans (kb2.out.mono kb1.out.size)⟩
    · unfold errV; rw [kQ.out]; rfl
    · rw [he.out]; exact ⟨rfl, rfl⟩
end Go.Proofs.YtnnepcodghfcmaaGreatDoor
