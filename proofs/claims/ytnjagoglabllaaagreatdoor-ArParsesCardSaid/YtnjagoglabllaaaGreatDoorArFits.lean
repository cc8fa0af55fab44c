/-
  fits. Conditions: names shorter than 4294967281 bytes.
-/
import Derived.Test.YtnjagoglabllaaaGreatDoorArAny
namespace Go.Proofs.YtnjagoglabllaaaGreatDoor
open Go.RowKit

theorem all_hasZ (s : Bs) : (s.all fun c => c != 47 && c != 0 && c != 10) = !hasZ s := by
  rw [Bool.eq_iff_iff]
  unfold hasZ
  simp only [List.all_eq_true, Bool.and_eq_true, bne_iff_ne, ne_eq, Bool.not_eq_true', Bool.or_eq_false_iff, decide_eq_false_iff_not]
  constructor
  · intro h
    exact ⟨⟨fun h0 => (h _ h0).1.1 rfl, fun h0 => (h _ h0).1.2 rfl⟩, fun h0 => (h _ h0).2 rfl⟩
  · rintro ⟨⟨h1, h2⟩, h3⟩ x hx
    exact ⟨⟨fun e => h1 (e ▸ hx), fun e => h2 (e ▸ hx)⟩, fun e => h3 (e ▸ hx)⟩
set_option maxRecDepth 100000 in
set_option maxHeartbeats 4000000 in
theorem fits_calls (m : Mem) (dv : Value) (w : World) (hn : m.name.length ≤ 1048576) (h64 : -9223372036854775808 ≤ m.date ∧ m.date ≤ 9223372036854775807) :
    Calls Tryz.prog 24 #[.agg #[.string (mk m.name), .int .i64 m.date, dv]] w fun e w' => e = .returned (.bool (fairB m)) ∧ Below w.heap.size w w' := by
  have hms : (mk m.name).size = m.name.length := mk_size m.name
  have hCA : Hid (∀ w, Calls Tryz.prog 39 #[.string (mk m.name), .string ⟨#[47, 0, 10]⟩] w fun e w' => e = .returned (.bool (hasZ m.name)) ∧ Below w.heap.size w w') := Lib.hid (fun w => (containsAny_calls (mk m.name) ⟨#[47, 0, 10]⟩ rfl w (by rw [mk_size]; omega)).mono fun e w' h => by rwa [mk_list] at h)
  have kbox := Lib.hid (heap_alloc_new w (.cells #[.string (mk m.name), .int .i64 m.date, dv] 37))
  have kb0 := Lib.hid (below_al (o := .cells #[.string (mk m.name), .int .i64 m.date, dv] 37) (Below.refl w.heap.size w))
  have hf : fairB m = (decide (m.name ≠ []) && decide (m.name.length ≤ 255) && !hasZ m.name && decide (0 ≤ m.date) && decide (m.date < 1000000000000)) := by unfold fairB; rw [all_hasZ]
  have hem : (mk m.name).toList.isEmpty = decide (m.name = []) := by
    by_cases h : m.name = []
    · rw [h, Go.Lib.toList_data]; rfl
    · rw [mk_isEmpty h]; simp [h]
  generalize m.date = d at *
  generalize fairB m = B at *
  generalize mk m.name = S at *
  have hf2 : B = (!S.toList.isEmpty && decide (m.name.length ≤ 255) && !hasZ m.name && decide (0 ≤ d) && decide (d < 1000000000000)) := by rw [hf, hem]; simp
  clear hf hem
  generalize m.name = N at *
  generalize hasZ N = hz at *
  have khf := Lib.hid hf2
  clear hf2
  go_enter Tryz.func24, Tryz.ntmps24
  cases he : S.toList.isEmpty with
  | true =>
    go_wp2_with fail
    go_ret
    exact ⟨by rw [khf.out, he]; rfl, kb0.out⟩
  | false =>
    by_cases hl : N.length ≤ 255
    · have y1 : (N.length : Int) ≤ 255 := by omega
      cases hz with
      | true =>
        go_wp2_with (go_at_call 39; refine (hCA.out _).mono ?_; rintro e w1 ⟨rfl, hb⟩; have kb := Lib.hid hb; clear hb)
        go_ret
        exact ⟨by rw [khf.out]; simp, kb0.out.trans (kb.out.mono kb0.out.size)⟩
      | false =>
        by_cases hd0 : 0 ≤ d
        · by_cases hd1 : d < 1000000000000
          · go_wp2_with (go_at_call 39; refine (hCA.out _).mono ?_; rintro e w1 ⟨rfl, hb⟩; have kb := Lib.hid hb; have kbx := Lib.hid ((hb.block w.heap.size (heap_lt kbox.out)).trans kbox.out); obtain ⟨n0, n1, n2, -⟩ := cells3 kbx.out; clear hb)
            go_ret
            exact ⟨by rw [khf.out, he]; simp [hl, hd0, hd1], kb0.out.trans (kb.out.mono kb0.out.size)⟩
          · go_wp2_with (go_at_call 39; refine (hCA.out _).mono ?_; rintro e w1 ⟨rfl, hb⟩; have kb := Lib.hid hb; have kbx := Lib.hid ((hb.block w.heap.size (heap_lt kbox.out)).trans kbox.out); obtain ⟨n0, n1, n2, -⟩ := cells3 kbx.out; clear hb)
            go_ret
            exact ⟨by rw [khf.out, he]; simp [hl]; omega, kb0.out.trans (kb.out.mono kb0.out.size)⟩
        · go_wp2_with (go_at_call 39; refine (hCA.out _).mono ?_; rintro e w1 ⟨rfl, hb⟩; have kb := Lib.hid hb; have kbx := Lib.hid ((hb.block w.heap.size (heap_lt kbox.out)).trans kbox.out); obtain ⟨n0, n1, n2, -⟩ := cells3 kbx.out; clear hb)
          go_ret
          exact ⟨by rw [khf.out, he]; simp [hl]; omega, kb0.out.trans (kb.out.mono kb0.out.size)⟩
    · have y1 : ¬ (N.length : Int) ≤ 255 := by omega
      go_wp2_with fail
      go_ret
      exact ⟨by rw [khf.out]; simp [hl], kb0.out⟩
end Go.Proofs.YtnjagoglabllaaaGreatDoor
