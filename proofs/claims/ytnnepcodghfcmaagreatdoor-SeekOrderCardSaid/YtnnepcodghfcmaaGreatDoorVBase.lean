/-
  Small lemmas on bytes, strings, worlds and slices of strings that this seat's other walks use. No condition of its own.
-/
import Derived.Test.YtnnepcodghfcmaaGreatDoorProg
import Derived.WalkKit
import Derived.WalkSpells
import Derived.WalkLawsBesides
import Derived.Lib.Hide
import Derived.Lib.IndexBytes
import Derived.Deep.QuietTactic
import Derived.BigQuiet
import Derived.Laws.OwnMore
import Derived.Lib.AppendStr
import Derived.Laws.BytesArg
import Derived.Outline
import Derived.WalkSmall
import Derived.Lib.MapLaws
import Derived.Deep.RegionHeld3
import Derived.Deep.AppendLies
import Derived.Test.YtnnepcodghfcmaaGreatDoorVPure
namespace Go.Proofs.YtnnepcodghfcmaaGreatDoor
open Go.RowKit

theorem drop_cons {p : ByteArray} {j : Nat} (h : j < p.size) : p.data.toList.drop j = p[j] :: p.data.toList.drop (j + 1) := by
  rw [List.drop_eq_getElem_cons (by rw [← Go.Lib.size_eq]; exact h)]; rfl
theorem heap_lt {w : World} {b : Nat} {o : Obj} (h : w.heap[b]? = some o) : b < w.heap.size := (Array.getElem?_eq_some_iff.1 h).1
theorem cells_new (w : World) (vs : List Value) (t : TypeId) : ∀ (j : Nat) (u : Value), vs[j]? = some u → (w.alloc (Obj.cells vs.toArray t)).cell? ((⟨w.heap.size, 0, none⟩ : Addr).add j) = some u := by
  intro j u h
  have e : (⟨w.heap.size, 0, none⟩ : Addr).add j = ⟨w.heap.size, j, none⟩ := by unfold Addr.add; split <;> simp_all
  rw [e]
  unfold World.cell?
  rw [heap_alloc_new]
  simpa using h
theorem byte_eq {c : UInt8} {n : Nat} (h : (c.toNat : Int) = n) (hn : n < 256) : c = n.toUInt8 :=
  UInt8.toNat_inj.1 (by have : c.toNat = n := by omega
                        rw [this]; simp; omega)
theorem _root_.Go.RowKit.Below.mono' {w w1 w2 : World} (h : Below w1.heap.size w1 w2) (hb : Below w.heap.size w w1) : Below w.heap.size w w2 := hb.trans (h.mono hb.size)
theorem below_drewN' {B : Nat} {a w : World} (h : Below B a w) (n : Nat) : Below B a (w.drewN n) := h.trans ⟨rfl, rfl, rfl, Nat.le_refl _, fun _ _ => rfl⟩
theorem ba_ext {a b : ByteArray} (h : a.data.toList = b.data.toList) : a = b := by
  cases a with | mk a => cases b with | mk b => cases a with | mk a => cases b with | mk b => simp at h; subst h; rfl
theorem ba_back (s : ByteArray) : (⟨s.data.toList.toArray⟩ : ByteArray) = s := ba_ext (by simp)
theorem ba_append (a b : ByteArray) : (a ++ b).data.toList = a.data.toList ++ b.data.toList := by rw [ByteArray.data_append, Array.toList_append]
theorem ba_ne {a b : ByteArray} (h : a ≠ b) : (a.toList == b.toList) = false := by
  rw [beq_eq_false_iff_ne, Go.Lib.toList_data, Go.Lib.toList_data]
  exact fun e => h (ba_ext e)
theorem drop_take1 {p : ByteArray} {j : Nat} (h : j < p.size) : p.data.toList.take (j + 1) = p.data.toList.take j ++ [p[j]] := by
  rw [List.take_succ_eq_append_getElem (by rw [← Go.Lib.size_eq]; exact h)]; rfl
theorem extract_one {p : ByteArray} {j : Nat} (h : j < p.size) : (p.extract j (j + 1)).data.toList = [p[j]] := by
  rw [Go.Lib.extract_data, show j + 1 - j = 1 by omega, drop_cons h]; rfl
theorem below_al {w w1 : World} {o : Obj} (h : Below w.heap.size w w1) : Below w.heap.size w (w1.alloc o) := h.alloc h.size _
/-- A slice of strings that reads as a list: whoever owns it. -/
def StrsAt (w : World) (v : Value) (l : List ByteArray) : Prop :=
  ∃ (a : Option Addr) (n c : Nat), v = .slice a n c ∧ n = l.length ∧ n ≤ c ∧ c ≤ maxLen ∧
    (0 < n → ∃ b off, a = some ⟨b, off, none⟩ ∧ b < w.heap.size ∧ ∀ (k : Nat) (s : ByteArray), l[k]? = some s → w.cell? ⟨b, off + k, none⟩ = some (.string s)) ∧ (a = none → c = 0)
theorem StrsAt.below {w w' : World} {v : Value} {l : List ByteArray} (h : StrsAt w v l) (hb : Below w.heap.size w w') : StrsAt w' v l := by
  obtain ⟨a, n, c, h1, h2, h3, h3', h4, h5⟩ := h
  refine ⟨a, n, c, h1, h2, h3, h3', fun hn => ?_, h5⟩
  obtain ⟨b, off, ha, hl, hc⟩ := h4 hn
  exact ⟨b, off, ha, Nat.lt_of_lt_of_le hl hb.size, fun k s hk => (hb.cell (p := ⟨b, off + k, none⟩) hl).trans (hc k s hk)⟩
def scells (l : List ByteArray) : List Value := l.map Value.string
theorem strsAt_own {w : World} {base : Nat} {v : Value} {l : List ByteArray} (h : w.ownsRow base 9 1 v l.length (scells l)) : StrsAt w v l := by
  have hc := fun g => h.cells (g := g)
  obtain ⟨hl, h⟩ := h
  rcases h with ⟨rfl, hn⟩ | ⟨g, cap, cur, rfl, hb, hg, hn, hm, _⟩
  · exact ⟨none, 0, 0, rfl, hn.symm, Nat.le_refl _, Nat.zero_le _, fun h => absurd h (Nat.lt_irrefl _), fun _ => rfl⟩
  · have ad : ∀ j, (⟨g, 0, none⟩ : Addr).add j = ⟨g, j, none⟩ := fun j => by unfold Addr.add; split <;> simp_all
    refine ⟨_, _, _, rfl, rfl, hn, hm, fun _ => ⟨g, 0, rfl, heap_lt hg, fun k s hk => ?_⟩, fun h => by cases h⟩
    rw [Nat.zero_add, ← ad]
    exact hc g rfl k _ (by simp [scells, hk])
theorem ba_eq_iff {a b : ByteArray} : (a.toList = b.toList) ↔ a = b := by
  rw [Go.Lib.toList_data, Go.Lib.toList_data]
  exact ⟨ba_ext, fun h => by rw [h]⟩
theorem ba_beq (a b : ByteArray) : (a.toList == b.toList) = decide (a = b) := by
  rw [Bool.eq_iff_iff, beq_iff_eq, decide_eq_true_eq, ba_eq_iff]
theorem getElem_split {α : Type} {l : List α} {k : Nat} {x : α} (h : l[k]? = some x) : l.drop k = x :: l.drop (k + 1) := by
  have hk := (List.getElem?_eq_some_iff.1 h).1
  rw [List.drop_eq_getElem_cons hk, (List.getElem?_eq_some_iff.1 h).2]
theorem take_more {α : Type} {l : List α} {n : Nat} {x : α} (h : l[n]? = some x) : l.take (n + 1) = l.take n ++ [x] := by
  rw [List.take_add_one, h]; rfl
theorem infoStr : (Tryz.prog.info? 9).map (fun i => (i.zero, i.size, i.bytes)) = some (some (.string ⟨#[]⟩), 1, 16) := by kernel_rfl

theorem strs_block (w : World) (t : TypeId) (cs : Array Value) (n g : Nat) (l : List ByteArray) (hc : cs = (scells l).toArray) (hn : n = l.length) (hg : g = w.heap.size) (hm : n ≤ 100) : StrsAt (w.alloc (.cells cs t)) (.slice (some ⟨g, 0, none⟩) n n) l := by
  subst hc hn hg
  refine ⟨_, _, _, rfl, rfl, Nat.le_refl _, by unfold maxLen; omega, fun _ => ⟨w.heap.size, 0, rfl, by simp, fun k s hs => ?_⟩, fun h => by cases h⟩
  unfold World.cell?
  rw [heap_alloc_new]
  simp only [Option.isSome_none, Bool.false_eq_true, if_false]
  simp [scells, hs]

/-- Is a text in a list? -/
def inL (x : ByteArray) : List ByteArray → Bool
  | [] => false
  | y :: l => decide (y = x) || inL x l
theorem inL_iff {x : ByteArray} : ∀ {l : List ByteArray}, inL x l = true ↔ x ∈ l
  | [] => by simp [inL]
  | y :: l => by simp only [inL, Bool.or_eq_true, decide_eq_true_eq, inL_iff, List.mem_cons]; exact ⟨fun h => h.imp Eq.symm id, fun h => h.imp Eq.symm id⟩


theorem bcell {W w1 : World} (hb : Below W.heap.size W w1) : (∀ b o, b < W.heap.size → w1.cell? ⟨b, o, none⟩ = W.cell? ⟨b, o, none⟩) ∧ (∀ b o, b < W.heap.size → w1.frozen? ⟨b, o, none⟩ = W.frozen? ⟨b, o, none⟩) :=
  ⟨fun b o h => hb.cell (p := ⟨b, o, none⟩) h, fun b o h => hb.frozen (p := ⟨b, o, none⟩) h⟩
/-- A list of bytes as a string. -/
def mk (l : Bs) : ByteArray := ⟨l.toArray⟩
theorem mk_list (l : Bs) : (mk l).data.toList = l := by simp [mk]
theorem mk_back (s : ByteArray) : mk s.data.toList = s := ba_ext (by simp [mk])
theorem mk_inj {a b : Bs} (h : mk a = mk b) : a = b := by rw [← mk_list a, h, mk_list]
theorem mk_size (l : Bs) : (mk l).size = l.length := by rw [Go.Lib.size_eq, mk_list]

/-- A step of the decoding at a byte that is no ASCII: none of its bytes is a slash. -/
theorem decode_far (s : ByteArray) (pos : Nat) (h : pos < s.size) (ha : 128 ≤ (s[pos]'h).toNat) :
    1 ≤ (Utf8.decode s pos).2 ∧ pos + (Utf8.decode s pos).2 ≤ s.size ∧ (∀ c ∈ (s.data.toList.drop pos).take (Utf8.decode s pos).2, 128 ≤ c.toNat) ∧ 128 ≤ (Utf8.decode s pos).1 := by
  have hh := decode_high s pos h ha
  have hg : ∀ k, pos + k < s.size → (s.data.toList.drop pos)[k]? = some (s.get! (pos + k)) := by
    intro k hk
    rw [List.getElem?_drop, List.getElem?_eq_getElem (by rw [← Go.Lib.size_eq]; exact hk)]
    simp [ByteArray.get!, getElem!_pos, hk]
  have h0 : s.get! (pos + 0) = s[pos]'h := get_at s pos h
  have mem : ∀ d c, c ∈ (s.data.toList.drop pos).take d → pos + d ≤ s.size → ∃ k, k < d ∧ c = s.get! (pos + k) := by
    intro d c hc hd
    obtain ⟨k, hk, e⟩ := List.getElem_of_mem hc
    have hk' : k < d := by simp at hk; omega
    refine ⟨k, hk', ?_⟩
    have := hg k (by omega)
    rw [List.getElem_take] at e
    rw [List.getElem?_eq_getElem (by simp; omega)] at this
    rw [← e]; exact Option.some.inj this
  rw [Go.Lib.decode_at] at hh ⊢
  rcases Go.Lib.decodeN_shape (s.size - pos) (s.get! pos).toNat (s.get! (pos + 1)).toNat (s.get! (pos + 2)).toNat (s.get! (pos + 3)).toNat with ⟨hb, e⟩ | ⟨hb, hn, h1, _, e⟩ | ⟨hb, hn, h1, h2, _, _, e⟩ | ⟨hb, hn, h1, h2, h3, _, _, e⟩ | e
  · rw [Nat.add_zero] at h0; rw [h0] at hb; omega
  all_goals
    rw [e] at hh ⊢
    dsimp only at hh ⊢
    refine ⟨by omega, by omega, fun c hc => ?_, hh.1⟩
    obtain ⟨k, hk, rfl⟩ := mem _ c hc (by omega)
    rw [Nat.add_zero] at h0
    rcases (show k = 0 ∨ k = 1 ∨ k = 2 ∨ k = 3 by omega) with rfl | rfl | rfl | rfl
    · rw [Nat.add_zero, h0]; exact ha
    all_goals first | (exfalso; omega) | omega
end Go.Proofs.YtnnepcodghfcmaaGreatDoor
