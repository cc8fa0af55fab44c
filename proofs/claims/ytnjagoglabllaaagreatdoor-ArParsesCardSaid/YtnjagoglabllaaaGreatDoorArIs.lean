/-
  errors.Is at what is wrong of an archive, and at nothing. Conditions: none.
-/
import Derived.Test.YtnjagoglabllaaaGreatDoorArWrite
import Derived.Lib.IfaceEq
import Derived.Stop.Asserts
import Derived.LaidEql
namespace Go.Proofs.YtnjagoglabllaaaGreatDoor
open Go.RowKit Go.Extern.Stop Go.Stop Go.Extern

theorem isComparableE (w : World) : ((ReflectliteType.method fun t => do Rtype.noPackHeld "Comparable" t; (fun a : TypeInfo => Value.bool a.comparable) <$> typeInfo t) #[.agg #[.pointer (some ⟨8, 27, none⟩)]]).run Tryz.prog w = .ok (.bool true) w := by kernel_rfl
theorem isMethodComparable (h : Value) (w : World) : (Go.method 285 91 (.agg #[h]) "Comparable").run Tryz.prog w = .ok (134, .agg #[h]) w := by kernel_rfl
theorem typeOfE (v : Value) (w : World) : (ReflectliteType.typeOf #[.iface 27 v]).run Tryz.prog w = .ok (.iface 91 (.agg #[.pointer (some ⟨8, 27, none⟩)])) w := by kernel_rfl
theorem methodUnwrap (n : Int) (v : Value) (w : World) : (Go.method 285 74 (.agg #[.int .i64 n, v]) "Unwrap").run Tryz.prog w = .ok (130, .agg #[.int .i64 n, v]) w := by kernel_rfl
theorem hasUnwrapF (v : Value) (xT : TypeId) (w : World) : (Instr.typeAssert (.iface 74 v) xT 96 true).run Tryz.prog w = .ok (.tuple #[.iface 74 v, .bool true]) w := run_typeAssert_hasB Tryz.underlying96 (by kernel_rfl) v xT w
theorem noIsF (v : Value) (xT : TypeId) (w : World) : (Instr.typeAssert (.iface 74 v) xT 93 true).run Tryz.prog w = .ok (.tuple #[.nilIface, .bool false]) w := run_typeAssert_lacksB Tryz.underlying93 (by kernel_rfl) (by kernel_rfl) v xT w
theorem unwrap_calls (n : Int) (v : Value) (w : World) : Calls Tryz.prog 130 #[.agg #[.int .i64 n, v]] w fun e w' => e = .returned v ∧ Below w.heap.size w w' := by
  go_enter Tryz.func130, Tryz.ntmps130
  go_wp2
  go_ret
  exact ⟨rfl, below_al (Below.refl _ _)⟩
set_option maxRecDepth 100000 in
set_option maxHeartbeats 8000000 in
theorem isIn_calls (n e : Int) (w : World) :
    Calls Tryz.prog 51 #[.iface 74 (.agg #[.int .i64 n, .iface 27 (.int .i64 e)]), .iface 27 (.int .i64 e), .bool true] w fun ev w' => ev = .returned (.bool true) ∧ Below w.heap.size w w' := by
  have e1 := run_eql_iface_types (P := Tryz.prog) 74 27 (.agg #[.int .i64 n, .iface 27 (.int .i64 e)]) (.int .i64 e) Tryz.underlying54 (by decide)
  have mU := methodUnwrap
  have nF := noIsF
  have hU := hasUnwrapF
  have e2 := fun w => Go.Lib.run_eql_iface_int (P := Tryz.prog) w (tx := 27) (k := .i64) e e Tryz.underlying54 (by kernel_rfl) Tryz.underlying27
  have hb : (e == e) = true := beq_self_eq_true e
  go_enter Tryz.func51, Tryz.ntmps51
  go_wp2
  refine wp_loop_rounds 2 ?_
  rw [rounds_succ]
  go_wp2_with (go_at_call 130; refine (unwrap_calls n _ _).mono ?_; rintro e1 w1 ⟨rfl, hb1⟩; have kb1 := Lib.hid hb1; clear hb1)
  rw [rounds_succ]
  go_wp2
  go_ret
  exact ⟨rfl, kb1.out⟩
set_option maxRecDepth 100000 in
set_option maxHeartbeats 8000000 in
theorem is_calls (n e : Int) (w : World) :
    Calls Tryz.prog 32 #[.iface 74 (.agg #[.int .i64 n, .iface 27 (.int .i64 e)]), .iface 27 (.int .i64 e)] w fun ev w' => ev = .returned (.bool true) ∧ Below w.heap.size w w' := by
  have hT := @run_callFunc_extern Tryz.prog 50 _ ReflectliteType.typeOf Tryz.func50 (by kernel_rfl) (by kernel_rfl) (by kernel_rfl) (by kernel_rfl)
  have hC := @run_callFunc_extern Tryz.prog 134 _ (ReflectliteType.method fun t => do Rtype.noPackHeld "Comparable" t; pure (.bool (← typeInfo t).comparable)) Tryz.func134 (by kernel_rfl) (by kernel_rfl) (by kernel_rfl) (by kernel_rfl)
  have tE := typeOfE
  have cE := isComparableE
  have mC := isMethodComparable
  have kI := Lib.hid (isIn_calls n e w)
  go_enter Tryz.func32, Tryz.ntmps32
  go_wp2_with (go_at_call 51; refine kI.out.mono ?_; rintro e1 w1 ⟨rfl, hb⟩; have kb := Lib.hid hb; clear hb)
  go_ret
  exact ⟨rfl, kb.out⟩
set_option maxRecDepth 100000 in
set_option maxHeartbeats 8000000 in
theorem is_none (e : Int) (w : World) :
    Calls Tryz.prog 32 #[.nilIface, .iface 27 (.int .i64 e)] w fun ev w' => ev = .returned (.bool false) ∧ w = w' := by
  have h := fun w => (run_eql_iface_nil_left (P := Tryz.prog) (w := w) 27 (.int .i64 e) Tryz.underlying54)
  go_enter Tryz.func32, Tryz.ntmps32
  go_wp2
  go_ret
  exact ⟨rfl, rfl⟩
end Go.Proofs.YtnjagoglabllaaaGreatDoor
