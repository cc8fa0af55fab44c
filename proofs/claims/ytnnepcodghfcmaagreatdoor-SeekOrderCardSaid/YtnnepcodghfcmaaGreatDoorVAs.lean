/-
  number of a failure: errors.As at a concrete target, through one Unwrap. (After the kit's ToyasAs.) Conditions: the library's variable errorType is laid.
-/
import Derived.Test.YtnnepcodghfcmaaGreatDoorVFs2
import Derived.LaidEql
import Derived.Stop.Asserts
import Derived.RowKitTokens
namespace Go.Proofs.YtnnepcodghfcmaaGreatDoor
open Go.RowKit Go.Extern.Stop Go.Stop Go.Extern

/-- The library's variable is laid. -/
def Laid (w : World) : Prop := w.cell? ⟨0, 0, none⟩ = some (.iface 132 (.agg #[.pointer (some ⟨9, 59, none⟩)]))
theorem Laid.lt {w : World} (h : Laid w) : 0 < w.heap.size := World.block_lt_of_cell? w _ h
theorem Laid.below {w w' : World} {B : Nat} (h : Laid w) (hB : 0 < B) (hb : Below B w w') : Laid w' := (hb.cell (p := ⟨0, 0, none⟩) hB).trans h

theorem valueOfT (t : Addr) (w : World) : (ReflectliteValue.unpack (.iface 78 (.pointer (some t)))).run Tryz.prog w
    = .ok (.agg #[.pointer (some ⟨9, 78, none⟩), .pointer (some ⟨w.heap.size, 0, none⟩), .int .u64 150]) (w.alloc (.cells #[.pointer (some t)] 78)) := by kernel_rfl
theorem typeT (a : Addr) (w : World) : (ReflectliteValue.methodAny (ReflectliteValue.valueError "reflectlite.Value.Type" 0) (fun t _ _ _ => ReflectliteType.toType t) #[.agg #[.pointer (some ⟨9, 78, none⟩), .pointer (some a), .int .u64 150]]).run Tryz.prog w
    = .ok (.iface 132 (.agg #[.pointer (some ⟨9, 78, none⟩)])) w := by kernel_rfl
theorem methodKind (h : Value) (w : World) : (Go.method 358 132 (.agg #[h]) "Kind").run Tryz.prog w = .ok (154, h) w := by kernel_rfl
theorem kindT (w : World) : ((ReflectliteType.abiMethod fun t => (fun a : Nat => Value.int IntKind.u8 (a : Int)) <$> Rtype.kind t) #[.pointer (some ⟨9, 78, none⟩)]).run Tryz.prog w = .ok (.int .u8 22) w := by kernel_rfl
theorem kindE (w : World) : ((ReflectliteType.abiMethod fun t => (fun a : Nat => Value.int IntKind.u8 (a : Int)) <$> Rtype.kind t) #[.pointer (some ⟨9, 24, none⟩)]).run Tryz.prog w = .ok (.int .u8 2) w := by kernel_rfl
theorem partsT (a : Addr) (w : World) : (ReflectliteValue.parts (.agg #[.pointer (some ⟨9, 78, none⟩), .pointer (some a), .int .u64 150])).run Tryz.prog w = .ok (some (78, a, 150)) w := by kernel_rfl
theorem isNilT (a p : Addr) (W : World) (ha : W.cell? a = some (.pointer (some p))) :
    (ReflectliteValue.method (ReflectliteValue.valueError "reflectlite.Value.IsNil" 0) ReflectliteValue.isNil #[.agg #[.pointer (some ⟨9, 78, none⟩), .pointer (some a), .int .u64 150]]).run Tryz.prog W = .ok (.bool false) W := by
  change (Bind.bind (ReflectliteValue.parts _) _ : Sem Value).run Tryz.prog W = _
  simp only [Array.getLit, Sem.run_bind, List.getElem_toArray, List.getElem_cons_zero, partsT, Result.andThen]
  simp [ReflectliteValue.isNil, loadVar, isAgg, underlying, Tryz.underlying78, ha, Result.andThen]
theorem methodElem (h : Value) (w : World) : (Go.method 358 132 (.agg #[h]) "Elem").run Tryz.prog w = .ok (169, .agg #[h]) w := by kernel_rfl
theorem methodImplements (h : Value) (w : World) : (Go.method 358 132 (.agg #[h]) "Implements").run Tryz.prog w = .ok (170, .agg #[h]) w := by kernel_rfl
theorem methodAssignableTo (h : Value) (w : World) : (Go.method 358 132 (.agg #[h]) "AssignableTo").run Tryz.prog w = .ok (167, .agg #[h]) w := by kernel_rfl
theorem methodUnwrap (p : ByteArray) (v : Value) (w : World) : (Go.method 358 75 (.agg #[.string p, v]) "Unwrap").run Tryz.prog w = .ok (159, .agg #[.string p, v]) w := by kernel_rfl
theorem elemT (w : World) : (ReflectliteType.method ReflectliteType.elem #[.agg #[.pointer (some ⟨9, 78, none⟩)]]).run Tryz.prog w = .ok (.iface 132 (.agg #[.pointer (some ⟨9, 24, none⟩)])) w := by kernel_rfl
theorem implementsE (w : World) : (ReflectliteType.relation "Implements" ReflectliteType.implements_ #[.agg #[.pointer (some ⟨9, 24, none⟩)], .iface 132 (.agg #[.pointer (some ⟨9, 59, none⟩)])]).run Tryz.prog w = .ok (.bool true) w := by kernel_rfl
theorem typeOfE (v : Value) (w : World) : (ReflectliteType.typeOf #[.iface 24 v]).run Tryz.prog w = .ok (.iface 132 (.agg #[.pointer (some ⟨9, 24, none⟩)])) w := by kernel_rfl
theorem typeOfF (v : Value) (w : World) : (ReflectliteType.typeOf #[.iface 75 v]).run Tryz.prog w = .ok (.iface 132 (.agg #[.pointer (some ⟨9, 75, none⟩)])) w := by kernel_rfl
theorem assignableE (w : World) : (ReflectliteType.relation "AssignableTo" ReflectliteType.assignableTo #[.agg #[.pointer (some ⟨9, 24, none⟩)], .iface 132 (.agg #[.pointer (some ⟨9, 24, none⟩)])]).run Tryz.prog w = .ok (.bool true) w := by kernel_rfl
theorem assignableF (w : World) : (ReflectliteType.relation "AssignableTo" ReflectliteType.assignableTo #[.agg #[.pointer (some ⟨9, 75, none⟩)], .iface 132 (.agg #[.pointer (some ⟨9, 24, none⟩)])]).run Tryz.prog w = .ok (.bool false) w := by kernel_rfl
theorem valueOfE (e : Int) (w : World) : (ReflectliteValue.unpack (.iface 24 (.int .i64 e))).run Tryz.prog w
    = .ok (.agg #[.pointer (some ⟨9, 24, none⟩), .pointer (some ⟨w.heap.size, 0, none⟩), .int .u64 130]) (w.alloc (.cells #[.int .i64 e] 24)) := by kernel_rfl
theorem elemOfT (w : World) : (Rtype.elem? 78).run Tryz.prog w = .ok (some 24) w := by kernel_rfl
theorem mkE (p : Addr) (w : World) : (ReflectliteValue.mk 24 p ReflectliteValue.flagAddr).run Tryz.prog w = .ok (.agg #[.pointer (some ⟨9, 24, none⟩), .pointer (some p), .int .u64 386]) w := by kernel_rfl
theorem elemV (a p : Addr) (W : World) (ha : W.cell? a = some (.pointer (some p))) :
    (ReflectliteValue.method (ReflectliteValue.valueError "reflectlite.Value.Elem" 0) ReflectliteValue.elem #[.agg #[.pointer (some ⟨9, 78, none⟩), .pointer (some a), .int .u64 150]]).run Tryz.prog W
      = .ok (.agg #[.pointer (some ⟨9, 24, none⟩), .pointer (some p), .int .u64 386]) W := by
  change (Bind.bind (ReflectliteValue.parts _) _ : Sem Value).run Tryz.prog W = _
  simp only [Array.getLit, Sem.run_bind, List.getElem_toArray, List.getElem_cons_zero, partsT, Result.andThen]
  simp [ReflectliteValue.elem, loadVar, isAgg, underlying, Tryz.underlying78, ha, Result.andThen, elemOfT, mkE]
theorem partsEa (a : Addr) (w : World) : (ReflectliteValue.parts (.agg #[.pointer (some ⟨9, 24, none⟩), .pointer (some a), .int .u64 386])).run Tryz.prog w = .ok (some (24, a, 386)) w := by kernel_rfl
theorem partsE (a : Addr) (w : World) : (ReflectliteValue.parts (.agg #[.pointer (some ⟨9, 24, none⟩), .pointer (some a), .int .u64 130])).run Tryz.prog w = .ok (some (24, a, 130)) w := by kernel_rfl
theorem directE (w : World) : (Rtype.directlyAssignable 24 24).run Tryz.prog w = .ok true w := by kernel_rfl
theorem setE (ta b : Addr) (e : Int) (old : Value) (W : World) (hb : W.cell? b = some (.int .i64 e)) (ht : W.cell? ta = some old) (hf : W.frozen? ta = false) :
    (ReflectliteValue.set #[.agg #[.pointer (some ⟨9, 24, none⟩), .pointer (some ta), .int .u64 386], .agg #[.pointer (some ⟨9, 24, none⟩), .pointer (some b), .int .u64 130]]).run Tryz.prog W
      = .ok (.tuple #[]) (W.setCell ta (.int .i64 e)) := by
  change (Bind.bind (ReflectliteValue.parts _) _ : Sem Value).run Tryz.prog W = _
  simp only [Array.getLit, Sem.run_bind, List.getElem_toArray, List.getElem_cons_zero, List.getElem_cons_succ, partsEa, partsE, Result.andThen]
  simp [ReflectliteValue.flagAddr, loadVar, isAgg, underlying, Tryz.underlying24, hb, Result.andThen, directE, storeVar, Value.cells, storeCells, Addr.add]
  rw [run_store Tryz.prog W ta _ _ (by rfl)]
  simp [ht, hf]
theorem noAsF (v : Value) (xT : TypeId) (w : World) : (Instr.typeAssert (.iface 75 v) xT 136 true).run Tryz.prog w = .ok (.tuple #[.nilIface, .bool false]) w := run_typeAssert_lacksB Tryz.underlying136 (by kernel_rfl) (by kernel_rfl) v xT w
theorem hasUnwrapF (v : Value) (xT : TypeId) (w : World) : (Instr.typeAssert (.iface 75 v) xT 139 true).run Tryz.prog w = .ok (.tuple #[.iface 75 v, .bool true]) w := run_typeAssert_hasB Tryz.underlying139 (by kernel_rfl) v xT w
end Go.Proofs.YtnnepcodghfcmaaGreatDoor
