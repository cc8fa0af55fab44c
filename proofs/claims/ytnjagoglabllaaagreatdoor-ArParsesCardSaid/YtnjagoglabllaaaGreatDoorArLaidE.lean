/-
  What the laid errors give a walk. No condition.
-/
import Derived.Test.YtnjagoglabllaaaGreatDoorArLaid
import Derived.Test.YtnjagoglabllaaaGreatDoorArReadC
namespace Go.Proofs.YtnjagoglabllaaaGreatDoor
open Go.ChangeShapes Go.WideShapes Go.ChangeAt Go.RowKit

theorem starErr : "*" ++ "errors.errorString" = "*errors.errorString" := by decide
theorem errRow (u : TypeId) (h : Tryz.prog.typeName? 3 u = some "*errors.errorString") : u = 146 :=
  typeName_ptr_named (nm := "errors.errorString") (by rw [starErr]; kernel_rfl) (by kernel_rfl) (by decide) u (by rw [starErr]; exact h)
theorem err_of_met {W : World} (h : laidMetH Tryz.prog laidL W) : ErrV W := by
  rw [laid_plain] at h
  have h3 : laidMet Tryz.prog (("strconv.ErrSyntax", Rows.laid_strconv_ErrSyntax) :: [("unicode/utf8.first", Rows.laid_unicode_utf8_first)]) W := h.tail.tail.tail.tail.tail
  obtain ⟨a, s, hv, -⟩ := laid_sentinel (g := 1) (ti := 54) (tp := 146) (te := 148) (ts := 9) h3 (by kernel_rfl) (by kernel_rfl) Tryz.underlying54 errRow Tryz.underlying146 Tryz.underlying148 rfl rfl Tryz.underlying9 (by kernel_rfl) (by kernel_rfl)
  have hc : W.cell? ⟨1, 0, none⟩ = some (.iface 146 (.pointer (some a))) := by
    have := World.var?_cell (show Tryz.prog.globalNamed "strconv.ErrSyntax" = some 1 by kernel_rfl) hv 0
    simpa using this
  exact ⟨⟨_, _, hc⟩, World.block_lt_of_cell? W ⟨1, 0, none⟩ hc⟩
end Go.Proofs.YtnjagoglabllaaaGreatDoor
