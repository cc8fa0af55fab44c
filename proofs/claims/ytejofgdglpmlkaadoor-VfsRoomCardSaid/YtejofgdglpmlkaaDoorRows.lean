/-
  NARROWER THAN 'FOR EVERY INPUT', by the rows' own cells (each row's printed sentence says how): VfsMany: laid · VfsRoom: laid.
  DERIVED. THE GIVEN ROWS OF THIS SEAT. 2 by the template 'for every input the law returns true; each argument reads behind the call as it read before'; 0 by the template 'total and deterministic' (their statements: YtejofgdglpmlkaaDoorTotals.lean).
  GIVEN WITH THE SEED: the statements are not yours to turn. If you find one false, say at which input.
  Laid BY PROGRAM, IN A SANDBOX (cutbox-rows.mjs): the forced cells as the released guide's own fill.sh prints them over the translation c2632df8cb64a5a4… (all of the seat's roots in one cut). By AI agents, Wed Nov 11 2026. No macro, syntax, notation, axiom, sorry.
-/
import Derived.Test.YtejofgdglpmlkaaDoorChecked
import GoSem.Claim
import GoSem.ClaimJoined
import GoSem.ClaimMapViews
import Derived.JoinedTies
import Derived.KernelRfl
namespace Go.Proofs.YtejofgdglpmlkaaDoor
/- THE CELL 'sum', in the pinned program and in every row, IS THE sha256 OF THE DUMP (.gsa) THAT YtejofgdglpmlkaaDoorProg.lean LOADS. Nothing in Lean hashes anything: it is a label: what it is worth is what the hold of that sum in a sandbox is worth. -/
noncomputable def Tryd.pinned : Pinned := { name := "ytejofgdglpmlkaadoor", sum := "c2632df8cb64a5a404aae1cf163fc100fd47b6bd0b8fd507d5eec95e3980ca15", checked := Tryd.checked }
namespace Rows
def none {H : Type} : Left H := { results := [], args := [] }

/- WHAT THE LISTED PACKAGE-LEVEL VARIABLES READ AS WHEN THE CALL BEGINS. Each datum BY PROGRAM (the guide's laid-datum.mjs) off the statement by which the dump's own 'gosem.cut.vars' lays the variable. In a bare row this is a premise. The card (YtejofgdglpmlkaaDoorCards.lean) ties it to the program's text. -/
def laid_errors_errorType {H : Type} : DataW H := .iface "internal/reflectlite.rtype" (.agg [.ptr (.lit (.string [101, 114, 114, 111, 114]))])

/-- 'anvillaw5.VfsMany': WHATEVER THE INPUT: true; the input reads as it did. -/
def vfsManySpec : ChangeSpec := { name := "vfsMany", fn := fun _ => fun
  | [d1, d2] => { results := [.lit (.bool true)], args := [d1, d2] }
  | _ => none }
def vfsManyRow : OpenClaim := { program := "ytejofgdglpmlkaadoor", sum := "c2632df8cb64a5a404aae1cf163fc100fd47b6bd0b8fd507d5eec95e3980ca15", func := "anvil/anvillaw5.VfsMany", spec := "vfsMany", inPlace := ["internal/abi.NoEscape", "internal/bytealg.MakeNoZero", "internal/bytealg.IndexByteString", "internal/bytealg.IndexString", "internal/reflectlite.ValueOf", "(internal/reflectlite.Value).Type", "(internal/reflectlite.Value).IsNil", "internal/reflectlite.TypeOf", "(internal/reflectlite.Value).Elem", "(internal/reflectlite.Value).Set"], unfollowed := true, recurses := true, named := ["errors.errorType", "internal/bytealg.MaxLen"], apart := false, laid := [("errors.errorType", laid_errors_errorType)] }
def VfsManySaid : Prop := vfsManyRow.holds Tryd.pinned (OpenSpec.ofChange vfsManySpec)

/-- ITS FALSE NEIGHBOUR: 'it returns false'. Refute it at one input. -/
def vfsManyWrong : ChangeSpec := { name := "vfsMany", fn := fun _ => fun
  | [d1, d2] => { results := [.lit (.bool false)], args := [d1, d2] }
  | _ => none }
def VfsManyWrongFalsely : Prop := vfsManyRow.holds Tryd.pinned (OpenSpec.ofChange vfsManyWrong)

/-- 'anvillaw5.VfsRoom': WHATEVER THE INPUT: true; the input reads as it did. -/
def vfsRoomSpec : ChangeSpec := { name := "vfsRoom", fn := fun _ => fun
  | [d1, d2] => { results := [.lit (.bool true)], args := [d1, d2] }
  | _ => none }
def vfsRoomRow : OpenClaim := { program := "ytejofgdglpmlkaadoor", sum := "c2632df8cb64a5a404aae1cf163fc100fd47b6bd0b8fd507d5eec95e3980ca15", func := "anvil/anvillaw5.VfsRoom", spec := "vfsRoom", inPlace := ["internal/abi.NoEscape", "internal/bytealg.MakeNoZero", "internal/bytealg.IndexByteString", "internal/bytealg.IndexString", "internal/reflectlite.ValueOf", "(internal/reflectlite.Value).Type", "(internal/reflectlite.Value).IsNil", "internal/reflectlite.TypeOf", "(internal/reflectlite.Value).Elem", "(internal/reflectlite.Value).Set"], unfollowed := true, recurses := true, named := ["errors.errorType", "internal/bytealg.MaxLen"], apart := false, laid := [("errors.errorType", laid_errors_errorType)] }
def VfsRoomSaid : Prop := vfsRoomRow.holds Tryd.pinned (OpenSpec.ofChange vfsRoomSpec)

/-- ITS FALSE NEIGHBOUR: 'it returns false'. Refute it at one input. -/
def vfsRoomWrong : ChangeSpec := { name := "vfsRoom", fn := fun _ => fun
  | [d1, d2] => { results := [.lit (.bool false)], args := [d1, d2] }
  | _ => none }
def VfsRoomWrongFalsely : Prop := vfsRoomRow.holds Tryd.pinned (OpenSpec.ofChange vfsRoomWrong)

/- THE SECOND FORM. 'bulk': how many values and letters a reading holds, each counted each time it is reached (what is shared counts as often as it is met; a slice's spare places count too). A statement '..UptoSaid' is the law's where the arguments, and the package variables that the reading takes, are together of bulk at most 1048576: NARROWER than '..Said'. Prove '..Said' where nothing that the law and all that it calls make is longer than what came in: it says more and counts as full. Else prove '..UptoSaid'. A law counts once. -/
mutual
def uptoBulk {H : Type} : DataW H → Nat
  | .lit (.string bytes) => bytes.length + 1
  | .lit _ => 1
  | .nil => 1
  | .ptr d => uptoBulk d + 1
  | .slice elems spare => uptoBulkAll elems + uptoBulkAll spare + 1
  | .agg parts => uptoBulkAll parts + 1
  | .iface _ d => uptoBulk d + 1
  | .map entries => uptoBulkEntries entries + 1
  | .held _ => 1
def uptoBulkAll {H : Type} : List (DataW H) → Nat
  | [] => 0
  | d :: r => uptoBulk d + uptoBulkAll r
def uptoBulkEntries {H : Type} : List (Lit × DataW H) → Nat
  | [] => 0
  | x :: r => uptoBulkEntry x + uptoBulkEntries r
def uptoBulkEntry {H : Type} : Lit × DataW H → Nat
  | (.string bytes, d) => bytes.length + uptoBulk d + 1
  | (_, d) => uptoBulk d + 1
 end
def uptoSmall : (H : Type) → List (DataW H) → Bool := fun _ ds => decide (uptoBulkAll ds ≤ 1048576)
def OpenSpec.upto (s : _root_.Go.ChangeSpec) : _root_.Go.OpenSpec := { _root_.Go.OpenSpec.ofChange s with cond := some uptoSmall }

/-- 'anvillaw5.VfsMany', WHERE WHAT IT READS IS OF BULK AT MOST 1048576: true; the input reads as it did. -/
def vfsManyUptoRow : OpenClaim := { program := "ytejofgdglpmlkaadoor", sum := "c2632df8cb64a5a404aae1cf163fc100fd47b6bd0b8fd507d5eec95e3980ca15", func := "anvil/anvillaw5.VfsMany", spec := "vfsMany", inPlace := ["internal/abi.NoEscape", "internal/bytealg.MakeNoZero", "internal/bytealg.IndexByteString", "internal/bytealg.IndexString", "internal/reflectlite.ValueOf", "(internal/reflectlite.Value).Type", "(internal/reflectlite.Value).IsNil", "internal/reflectlite.TypeOf", "(internal/reflectlite.Value).Elem", "(internal/reflectlite.Value).Set"], unfollowed := true, recurses := true, named := ["errors.errorType", "internal/bytealg.MaxLen"], apart := false, laid := [("errors.errorType", laid_errors_errorType)], narrowed := true }
def VfsManyUptoSaid : Prop := vfsManyUptoRow.holds Tryd.pinned (OpenSpec.upto vfsManySpec)

/-- 'anvillaw5.VfsRoom', WHERE WHAT IT READS IS OF BULK AT MOST 1048576: true; the input reads as it did. -/
def vfsRoomUptoRow : OpenClaim := { program := "ytejofgdglpmlkaadoor", sum := "c2632df8cb64a5a404aae1cf163fc100fd47b6bd0b8fd507d5eec95e3980ca15", func := "anvil/anvillaw5.VfsRoom", spec := "vfsRoom", inPlace := ["internal/abi.NoEscape", "internal/bytealg.MakeNoZero", "internal/bytealg.IndexByteString", "internal/bytealg.IndexString", "internal/reflectlite.ValueOf", "(internal/reflectlite.Value).Type", "(internal/reflectlite.Value).IsNil", "internal/reflectlite.TypeOf", "(internal/reflectlite.Value).Elem", "(internal/reflectlite.Value).Set"], unfollowed := true, recurses := true, named := ["errors.errorType", "internal/bytealg.MaxLen"], apart := false, laid := [("errors.errorType", laid_errors_errorType)], narrowed := true }
def VfsRoomUptoSaid : Prop := vfsRoomUptoRow.holds Tryd.pinned (OpenSpec.upto vfsRoomSpec)

end Rows
end Go.Proofs.YtejofgdglpmlkaaDoor
