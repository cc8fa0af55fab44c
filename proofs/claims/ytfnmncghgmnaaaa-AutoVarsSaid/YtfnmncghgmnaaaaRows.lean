/-
  No cell of these rows narrows 'for every input' (looked for: loops, veiled, ifaces, maps, wideKeys, modest, calm, conditions, laid).
  DERIVED. THE GIVEN ROWS OF THIS SEAT. 6 by the template 'for every input the law returns true; each argument reads behind the call as it read before'; 0 by the template 'total and deterministic' (their statements: YtfnmncghgmnaaaaTotals.lean).
  GIVEN WITH THE SEED: the statements are not yours to turn. If you find one false, say at which input.
  Laid BY PROGRAM, IN A SANDBOX (cutbox-rows.mjs): the forced cells as the released guide's own fill.sh prints them over the translation 576c01549cc9c9ba… (all of the seat's roots in one cut). By AI agents, Wed Nov 11 2026. No macro, syntax, notation, axiom, sorry.
-/
import Derived.Test.YtfnmncghgmnaaaaChecked
import GoSem.Claim
import GoSem.ClaimJoined
import GoSem.ClaimMapViews
import Derived.JoinedTies
import Derived.KernelRfl
namespace Go.Proofs.Ytfnmncghgmnaaaa
/- THE CELL 'sum', in the pinned program and in every row, IS THE sha256 OF THE DUMP (.gsa) THAT YtfnmncghgmnaaaaProg.lean LOADS. Nothing in Lean hashes anything: it is a label: what it is worth is what the hold of that sum in a sandbox is worth. -/
noncomputable def Try.pinned : Pinned := { name := "ytfnmncghgmnaaaa", sum := "576c01549cc9c9ba2620ba6c2c2244086d585592145b61d46c7eddbc21160460", checked := Try.checked }
namespace Rows
def none {H : Type} : Left H := { results := [], args := [] }

/-- 'anvillaw23.AutoVars': WHATEVER THE INPUT: true; the input reads as it did. -/
def autoVarsSpec : ChangeSpec := { name := "autoVars", fn := fun _ => fun
  | [d1, d2, d3, d4, d5] => { results := [.lit (.bool true)], args := [d1, d2, d3, d4, d5] }
  | _ => none }
def autoVarsRow : OpenClaim := { program := "ytfnmncghgmnaaaa", sum := "576c01549cc9c9ba2620ba6c2c2244086d585592145b61d46c7eddbc21160460", func := "anvil/anvillaw23.AutoVars", spec := "autoVars", inPlace := ["internal/abi.NoEscape", "internal/bytealg.MakeNoZero"], apart := false }
def AutoVarsSaid : Prop := autoVarsRow.holds Try.pinned (OpenSpec.ofChange autoVarsSpec)

/-- ITS FALSE NEIGHBOUR: 'it returns false'. Refute it at one input. -/
def autoVarsWrong : ChangeSpec := { name := "autoVars", fn := fun _ => fun
  | [d1, d2, d3, d4, d5] => { results := [.lit (.bool false)], args := [d1, d2, d3, d4, d5] }
  | _ => none }
def AutoVarsWrongFalsely : Prop := autoVarsRow.holds Try.pinned (OpenSpec.ofChange autoVarsWrong)

/-- 'anvillaw4.GlobMatches': WHATEVER THE INPUT: true; the input reads as it did. -/
def globMatchesSpec : ChangeSpec := { name := "globMatches", fn := fun _ => fun
  | [d1, d2] => { results := [.lit (.bool true)], args := [d1, d2] }
  | _ => none }
def globMatchesRow : OpenClaim := { program := "ytfnmncghgmnaaaa", sum := "576c01549cc9c9ba2620ba6c2c2244086d585592145b61d46c7eddbc21160460", func := "anvil/anvillaw4.GlobMatches", spec := "globMatches", inPlace := ["internal/bytealg.IndexByteString"], unfollowed := true, recurses := true, apart := false }
def GlobMatchesSaid : Prop := globMatchesRow.holds Try.pinned (OpenSpec.ofChange globMatchesSpec)

/-- ITS FALSE NEIGHBOUR: 'it returns false'. Refute it at one input. -/
def globMatchesWrong : ChangeSpec := { name := "globMatches", fn := fun _ => fun
  | [d1, d2] => { results := [.lit (.bool false)], args := [d1, d2] }
  | _ => none }
def GlobMatchesWrongFalsely : Prop := globMatchesRow.holds Try.pinned (OpenSpec.ofChange globMatchesWrong)

/-- 'anvillaw4.GlobPlain': WHATEVER THE INPUT: true; the input reads as it did. -/
def globPlainSpec : ChangeSpec := { name := "globPlain", fn := fun _ => fun
  | [d1, d2] => { results := [.lit (.bool true)], args := [d1, d2] }
  | _ => none }
def globPlainRow : OpenClaim := { program := "ytfnmncghgmnaaaa", sum := "576c01549cc9c9ba2620ba6c2c2244086d585592145b61d46c7eddbc21160460", func := "anvil/anvillaw4.GlobPlain", spec := "globPlain", inPlace := ["internal/bytealg.IndexByteString"], unfollowed := true, recurses := true, apart := false }
def GlobPlainSaid : Prop := globPlainRow.holds Try.pinned (OpenSpec.ofChange globPlainSpec)

/-- ITS FALSE NEIGHBOUR: 'it returns false'. Refute it at one input. -/
def globPlainWrong : ChangeSpec := { name := "globPlain", fn := fun _ => fun
  | [d1, d2] => { results := [.lit (.bool false)], args := [d1, d2] }
  | _ => none }
def GlobPlainWrongFalsely : Prop := globPlainRow.holds Try.pinned (OpenSpec.ofChange globPlainWrong)

/-- 'anvillaw4.GlobStars': WHATEVER THE INPUT: true; the input reads as it did. -/
def globStarsSpec : ChangeSpec := { name := "globStars", fn := fun _ => fun
  | [d1, d2, d3, d4, d5] => { results := [.lit (.bool true)], args := [d1, d2, d3, d4, d5] }
  | _ => none }
def globStarsRow : OpenClaim := { program := "ytfnmncghgmnaaaa", sum := "576c01549cc9c9ba2620ba6c2c2244086d585592145b61d46c7eddbc21160460", func := "anvil/anvillaw4.GlobStars", spec := "globStars", inPlace := ["internal/bytealg.IndexByteString"], unfollowed := true, recurses := true, apart := false }
def GlobStarsSaid : Prop := globStarsRow.holds Try.pinned (OpenSpec.ofChange globStarsSpec)

/-- ITS FALSE NEIGHBOUR: 'it returns false'. Refute it at one input. -/
def globStarsWrong : ChangeSpec := { name := "globStars", fn := fun _ => fun
  | [d1, d2, d3, d4, d5] => { results := [.lit (.bool false)], args := [d1, d2, d3, d4, d5] }
  | _ => none }
def GlobStarsWrongFalsely : Prop := globStarsRow.holds Try.pinned (OpenSpec.ofChange globStarsWrong)

/-- 'anvillaw4.GlobDeep': WHATEVER THE INPUT: true; the input reads as it did. -/
def globDeepSpec : ChangeSpec := { name := "globDeep", fn := fun _ => fun
  | [d1, d2, d3] => { results := [.lit (.bool true)], args := [d1, d2, d3] }
  | _ => none }
def globDeepRow : OpenClaim := { program := "ytfnmncghgmnaaaa", sum := "576c01549cc9c9ba2620ba6c2c2244086d585592145b61d46c7eddbc21160460", func := "anvil/anvillaw4.GlobDeep", spec := "globDeep", inPlace := ["internal/bytealg.IndexByteString"], unfollowed := true, recurses := true, apart := false }
def GlobDeepSaid : Prop := globDeepRow.holds Try.pinned (OpenSpec.ofChange globDeepSpec)

/-- ITS FALSE NEIGHBOUR: 'it returns false'. Refute it at one input. -/
def globDeepWrong : ChangeSpec := { name := "globDeep", fn := fun _ => fun
  | [d1, d2, d3] => { results := [.lit (.bool false)], args := [d1, d2, d3] }
  | _ => none }
def GlobDeepWrongFalsely : Prop := globDeepRow.holds Try.pinned (OpenSpec.ofChange globDeepWrong)

/-- 'anvillaw4.GlobSets': WHATEVER THE INPUT: true; the input reads as it did. -/
def globSetsSpec : ChangeSpec := { name := "globSets", fn := fun _ => fun
  | [d1, d2, d3] => { results := [.lit (.bool true)], args := [d1, d2, d3] }
  | _ => none }
def globSetsRow : OpenClaim := { program := "ytfnmncghgmnaaaa", sum := "576c01549cc9c9ba2620ba6c2c2244086d585592145b61d46c7eddbc21160460", func := "anvil/anvillaw4.GlobSets", spec := "globSets", inPlace := ["internal/bytealg.IndexByteString"], unfollowed := true, recurses := true, apart := false }
def GlobSetsSaid : Prop := globSetsRow.holds Try.pinned (OpenSpec.ofChange globSetsSpec)

/-- ITS FALSE NEIGHBOUR: 'it returns false'. Refute it at one input. -/
def globSetsWrong : ChangeSpec := { name := "globSets", fn := fun _ => fun
  | [d1, d2, d3] => { results := [.lit (.bool false)], args := [d1, d2, d3] }
  | _ => none }
def GlobSetsWrongFalsely : Prop := globSetsRow.holds Try.pinned (OpenSpec.ofChange globSetsWrong)

/- THE SECOND FORM. 'bulk': how many values and letters a reading holds, each counted each time it is reached (what is shared counts as often as it is met; a slice's spare places count too). A statement '..UptoSaid' is the law's where the arguments, and the package variables that the reading takes, are together of bulk at most 1048576: NARROWER than '..Said'. Prove '..Said' where nothing that the law and all that it calls make is longer than what came in: it says more and counts as full. Else prove '..UptoSaid'. A law counts once. -/
mutual
def uptoBulk {H : Type} : DataW H → Nat
  | .lit (.string bytes) => bytes.length + 1
  | .lit _ => 1
  | .nil => 1
  | .ptr d => uptoBulk d + 1
  | .slice elems spare => uptoBulkAll elems + uptoBulkAll spare + 1
  | .agg parts => uptoBulkAll parts + 1
  | .iface _ d => uptoBulk d + 1
  | .map entries => uptoBulkEntries entries + 1
  | .held _ => 1
def uptoBulkAll {H : Type} : List (DataW H) → Nat
  | [] => 0
  | d :: r => uptoBulk d + uptoBulkAll r
def uptoBulkEntries {H : Type} : List (Lit × DataW H) → Nat
  | [] => 0
  | x :: r => uptoBulkEntry x + uptoBulkEntries r
def uptoBulkEntry {H : Type} : Lit × DataW H → Nat
  | (.string bytes, d) => bytes.length + uptoBulk d + 1
  | (_, d) => uptoBulk d + 1
 end
def uptoSmall : (H : Type) → List (DataW H) → Bool := fun _ ds => decide (uptoBulkAll ds ≤ 1048576)
def OpenSpec.upto (s : _root_.Go.ChangeSpec) : _root_.Go.OpenSpec := { _root_.Go.OpenSpec.ofChange s with cond := some uptoSmall }

/-- 'anvillaw23.AutoVars', WHERE WHAT IT READS IS OF BULK AT MOST 1048576: true; the input reads as it did. -/
def autoVarsUptoRow : OpenClaim := { program := "ytfnmncghgmnaaaa", sum := "576c01549cc9c9ba2620ba6c2c2244086d585592145b61d46c7eddbc21160460", func := "anvil/anvillaw23.AutoVars", spec := "autoVars", inPlace := ["internal/abi.NoEscape", "internal/bytealg.MakeNoZero"], apart := false, narrowed := true }
def AutoVarsUptoSaid : Prop := autoVarsUptoRow.holds Try.pinned (OpenSpec.upto autoVarsSpec)

/-- 'anvillaw4.GlobMatches', WHERE WHAT IT READS IS OF BULK AT MOST 1048576: true; the input reads as it did. -/
def globMatchesUptoRow : OpenClaim := { program := "ytfnmncghgmnaaaa", sum := "576c01549cc9c9ba2620ba6c2c2244086d585592145b61d46c7eddbc21160460", func := "anvil/anvillaw4.GlobMatches", spec := "globMatches", inPlace := ["internal/bytealg.IndexByteString"], unfollowed := true, recurses := true, apart := false, narrowed := true }
def GlobMatchesUptoSaid : Prop := globMatchesUptoRow.holds Try.pinned (OpenSpec.upto globMatchesSpec)

/-- 'anvillaw4.GlobPlain', WHERE WHAT IT READS IS OF BULK AT MOST 1048576: true; the input reads as it did. -/
def globPlainUptoRow : OpenClaim := { program := "ytfnmncghgmnaaaa", sum := "576c01549cc9c9ba2620ba6c2c2244086d585592145b61d46c7eddbc21160460", func := "anvil/anvillaw4.GlobPlain", spec := "globPlain", inPlace := ["internal/bytealg.IndexByteString"], unfollowed := true, recurses := true, apart := false, narrowed := true }
def GlobPlainUptoSaid : Prop := globPlainUptoRow.holds Try.pinned (OpenSpec.upto globPlainSpec)

/-- 'anvillaw4.GlobStars', WHERE WHAT IT READS IS OF BULK AT MOST 1048576: true; the input reads as it did. -/
def globStarsUptoRow : OpenClaim := { program := "ytfnmncghgmnaaaa", sum := "576c01549cc9c9ba2620ba6c2c2244086d585592145b61d46c7eddbc21160460", func := "anvil/anvillaw4.GlobStars", spec := "globStars", inPlace := ["internal/bytealg.IndexByteString"], unfollowed := true, recurses := true, apart := false, narrowed := true }
def GlobStarsUptoSaid : Prop := globStarsUptoRow.holds Try.pinned (OpenSpec.upto globStarsSpec)

/-- 'anvillaw4.GlobDeep', WHERE WHAT IT READS IS OF BULK AT MOST 1048576: true; the input reads as it did. -/
def globDeepUptoRow : OpenClaim := { program := "ytfnmncghgmnaaaa", sum := "576c01549cc9c9ba2620ba6c2c2244086d585592145b61d46c7eddbc21160460", func := "anvil/anvillaw4.GlobDeep", spec := "globDeep", inPlace := ["internal/bytealg.IndexByteString"], unfollowed := true, recurses := true, apart := false, narrowed := true }
def GlobDeepUptoSaid : Prop := globDeepUptoRow.holds Try.pinned (OpenSpec.upto globDeepSpec)

/-- 'anvillaw4.GlobSets', WHERE WHAT IT READS IS OF BULK AT MOST 1048576: true; the input reads as it did. -/
def globSetsUptoRow : OpenClaim := { program := "ytfnmncghgmnaaaa", sum := "576c01549cc9c9ba2620ba6c2c2244086d585592145b61d46c7eddbc21160460", func := "anvil/anvillaw4.GlobSets", spec := "globSets", inPlace := ["internal/bytealg.IndexByteString"], unfollowed := true, recurses := true, apart := false, narrowed := true }
def GlobSetsUptoSaid : Prop := globSetsUptoRow.holds Try.pinned (OpenSpec.upto globSetsSpec)

end Rows
end Go.Proofs.Ytfnmncghgmnaaaa
