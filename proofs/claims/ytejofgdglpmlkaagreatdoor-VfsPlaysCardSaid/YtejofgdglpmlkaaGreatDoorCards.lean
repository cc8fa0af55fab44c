/-
  DERIVED. GIVEN WITH THE SEED: THE CARDS: each row of YtejofgdglpmlkaaGreatDoorRows.lean that lists a variable, with what it lists TIED to the program's text (the seventh form; the later family's looks); each row that meets fmt, with fmt's text TOLD by the authors' own Lean function (tested against real Go, not proved from fmt's source: count such statements apart). THE CARD IS WHAT COUNTS. Prove the row's statement (the work); the ties are given (YtejofgdglpmlkaaGreatDoorTie.lean); close each card by the builder's one call (the guide's Derived/Test/ToyasCard.lean, 'card_holds'). Laid BY PROGRAM, IN A SANDBOX (cutbox-door.mjs). By AI agents, Wed Nov 11 2026. No macro, syntax, notation, axiom, sorry.
-/
import Derived.Test.YtejofgdglpmlkaaGreatDoorRows
import GoSem.ClaimSeven
namespace Go.Proofs.YtejofgdglpmlkaaGreatDoor
namespace Rows

/-- THE TIED CARD OF 'anvillaw5.VfsMakes'. -/
def vfsMakesCard : Claim7 := { stood := { row := vfsMakesRow, standIns := [], harness := (true, "6efd03bb968d5fbe6883d3aea9774bba6ac436c0d4760fe56a2974165dd8a8e7"), looks := true }, kinds := [], alts := [], laidByText := true, laidKinds := [.handle], laidTests := true, laidLooks := .later }
def VfsMakesCardSaid : Prop := Claim7.holds Tryz.pinned (.plain (OpenSpec.ofChange vfsMakesSpec)) vfsMakesCard

/-- THE TIED CARD OF 'anvillaw5.VfsRight'. -/
def vfsRightCard : Claim7 := { stood := { row := vfsRightRow, standIns := [], harness := (true, "6efd03bb968d5fbe6883d3aea9774bba6ac436c0d4760fe56a2974165dd8a8e7"), looks := true }, kinds := [], alts := [], laidByText := true, laidKinds := [.handle], laidTests := true, laidLooks := .later }
def VfsRightCardSaid : Prop := Claim7.holds Tryz.pinned (.plain (OpenSpec.ofChange vfsRightSpec)) vfsRightCard

/-- THE TIED CARD OF 'anvillaw5.VfsPlays'. -/
def vfsPlaysCard : Claim7 := { stood := { row := vfsPlaysRow, standIns := [], harness := (true, "6efd03bb968d5fbe6883d3aea9774bba6ac436c0d4760fe56a2974165dd8a8e7"), looks := true }, kinds := [], alts := [], laidByText := true, laidKinds := [.handle], laidTests := true, laidLooks := .later }
def VfsPlaysCardSaid : Prop := Claim7.holds Tryz.pinned (.plain (OpenSpec.ofChange vfsPlaysSpec)) vfsPlaysCard

/-- THE SECOND FORM's CARD OF 'anvillaw5.VfsMakes'. -/
def vfsMakesUptoCard : Claim7 := { stood := { row := vfsMakesUptoRow, standIns := [], harness := (true, "6efd03bb968d5fbe6883d3aea9774bba6ac436c0d4760fe56a2974165dd8a8e7"), looks := true }, kinds := [], alts := [], laidByText := true, laidKinds := [.handle], laidTests := true, laidLooks := .later }
def VfsMakesUptoCardSaid : Prop := Claim7.holds Tryz.pinned (.plain (OpenSpec.upto vfsMakesSpec)) vfsMakesUptoCard

/-- THE SECOND FORM's CARD OF 'anvillaw5.VfsRight'. -/
def vfsRightUptoCard : Claim7 := { stood := { row := vfsRightUptoRow, standIns := [], harness := (true, "6efd03bb968d5fbe6883d3aea9774bba6ac436c0d4760fe56a2974165dd8a8e7"), looks := true }, kinds := [], alts := [], laidByText := true, laidKinds := [.handle], laidTests := true, laidLooks := .later }
def VfsRightUptoCardSaid : Prop := Claim7.holds Tryz.pinned (.plain (OpenSpec.upto vfsRightSpec)) vfsRightUptoCard

/-- THE SECOND FORM's CARD OF 'anvillaw5.VfsPlays'. -/
def vfsPlaysUptoCard : Claim7 := { stood := { row := vfsPlaysUptoRow, standIns := [], harness := (true, "6efd03bb968d5fbe6883d3aea9774bba6ac436c0d4760fe56a2974165dd8a8e7"), looks := true }, kinds := [], alts := [], laidByText := true, laidKinds := [.handle], laidTests := true, laidLooks := .later }
def VfsPlaysUptoCardSaid : Prop := Claim7.holds Tryz.pinned (.plain (OpenSpec.upto vfsPlaysSpec)) vfsPlaysUptoCard
end Rows
end Go.Proofs.YtejofgdglpmlkaaGreatDoor
