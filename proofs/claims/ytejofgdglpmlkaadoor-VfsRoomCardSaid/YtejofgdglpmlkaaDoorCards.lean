/-
  DERIVED. GIVEN WITH THE SEED: THE CARDS: each row of YtejofgdglpmlkaaDoorRows.lean that lists a variable, with what it lists TIED to the program's text (the seventh form; the later family's looks); each row that meets fmt, with fmt's text TOLD by the authors' own Lean function (tested against real Go, not proved from fmt's source: count such statements apart). THE CARD IS WHAT COUNTS. Prove the row's statement (the work); the ties are given (YtejofgdglpmlkaaDoorTie.lean); close each card by the builder's one call (the guide's Derived/Test/ToyasCard.lean, 'card_holds'). Laid BY PROGRAM, IN A SANDBOX (cutbox-door.mjs). By AI agents, Wed Nov 11 2026. No macro, syntax, notation, axiom, sorry.
-/
import Derived.Test.YtejofgdglpmlkaaDoorRows
import GoSem.ClaimSeven
namespace Go.Proofs.YtejofgdglpmlkaaDoor
namespace Rows

/-- THE TIED CARD OF 'anvillaw5.VfsMany'. -/
def vfsManyCard : Claim7 := { stood := { row := vfsManyRow, standIns := [], harness := (true, "188269de2834b64c6b6497318cddcae25a7d00976d6872a63c619523459afc26"), looks := true }, kinds := [], alts := [], laidByText := true, laidKinds := [.handle], laidTests := true, laidLooks := .later }
def VfsManyCardSaid : Prop := Claim7.holds Tryd.pinned (.plain (OpenSpec.ofChange vfsManySpec)) vfsManyCard

/-- THE TIED CARD OF 'anvillaw5.VfsRoom'. -/
def vfsRoomCard : Claim7 := { stood := { row := vfsRoomRow, standIns := [], harness := (true, "188269de2834b64c6b6497318cddcae25a7d00976d6872a63c619523459afc26"), looks := true }, kinds := [], alts := [], laidByText := true, laidKinds := [.handle], laidTests := true, laidLooks := .later }
def VfsRoomCardSaid : Prop := Claim7.holds Tryd.pinned (.plain (OpenSpec.ofChange vfsRoomSpec)) vfsRoomCard

/-- THE SECOND FORM's CARD OF 'anvillaw5.VfsMany'. -/
def vfsManyUptoCard : Claim7 := { stood := { row := vfsManyUptoRow, standIns := [], harness := (true, "188269de2834b64c6b6497318cddcae25a7d00976d6872a63c619523459afc26"), looks := true }, kinds := [], alts := [], laidByText := true, laidKinds := [.handle], laidTests := true, laidLooks := .later }
def VfsManyUptoCardSaid : Prop := Claim7.holds Tryd.pinned (.plain (OpenSpec.upto vfsManySpec)) vfsManyUptoCard

/-- THE SECOND FORM's CARD OF 'anvillaw5.VfsRoom'. -/
def vfsRoomUptoCard : Claim7 := { stood := { row := vfsRoomUptoRow, standIns := [], harness := (true, "188269de2834b64c6b6497318cddcae25a7d00976d6872a63c619523459afc26"), looks := true }, kinds := [], alts := [], laidByText := true, laidKinds := [.handle], laidTests := true, laidLooks := .later }
def VfsRoomUptoCardSaid : Prop := Claim7.holds Tryd.pinned (.plain (OpenSpec.upto vfsRoomSpec)) vfsRoomUptoCard
end Rows
end Go.Proofs.YtejofgdglpmlkaaDoor
