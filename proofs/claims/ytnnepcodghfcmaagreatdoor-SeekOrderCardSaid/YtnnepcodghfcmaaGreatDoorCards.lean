/-
  DERIVED. GIVEN WITH THE SEED: THE CARDS: each row of YtnnepcodghfcmaaGreatDoorRows.lean that lists a variable, with what it lists TIED to the program's text (the seventh form; the later family's looks); each row that meets fmt, with fmt's text TOLD by the authors' own Lean function (tested against real Go, not proved from fmt's source: count such statements apart). THE CARD IS WHAT COUNTS. Prove the row's statement (the work); the ties are given (YtnnepcodghfcmaaGreatDoorTie.lean); close each card by the builder's one call (the guide's Derived/Test/ToyasCard.lean, 'card_holds'). Laid BY PROGRAM, IN A SANDBOX (cutbox-door.mjs). By AI agents, Wed Nov 11 2026. No macro, syntax, notation, axiom, sorry.
-/
import Derived.Test.YtnnepcodghfcmaaGreatDoorRows
import GoSem.ClaimSeven
namespace Go.Proofs.YtnnepcodghfcmaaGreatDoor
namespace Rows

/-- THE TIED CARD OF 'anvillaw20.SeekOrder'. -/
def seekOrderCard : Claim7 := { stood := { row := seekOrderRow, standIns := [], harness := (true, "19e1b1b59ee66bd530aaafd568740dadbb870571648a2eed4cf7e33e7d974769"), looks := true }, kinds := [], alts := [], laidByText := true, laidKinds := [.data, .data, .data, .data, .handle, .sentinel, .sentinel, .pinned], laidTests := true, laidLooks := .later }
def SeekOrderCardSaid : Prop := Claim7.holds Tryz.pinned (.plain (OpenSpec.ofChange seekOrderSpec)) seekOrderCard

/-- THE SECOND FORM's CARD OF 'anvillaw20.SeekOrder'. -/
def seekOrderUptoCard : Claim7 := { stood := { row := seekOrderUptoRow, standIns := [], harness := (true, "19e1b1b59ee66bd530aaafd568740dadbb870571648a2eed4cf7e33e7d974769"), looks := true }, kinds := [], alts := [], laidByText := true, laidKinds := [.data, .data, .data, .data, .handle, .sentinel, .sentinel, .pinned], laidTests := true, laidLooks := .later }
def SeekOrderUptoCardSaid : Prop := Claim7.holds Tryz.pinned (.plain (OpenSpec.upto seekOrderSpec)) seekOrderUptoCard
end Rows
end Go.Proofs.YtnnepcodghfcmaaGreatDoor
