/-
  DERIVED. GIVEN WITH THE SEED: THE CARDS: each row of YtnjagoglabllaaaGreatDoorRows.lean that lists a variable, with what it lists TIED to the program's text (the seventh form; the later family's looks); each row that meets fmt, with fmt's text TOLD by the authors' own Lean function (tested against real Go, not proved from fmt's source: count such statements apart). THE CARD IS WHAT COUNTS. Prove the row's statement (the work); the ties are given (YtnjagoglabllaaaGreatDoorTie.lean); close each card by the builder's one call (the guide's Derived/Test/ToyasCard.lean, 'card_holds'). Laid BY PROGRAM, IN A SANDBOX (cutbox-door.mjs). By AI agents, Wed Nov 11 2026. No macro, syntax, notation, axiom, sorry.
-/
import Derived.Test.YtnjagoglabllaaaGreatDoorRows
import GoSem.ClaimSeven
namespace Go.Proofs.YtnjagoglabllaaaGreatDoor
namespace Rows

/-- THE TIED CARD OF 'anvillaw7.ArWrites'. -/
def arWritesCard : Claim7 := { stood := { row := arWritesRow, standIns := [], harness := (true, "15c6843f6741c40f3b97c807e6d3f4c43c2d98c799bfbb35e2f19c302d4a9676"), looks := true }, kinds := [], alts := [], laidByText := true, laidKinds := [.data, .data, .data, .data, .sentinel, .sentinel, .pinned], laidTests := true, laidLooks := .later }
def ArWritesCardSaid : Prop := Claim7.holds Tryz.pinned (.plain (OpenSpec.ofChange arWritesSpec)) arWritesCard

/-- THE TIED CARD OF 'anvillaw7.ArParses'. -/
def arParsesCard : Claim7 := { stood := { row := arParsesRow, standIns := [], harness := (true, "15c6843f6741c40f3b97c807e6d3f4c43c2d98c799bfbb35e2f19c302d4a9676"), looks := true }, kinds := [], alts := [], laidByText := true, laidKinds := [.data, .data, .data, .data, .sentinel, .sentinel, .pinned], laidTests := true, laidLooks := .later }
def ArParsesCardSaid : Prop := Claim7.holds Tryz.pinned (.plain (OpenSpec.ofChange arParsesSpec)) arParsesCard

/-- THE TIED CARD OF 'anvillaw7.ArBack'. -/
def arBackCard : Claim7 := { stood := { row := arBackRow, standIns := [], harness := (true, "15c6843f6741c40f3b97c807e6d3f4c43c2d98c799bfbb35e2f19c302d4a9676"), looks := true }, kinds := [], alts := [], laidByText := true, laidKinds := [.data, .data, .data, .data, .sentinel, .sentinel, .pinned], laidTests := true, laidLooks := .later }
def ArBackCardSaid : Prop := Claim7.holds Tryz.pinned (.plain (OpenSpec.ofChange arBackSpec)) arBackCard

/-- THE TIED CARD OF 'anvillaw7.ArLong'. -/
def arLongCard : Claim7 := { stood := { row := arLongRow, standIns := [], harness := (true, "15c6843f6741c40f3b97c807e6d3f4c43c2d98c799bfbb35e2f19c302d4a9676"), looks := true }, kinds := [], alts := [], laidByText := true, laidKinds := [.data, .data, .data, .data, .sentinel, .sentinel, .pinned], laidTests := true, laidLooks := .later }
def ArLongCardSaid : Prop := Claim7.holds Tryz.pinned (.plain (OpenSpec.ofChange arLongSpec)) arLongCard

/-- THE TIED CARD OF 'anvillaw7.ArPuts'. -/
def arPutsCard : Claim7 := { stood := { row := arPutsRow, standIns := [], harness := (true, "15c6843f6741c40f3b97c807e6d3f4c43c2d98c799bfbb35e2f19c302d4a9676"), looks := true }, kinds := [], alts := [], laidByText := true, laidKinds := [.data, .data, .data, .data, .sentinel, .sentinel, .pinned], laidTests := true, laidLooks := .later }
def ArPutsCardSaid : Prop := Claim7.holds Tryz.pinned (.plain (OpenSpec.ofChange arPutsSpec)) arPutsCard

/-- THE SECOND FORM's CARD OF 'anvillaw7.ArWrites'. -/
def arWritesUptoCard : Claim7 := { stood := { row := arWritesUptoRow, standIns := [], harness := (true, "15c6843f6741c40f3b97c807e6d3f4c43c2d98c799bfbb35e2f19c302d4a9676"), looks := true }, kinds := [], alts := [], laidByText := true, laidKinds := [.data, .data, .data, .data, .sentinel, .sentinel, .pinned], laidTests := true, laidLooks := .later }
def ArWritesUptoCardSaid : Prop := Claim7.holds Tryz.pinned (.plain (OpenSpec.upto arWritesSpec)) arWritesUptoCard

/-- THE SECOND FORM's CARD OF 'anvillaw7.ArParses'. -/
def arParsesUptoCard : Claim7 := { stood := { row := arParsesUptoRow, standIns := [], harness := (true, "15c6843f6741c40f3b97c807e6d3f4c43c2d98c799bfbb35e2f19c302d4a9676"), looks := true }, kinds := [], alts := [], laidByText := true, laidKinds := [.data, .data, .data, .data, .sentinel, .sentinel, .pinned], laidTests := true, laidLooks := .later }
def ArParsesUptoCardSaid : Prop := Claim7.holds Tryz.pinned (.plain (OpenSpec.upto arParsesSpec)) arParsesUptoCard

/-- THE SECOND FORM's CARD OF 'anvillaw7.ArBack'. -/
def arBackUptoCard : Claim7 := { stood := { row := arBackUptoRow, standIns := [], harness := (true, "15c6843f6741c40f3b97c807e6d3f4c43c2d98c799bfbb35e2f19c302d4a9676"), looks := true }, kinds := [], alts := [], laidByText := true, laidKinds := [.data, .data, .data, .data, .sentinel, .sentinel, .pinned], laidTests := true, laidLooks := .later }
def ArBackUptoCardSaid : Prop := Claim7.holds Tryz.pinned (.plain (OpenSpec.upto arBackSpec)) arBackUptoCard

/-- THE SECOND FORM's CARD OF 'anvillaw7.ArLong'. -/
def arLongUptoCard : Claim7 := { stood := { row := arLongUptoRow, standIns := [], harness := (true, "15c6843f6741c40f3b97c807e6d3f4c43c2d98c799bfbb35e2f19c302d4a9676"), looks := true }, kinds := [], alts := [], laidByText := true, laidKinds := [.data, .data, .data, .data, .sentinel, .sentinel, .pinned], laidTests := true, laidLooks := .later }
def ArLongUptoCardSaid : Prop := Claim7.holds Tryz.pinned (.plain (OpenSpec.upto arLongSpec)) arLongUptoCard

/-- THE SECOND FORM's CARD OF 'anvillaw7.ArPuts'. -/
def arPutsUptoCard : Claim7 := { stood := { row := arPutsUptoRow, standIns := [], harness := (true, "15c6843f6741c40f3b97c807e6d3f4c43c2d98c799bfbb35e2f19c302d4a9676"), looks := true }, kinds := [], alts := [], laidByText := true, laidKinds := [.data, .data, .data, .data, .sentinel, .sentinel, .pinned], laidTests := true, laidLooks := .later }
def ArPutsUptoCardSaid : Prop := Claim7.holds Tryz.pinned (.plain (OpenSpec.upto arPutsSpec)) arPutsUptoCard
end Rows
end Go.Proofs.YtnjagoglabllaaaGreatDoor
