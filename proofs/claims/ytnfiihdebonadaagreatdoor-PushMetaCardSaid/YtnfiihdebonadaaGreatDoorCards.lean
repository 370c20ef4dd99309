/-
  DERIVED. GIVEN WITH THE SEED: THE CARDS: each row of YtnfiihdebonadaaGreatDoorRows.lean that lists a variable, with what it lists TIED to the program's text (the seventh form; the later family's looks); each row that meets fmt, with fmt's text TOLD by the authors' own Lean function (tested against real Go, not proved from fmt's source: count such statements apart). THE CARD IS WHAT COUNTS. Prove the row's statement (the work); the ties are given (YtnfiihdebonadaaGreatDoorTie.lean); close each card by the builder's one call (the guide's Derived/Test/ToyasCard.lean, 'card_holds'). Laid BY PROGRAM, IN A SANDBOX (cutbox-door.mjs). By AI agents, Wed Nov 11 2026. No macro, syntax, notation, axiom, sorry.
-/
import Derived.Test.YtnfiihdebonadaaGreatDoorRows
import GoSem.ClaimSeven
namespace Go.Proofs.YtnfiihdebonadaaGreatDoor
namespace Rows

/-- THE TIED CARD OF 'pannierlaw12.PushMeta'. -/
def pushMetaCard : Claim7 := { stood := { row := pushMetaRow, standIns := [], harness := (true, "c6494d8710b9756713dec3d2a43fdd7fe0443ee38e3f5ffcb140f4fae64048e8"), looks := true }, kinds := [], alts := [], laidByText := true, laidKinds := [.data, .data, .data, .handle, .sentinel, .sentinel], laidTests := true, laidLooks := .later }
def PushMetaCardSaid : Prop := Claim7.holds Tryz.pinned (.plain (OpenSpec.ofChange pushMetaSpec)) pushMetaCard

/-- THE TIED CARD OF 'pannierlaw12.PushGlobal'. -/
def pushGlobalCard : Claim7 := { stood := { row := pushGlobalRow, standIns := [], harness := (true, "c6494d8710b9756713dec3d2a43fdd7fe0443ee38e3f5ffcb140f4fae64048e8"), looks := true }, kinds := [], alts := [], laidByText := true, laidKinds := [.data, .data, .data, .handle, .sentinel, .sentinel], laidTests := true, laidLooks := .later }
def PushGlobalCardSaid : Prop := Claim7.holds Tryz.pinned (.plain (OpenSpec.ofChange pushGlobalSpec)) pushGlobalCard

/-- THE SECOND FORM's CARD OF 'pannierlaw12.PushMeta'. -/
def pushMetaUptoCard : Claim7 := { stood := { row := pushMetaUptoRow, standIns := [], harness := (true, "c6494d8710b9756713dec3d2a43fdd7fe0443ee38e3f5ffcb140f4fae64048e8"), looks := true }, kinds := [], alts := [], laidByText := true, laidKinds := [.data, .data, .data, .handle, .sentinel, .sentinel], laidTests := true, laidLooks := .later }
def PushMetaUptoCardSaid : Prop := Claim7.holds Tryz.pinned (.plain (OpenSpec.upto pushMetaSpec)) pushMetaUptoCard

/-- THE SECOND FORM's CARD OF 'pannierlaw12.PushGlobal'. -/
def pushGlobalUptoCard : Claim7 := { stood := { row := pushGlobalUptoRow, standIns := [], harness := (true, "c6494d8710b9756713dec3d2a43fdd7fe0443ee38e3f5ffcb140f4fae64048e8"), looks := true }, kinds := [], alts := [], laidByText := true, laidKinds := [.data, .data, .data, .handle, .sentinel, .sentinel], laidTests := true, laidLooks := .later }
def PushGlobalUptoCardSaid : Prop := Claim7.holds Tryz.pinned (.plain (OpenSpec.upto pushGlobalSpec)) pushGlobalUptoCard
end Rows
end Go.Proofs.YtnfiihdebonadaaGreatDoor
