/-
  DERIVED. GIVEN WITH THE SEED: THE CARDS: each row of YtlhaempecidohaaGreatDoorRows.lean that lists a variable, with what it lists TIED to the program's text (the seventh form; the later family's looks); each row that meets fmt, with fmt's text TOLD by the authors' own Lean function (tested against real Go, not proved from fmt's source: count such statements apart). THE CARD IS WHAT COUNTS. Prove the row's statement (the work); the ties are given (YtlhaempecidohaaGreatDoorTie.lean); close each card by the builder's one call (the guide's Derived/Test/ToyasCard.lean, 'card_holds'). Laid BY PROGRAM, IN A SANDBOX (cutbox-door.mjs). By AI agents, Wed Nov 11 2026. No macro, syntax, notation, axiom, sorry.
-/
import Derived.Test.YtlhaempecidohaaGreatDoorRows
import GoSem.ClaimSeven
namespace Go.Proofs.YtlhaempecidohaaGreatDoor
namespace Rows

/-- THE TIED CARD OF 'cubbytop.TopAside'. -/
def topAsideCard : Claim7 := { stood := { row := topAsideRow, standIns := [], harness := (true, "b61ef0fd796794c1d98d98221fb401f7006f21e52613d2c589762b4deaa9e09c"), looks := true }, kinds := [], alts := [], laidByText := true, laidKinds := [.data, .data, .data, .sentinel, .sentinel, .pinned, .data, .pinned], laidTests := true, laidLooks := .later }
def TopAsideCardSaid : Prop := Claim7.holds Tryz.pinned (.plain (OpenSpec.ofChange topAsideSpec)) topAsideCard

/-- THE SECOND FORM's CARD OF 'cubbytop.TopAside'. -/
def topAsideUptoCard : Claim7 := { stood := { row := topAsideUptoRow, standIns := [], harness := (true, "b61ef0fd796794c1d98d98221fb401f7006f21e52613d2c589762b4deaa9e09c"), looks := true }, kinds := [], alts := [], laidByText := true, laidKinds := [.data, .data, .data, .sentinel, .sentinel, .pinned, .data, .pinned], laidTests := true, laidLooks := .later }
def TopAsideUptoCardSaid : Prop := Claim7.holds Tryz.pinned (.plain (OpenSpec.upto topAsideSpec)) topAsideUptoCard
end Rows
end Go.Proofs.YtlhaempecidohaaGreatDoor
