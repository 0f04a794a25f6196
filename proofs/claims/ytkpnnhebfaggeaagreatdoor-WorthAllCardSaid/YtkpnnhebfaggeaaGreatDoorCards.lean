/-
  DERIVED. GIVEN WITH THE SEED: THE CARDS: each row of YtkpnnhebfaggeaaGreatDoorRows.lean that lists a variable, with what it lists TIED to the program's text (the seventh form; the later family's looks); each row that meets fmt, with fmt's text TOLD by the authors' own Lean function (tested against real Go, not proved from fmt's source: count such statements apart). THE CARD IS WHAT COUNTS. Prove the row's statement (the work); the ties are given (YtkpnnhebfaggeaaGreatDoorTie.lean); close each card by the builder's one call (the guide's Derived/Test/ToyasCard.lean, 'card_holds'). Laid BY PROGRAM, IN A SANDBOX (cutbox-door.mjs). By AI agents, Wed Nov 11 2026. No macro, syntax, notation, axiom, sorry.
-/
import Derived.Test.YtkpnnhebfaggeaaGreatDoorRows
import GoSem.ClaimSeven
namespace Go.Proofs.YtkpnnhebfaggeaaGreatDoor
namespace Rows

/-- THE TIED CARD OF 'espalierlaw2.WorthAll'. -/
def worthAllCard : Claim7 := { stood := { row := worthAllRow, standIns := [], harness := (true, "59bc277f10654de6b62d10e0582996923e5daa7df15a139e8b4869239fd75e31"), looks := true }, kinds := [], alts := [], laidByText := true, laidKinds := [.data, .data, .data, .sentinel, .sentinel], laidTests := true, laidLooks := .later }
def WorthAllCardSaid : Prop := Claim7.holds Tryz.pinned (.plain (OpenSpec.ofChange worthAllSpec)) worthAllCard

/-- THE SECOND FORM's CARD OF 'espalierlaw2.WorthAll'. -/
def worthAllUptoCard : Claim7 := { stood := { row := worthAllUptoRow, standIns := [], harness := (true, "59bc277f10654de6b62d10e0582996923e5daa7df15a139e8b4869239fd75e31"), looks := true }, kinds := [], alts := [], laidByText := true, laidKinds := [.data, .data, .data, .sentinel, .sentinel], laidTests := true, laidLooks := .later }
def WorthAllUptoCardSaid : Prop := Claim7.holds Tryz.pinned (.plain (OpenSpec.upto worthAllSpec)) worthAllUptoCard
end Rows
end Go.Proofs.YtkpnnhebfaggeaaGreatDoor
