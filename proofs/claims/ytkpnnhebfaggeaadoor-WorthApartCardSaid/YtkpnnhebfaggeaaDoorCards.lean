/-
  DERIVED. GIVEN WITH THE SEED: THE CARDS: each row of YtkpnnhebfaggeaaDoorRows.lean that lists a variable, with what it lists TIED to the program's text (the seventh form; the later family's looks); each row that meets fmt, with fmt's text TOLD by the authors' own Lean function (tested against real Go, not proved from fmt's source: count such statements apart). THE CARD IS WHAT COUNTS. Prove the row's statement (the work); the ties are given (YtkpnnhebfaggeaaDoorTie.lean); close each card by the builder's one call (the guide's Derived/Test/ToyasCard.lean, 'card_holds'). Laid BY PROGRAM, IN A SANDBOX (cutbox-door.mjs). By AI agents, Wed Nov 11 2026. No macro, syntax, notation, axiom, sorry.
-/
import Derived.Test.YtkpnnhebfaggeaaDoorRows
import GoSem.ClaimSeven
namespace Go.Proofs.YtkpnnhebfaggeaaDoor
namespace Rows

/-- THE TIED CARD OF 'espalierlaw2.WorthBack'. -/
def worthBackCard : Claim7 := { stood := { row := worthBackRow, standIns := [], harness := (true, "87952721e25b2d47a731b52e3a2efbd7654279aba4613bb3f954613407b7271a"), looks := true }, kinds := [], alts := [], laidByText := true, laidKinds := [.data, .data, .data, .sentinel, .sentinel], laidTests := true, laidLooks := .later }
def WorthBackCardSaid : Prop := Claim7.holds Tryd.pinned (.plain (OpenSpec.ofChange worthBackSpec)) worthBackCard

/-- THE TIED CARD OF 'espalierlaw2.WorthOrder'. -/
def worthOrderCard : Claim7 := { stood := { row := worthOrderRow, standIns := [], harness := (true, "87952721e25b2d47a731b52e3a2efbd7654279aba4613bb3f954613407b7271a"), looks := true }, kinds := [], alts := [], laidByText := true, laidKinds := [.data, .data, .data, .sentinel, .sentinel], laidTests := true, laidLooks := .later }
def WorthOrderCardSaid : Prop := Claim7.holds Tryd.pinned (.plain (OpenSpec.ofChange worthOrderSpec)) worthOrderCard

/-- THE TIED CARD OF 'espalierlaw2.WorthSizes'. -/
def worthSizesCard : Claim7 := { stood := { row := worthSizesRow, standIns := [], harness := (true, "87952721e25b2d47a731b52e3a2efbd7654279aba4613bb3f954613407b7271a"), looks := true }, kinds := [], alts := [], laidByText := true, laidKinds := [.data, .data, .data, .sentinel, .sentinel], laidTests := true, laidLooks := .later }
def WorthSizesCardSaid : Prop := Claim7.holds Tryd.pinned (.plain (OpenSpec.ofChange worthSizesSpec)) worthSizesCard

/-- THE TIED CARD OF 'espalierlaw2.WorthApart'. -/
def worthApartCard : Claim7 := { stood := { row := worthApartRow, standIns := [], harness := (true, "87952721e25b2d47a731b52e3a2efbd7654279aba4613bb3f954613407b7271a"), looks := true }, kinds := [], alts := [], laidByText := true, laidKinds := [.data, .data, .data, .sentinel, .sentinel], laidTests := true, laidLooks := .later }
def WorthApartCardSaid : Prop := Claim7.holds Tryd.pinned (.plain (OpenSpec.ofChange worthApartSpec)) worthApartCard

/-- THE TIED CARD OF 'espalierlaw2.WorthFresh'. -/
def worthFreshCard : Claim7 := { stood := { row := worthFreshRow, standIns := [], harness := (true, "87952721e25b2d47a731b52e3a2efbd7654279aba4613bb3f954613407b7271a"), looks := true }, kinds := [], alts := [], laidByText := true, laidKinds := [.data, .data, .data, .sentinel, .sentinel], laidTests := true, laidLooks := .later }
def WorthFreshCardSaid : Prop := Claim7.holds Tryd.pinned (.plain (OpenSpec.ofChange worthFreshSpec)) worthFreshCard

/-- THE SECOND FORM's CARD OF 'espalierlaw2.WorthBack'. -/
def worthBackUptoCard : Claim7 := { stood := { row := worthBackUptoRow, standIns := [], harness := (true, "87952721e25b2d47a731b52e3a2efbd7654279aba4613bb3f954613407b7271a"), looks := true }, kinds := [], alts := [], laidByText := true, laidKinds := [.data, .data, .data, .sentinel, .sentinel], laidTests := true, laidLooks := .later }
def WorthBackUptoCardSaid : Prop := Claim7.holds Tryd.pinned (.plain (OpenSpec.upto worthBackSpec)) worthBackUptoCard

/-- THE SECOND FORM's CARD OF 'espalierlaw2.WorthOrder'. -/
def worthOrderUptoCard : Claim7 := { stood := { row := worthOrderUptoRow, standIns := [], harness := (true, "87952721e25b2d47a731b52e3a2efbd7654279aba4613bb3f954613407b7271a"), looks := true }, kinds := [], alts := [], laidByText := true, laidKinds := [.data, .data, .data, .sentinel, .sentinel], laidTests := true, laidLooks := .later }
def WorthOrderUptoCardSaid : Prop := Claim7.holds Tryd.pinned (.plain (OpenSpec.upto worthOrderSpec)) worthOrderUptoCard

/-- THE SECOND FORM's CARD OF 'espalierlaw2.WorthSizes'. -/
def worthSizesUptoCard : Claim7 := { stood := { row := worthSizesUptoRow, standIns := [], harness := (true, "87952721e25b2d47a731b52e3a2efbd7654279aba4613bb3f954613407b7271a"), looks := true }, kinds := [], alts := [], laidByText := true, laidKinds := [.data, .data, .data, .sentinel, .sentinel], laidTests := true, laidLooks := .later }
def WorthSizesUptoCardSaid : Prop := Claim7.holds Tryd.pinned (.plain (OpenSpec.upto worthSizesSpec)) worthSizesUptoCard

/-- THE SECOND FORM's CARD OF 'espalierlaw2.WorthApart'. -/
def worthApartUptoCard : Claim7 := { stood := { row := worthApartUptoRow, standIns := [], harness := (true, "87952721e25b2d47a731b52e3a2efbd7654279aba4613bb3f954613407b7271a"), looks := true }, kinds := [], alts := [], laidByText := true, laidKinds := [.data, .data, .data, .sentinel, .sentinel], laidTests := true, laidLooks := .later }
def WorthApartUptoCardSaid : Prop := Claim7.holds Tryd.pinned (.plain (OpenSpec.upto worthApartSpec)) worthApartUptoCard

/-- THE SECOND FORM's CARD OF 'espalierlaw2.WorthFresh'. -/
def worthFreshUptoCard : Claim7 := { stood := { row := worthFreshUptoRow, standIns := [], harness := (true, "87952721e25b2d47a731b52e3a2efbd7654279aba4613bb3f954613407b7271a"), looks := true }, kinds := [], alts := [], laidByText := true, laidKinds := [.data, .data, .data, .sentinel, .sentinel], laidTests := true, laidLooks := .later }
def WorthFreshUptoCardSaid : Prop := Claim7.holds Tryd.pinned (.plain (OpenSpec.upto worthFreshSpec)) worthFreshUptoCard
end Rows
end Go.Proofs.YtkpnnhebfaggeaaDoor
