/-
  DERIVED. GIVEN WITH THE SEED: THE CARDS: each row of YtmidabbfjciogaaDoorRows.lean that lists a variable, with what it lists TIED to the program's text (the seventh form; the later family's looks); each row that meets fmt, with fmt's text TOLD by the authors' own Lean function (tested against real Go, not proved from fmt's source: count such statements apart). THE CARD IS WHAT COUNTS. Prove the row's statement (the work); the ties are given (YtmidabbfjciogaaDoorTie.lean); close each card by the builder's one call (the guide's Derived/Test/ToyasCard.lean, 'card_holds'). Laid BY PROGRAM, IN A SANDBOX (cutbox-door.mjs). By AI agents, Wed Nov 11 2026. No macro, syntax, notation, axiom, sorry.
-/
import Derived.Test.YtmidabbfjciogaaDoorRows
import GoSem.ClaimSeven
namespace Go.Proofs.YtmidabbfjciogaaDoor
namespace Rows

/-- THE TIED CARD OF 'packsaddlelaw35.ListingClasses'. -/
def listingClassesCard : Claim7 := { stood := { row := listingClassesRow, standIns := [], harness := (true, "6b9391bf96236119c53f6fc990f27ecd82f420fdbfda857c3cb2e3853e19a3ce"), looks := false }, kinds := [], alts := [], laidByText := true, laidKinds := [.data, .data, .data], laidTests := true, laidLooks := .later }
def ListingClassesCardSaid : Prop := Claim7.holds Tryd.pinned (.plain (OpenSpec.ofChange listingClassesSpec)) listingClassesCard

/-- THE TIED CARD OF 'packsaddlelaw35.ListingApart'. -/
def listingApartCard : Claim7 := { stood := { row := listingApartRow, standIns := [], harness := (true, "6b9391bf96236119c53f6fc990f27ecd82f420fdbfda857c3cb2e3853e19a3ce"), looks := false }, kinds := [], alts := [], laidByText := true, laidKinds := [.data, .data, .data], laidTests := true, laidLooks := .later }
def ListingApartCardSaid : Prop := Claim7.holds Tryd.pinned (.plain (OpenSpec.ofChange listingApartSpec)) listingApartCard

/-- THE SECOND FORM's CARD OF 'packsaddlelaw35.ListingClasses'. -/
def listingClassesUptoCard : Claim7 := { stood := { row := listingClassesUptoRow, standIns := [], harness := (true, "6b9391bf96236119c53f6fc990f27ecd82f420fdbfda857c3cb2e3853e19a3ce"), looks := false }, kinds := [], alts := [], laidByText := true, laidKinds := [.data, .data, .data], laidTests := true, laidLooks := .later }
def ListingClassesUptoCardSaid : Prop := Claim7.holds Tryd.pinned (.plain (OpenSpec.upto listingClassesSpec)) listingClassesUptoCard

/-- THE SECOND FORM's CARD OF 'packsaddlelaw35.ListingApart'. -/
def listingApartUptoCard : Claim7 := { stood := { row := listingApartUptoRow, standIns := [], harness := (true, "6b9391bf96236119c53f6fc990f27ecd82f420fdbfda857c3cb2e3853e19a3ce"), looks := false }, kinds := [], alts := [], laidByText := true, laidKinds := [.data, .data, .data], laidTests := true, laidLooks := .later }
def ListingApartUptoCardSaid : Prop := Claim7.holds Tryd.pinned (.plain (OpenSpec.upto listingApartSpec)) listingApartUptoCard
end Rows
end Go.Proofs.YtmidabbfjciogaaDoor
