/-
  DERIVED. GIVEN WITH THE SEED: THE CARDS: each row of YtpjafbinlklojaaDoorRows.lean that lists a variable, with what it lists TIED to the program's text (the seventh form; the later family's looks); each row that meets fmt, with fmt's text TOLD by the authors' own Lean function (tested against real Go, not proved from fmt's source: count such statements apart). THE CARD IS WHAT COUNTS. Prove the row's statement (the work); the ties are given (YtpjafbinlklojaaDoorTie.lean); close each card by the builder's one call (the guide's Derived/Test/ToyasCard.lean, 'card_holds'). Laid BY PROGRAM, IN A SANDBOX (cutbox-door.mjs). By AI agents, Wed Nov 11 2026. No macro, syntax, notation, axiom, sorry.
-/
import Derived.Test.YtpjafbinlklojaaDoorRows
import GoSem.ClaimSeven
namespace Go.Proofs.YtpjafbinlklojaaDoor
namespace Rows

/-- THE TIED CARD OF 'packsaddlelaw35.ListingClasses'. -/
def listingClassesCard : Claim7 := { stood := { row := listingClassesRow, standIns := [], harness := (true, "f40bd259cc0ef4418bb8fc3740ad151be9d6ce9de431dc9c6bec0fe63ef79032"), looks := false }, kinds := [], alts := [], laidByText := true, laidKinds := [.data, .data, .data], laidTests := true, laidLooks := .later }
def ListingClassesCardSaid : Prop := Claim7.holds Tryd.pinned (.plain (OpenSpec.ofChange listingClassesSpec)) listingClassesCard

/-- THE SECOND FORM's CARD OF 'packsaddlelaw35.ListingClasses'. -/
def listingClassesUptoCard : Claim7 := { stood := { row := listingClassesUptoRow, standIns := [], harness := (true, "f40bd259cc0ef4418bb8fc3740ad151be9d6ce9de431dc9c6bec0fe63ef79032"), looks := false }, kinds := [], alts := [], laidByText := true, laidKinds := [.data, .data, .data], laidTests := true, laidLooks := .later }
def ListingClassesUptoCardSaid : Prop := Claim7.holds Tryd.pinned (.plain (OpenSpec.upto listingClassesSpec)) listingClassesUptoCard
end Rows
end Go.Proofs.YtpjafbinlklojaaDoor
