/-
  DERIVED. GIVEN WITH THE SEED: THE CARDS: each row of YtibogpidnnodnaaGreatDoorRows.lean that lists a variable, with what it lists TIED to the program's text (the seventh form; the later family's looks); each row that meets fmt, with fmt's text TOLD by the authors' own Lean function (tested against real Go, not proved from fmt's source: count such statements apart). THE CARD IS WHAT COUNTS. Prove the row's statement (the work); the ties are given (YtibogpidnnodnaaGreatDoorTie.lean); close each card by the builder's one call (the guide's Derived/Test/ToyasCard.lean, 'card_holds'). Laid BY PROGRAM, IN A SANDBOX (cutbox-door.mjs). By AI agents, Wed Nov 11 2026. No macro, syntax, notation, axiom, sorry.
-/
import Derived.Test.YtibogpidnnodnaaGreatDoorRows
import GoSem.ClaimSeven
namespace Go.Proofs.YtibogpidnnodnaaGreatDoor
namespace Rows

/-- THE TIED CARD OF 'packsaddlelaw20.CheckSame'. -/
def checkSameCard : Claim7 := { stood := { row := checkSameRow, standIns := [], harness := (true, "70b3c751bc50bcec924c57e844fe1bec5f3a0d5fddca2b7225e008fffeff073d"), looks := false }, kinds := [], alts := [], laidByText := true, laidKinds := [.data, .pinned], laidTests := true, laidLooks := .later }
def CheckSameCardSaid : Prop := Claim7.holds Tryz.pinned (.plain (OpenSpec.ofChange checkSameSpec)) checkSameCard

/-- THE SECOND FORM's CARD OF 'packsaddlelaw20.CheckSame'. -/
def checkSameUptoCard : Claim7 := { stood := { row := checkSameUptoRow, standIns := [], harness := (true, "70b3c751bc50bcec924c57e844fe1bec5f3a0d5fddca2b7225e008fffeff073d"), looks := false }, kinds := [], alts := [], laidByText := true, laidKinds := [.data, .pinned], laidTests := true, laidLooks := .later }
def CheckSameUptoCardSaid : Prop := Claim7.holds Tryz.pinned (.plain (OpenSpec.upto checkSameSpec)) checkSameUptoCard
end Rows
end Go.Proofs.YtibogpidnnodnaaGreatDoor
