/-
  DERIVED. GIVEN WITH THE SEED: THE CARDS: each row of YtedmmmlahpmmoaaGreatDoorRows.lean that lists a variable, with what it lists TIED to the program's text (the seventh form; the later family's looks); each row that meets fmt, with fmt's text TOLD by the authors' own Lean function (tested against real Go, not proved from fmt's source: count such statements apart). THE CARD IS WHAT COUNTS. Prove the row's statement (the work); the ties are given (YtedmmmlahpmmoaaGreatDoorTie.lean); close each card by the builder's one call (the guide's Derived/Test/ToyasCard.lean, 'card_holds'). Laid BY PROGRAM, IN A SANDBOX (cutbox-door.mjs). By AI agents, Wed Nov 11 2026. No macro, syntax, notation, axiom, sorry.
-/
import Derived.Test.YtedmmmlahpmmoaaGreatDoorRows
import GoSem.ClaimSeven
namespace Go.Proofs.YtedmmmlahpmmoaaGreatDoor
namespace Rows

/-- THE TIED CARD OF 'edentop.WholeInverse'. -/
def wholeInverseCard : Claim7 := { stood := { row := wholeInverseRow, standIns := [], harness := (true, "faa172ce67fc741f86666192e79b282ad57e8cf613d385449410e17a329675ba"), looks := true }, kinds := [], alts := [], laidByText := true, laidKinds := [.sentinel, .sentinel, .sentinel, .sentinel, .sentinel, .sentinel, .sentinel, .sentinel, .sentinel, .sentinel, .sentinel, .sentinel], laidTests := true, laidLooks := .later }
def WholeInverseCardSaid : Prop := Claim7.holds Tryz.pinned (.plain (OpenSpec.ofChange wholeInverseSpec)) wholeInverseCard

/-- THE SECOND FORM's CARD OF 'edentop.WholeInverse'. -/
def wholeInverseUptoCard : Claim7 := { stood := { row := wholeInverseUptoRow, standIns := [], harness := (true, "faa172ce67fc741f86666192e79b282ad57e8cf613d385449410e17a329675ba"), looks := true }, kinds := [], alts := [], laidByText := true, laidKinds := [.sentinel, .sentinel, .sentinel, .sentinel, .sentinel, .sentinel, .sentinel, .sentinel, .sentinel, .sentinel, .sentinel, .sentinel], laidTests := true, laidLooks := .later }
def WholeInverseUptoCardSaid : Prop := Claim7.holds Tryz.pinned (.plain (OpenSpec.upto wholeInverseSpec)) wholeInverseUptoCard
end Rows
end Go.Proofs.YtedmmmlahpmmoaaGreatDoor
