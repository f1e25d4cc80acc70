/-
  DERIVED. GIVEN WITH THE SEED: THE CARDS: each row of YtiobnnhjnkcafaaDoorRows.lean that lists a variable, with what it lists TIED to the program's text (the seventh form; the later family's looks); each row that meets fmt, with fmt's text TOLD by the authors' own Lean function (tested against real Go, not proved from fmt's source: count such statements apart). THE CARD IS WHAT COUNTS. Prove the row's statement (the work); the ties are given (YtiobnnhjnkcafaaDoorTie.lean); close each card by the builder's one call (the guide's Derived/Test/ToyasCard.lean, 'card_holds'). Laid BY PROGRAM, IN A SANDBOX (cutbox-door.mjs). By AI agents, Wed Nov 11 2026. No macro, syntax, notation, axiom, sorry.
-/
import Derived.Test.YtiobnnhjnkcafaaDoorRows
import GoSem.ClaimSeven
namespace Go.Proofs.YtiobnnhjnkcafaaDoor
namespace Rows

/-- THE TIED CARD OF 'edenlaw09.BagPlays'. -/
def bagPlaysCard : Claim7 := { stood := { row := bagPlaysRow, standIns := [], harness := (true, "311bde1819632fba8a8ac7040218174d823b78c13ce6e8e3ecb68548ed434f24"), looks := true }, kinds := [], alts := [], laidByText := true, laidKinds := [.handle, .sentinel, .sentinel, .sentinel, .sentinel, .sentinel, .sentinel, .sentinel, .sentinel, .sentinel, .sentinel, .sentinel, .sentinel], laidTests := true, laidLooks := .later }
def BagPlaysCardSaid : Prop := Claim7.holds Tryd.pinned (.plain (OpenSpec.ofChange bagPlaysSpec)) bagPlaysCard

/-- THE SECOND FORM's CARD OF 'edenlaw09.BagPlays'. -/
def bagPlaysUptoCard : Claim7 := { stood := { row := bagPlaysUptoRow, standIns := [], harness := (true, "311bde1819632fba8a8ac7040218174d823b78c13ce6e8e3ecb68548ed434f24"), looks := true }, kinds := [], alts := [], laidByText := true, laidKinds := [.handle, .sentinel, .sentinel, .sentinel, .sentinel, .sentinel, .sentinel, .sentinel, .sentinel, .sentinel, .sentinel, .sentinel, .sentinel], laidTests := true, laidLooks := .later }
def BagPlaysUptoCardSaid : Prop := Claim7.holds Tryd.pinned (.plain (OpenSpec.upto bagPlaysSpec)) bagPlaysUptoCard
end Rows
end Go.Proofs.YtiobnnhjnkcafaaDoor
