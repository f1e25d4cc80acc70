/-
  DERIVED. GIVEN WITH THE SEED: THE CARDS: each row of YtfgjcdfmlpdkaaaGreatDoorRows.lean that lists a variable, with what it lists TIED to the program's text (the seventh form; the later family's looks); each row that meets fmt, with fmt's text TOLD by the authors' own Lean function (tested against real Go, not proved from fmt's source: count such statements apart). THE CARD IS WHAT COUNTS. Prove the row's statement (the work); the ties are given (YtfgjcdfmlpdkaaaGreatDoorTie.lean); close each card by the builder's one call (the guide's Derived/Test/ToyasCard.lean, 'card_holds'). Laid BY PROGRAM, IN A SANDBOX (cutbox-door.mjs). By AI agents, Wed Nov 11 2026. No macro, syntax, notation, axiom, sorry.
-/
import Derived.Test.YtfgjcdfmlpdkaaaGreatDoorRows
import GoSem.ClaimSeven
namespace Go.Proofs.YtfgjcdfmlpdkaaaGreatDoor
namespace Rows

/-- THE TIED CARD OF 'edenlaw04.RuleTexts'. -/
def ruleTextsCard : Claim7 := { stood := { row := ruleTextsRow, standIns := [], harness := (true, "1025feaf81bdc094d12e311fc568081a3c07817288193e50a3fd24efbe8199c2"), looks := true }, kinds := [], alts := [], laidByText := true, laidKinds := [.data, .handle, .sentinel, .sentinel, .sentinel, .sentinel, .sentinel, .sentinel, .sentinel, .sentinel, .sentinel, .sentinel, .sentinel, .sentinel, .pinned], laidTests := true, laidLooks := .later }
def RuleTextsCardSaid : Prop := Claim7.holds Tryz.pinned (.plain (OpenSpec.ofChange ruleTextsSpec)) ruleTextsCard

/-- THE SECOND FORM's CARD OF 'edenlaw04.RuleTexts'. -/
def ruleTextsUptoCard : Claim7 := { stood := { row := ruleTextsUptoRow, standIns := [], harness := (true, "1025feaf81bdc094d12e311fc568081a3c07817288193e50a3fd24efbe8199c2"), looks := true }, kinds := [], alts := [], laidByText := true, laidKinds := [.data, .handle, .sentinel, .sentinel, .sentinel, .sentinel, .sentinel, .sentinel, .sentinel, .sentinel, .sentinel, .sentinel, .sentinel, .sentinel, .pinned], laidTests := true, laidLooks := .later }
def RuleTextsUptoCardSaid : Prop := Claim7.holds Tryz.pinned (.plain (OpenSpec.upto ruleTextsSpec)) ruleTextsUptoCard
end Rows
end Go.Proofs.YtfgjcdfmlpdkaaaGreatDoor
