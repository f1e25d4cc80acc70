/-
  DERIVED. GIVEN WITH THE SEED: THE CARDS: each row of YtfgjcdfmlpdkaaaDoorRows.lean that lists a variable, with what it lists TIED to the program's text (the seventh form; the later family's looks); each row that meets fmt, with fmt's text TOLD by the authors' own Lean function (tested against real Go, not proved from fmt's source: count such statements apart). THE CARD IS WHAT COUNTS. Prove the row's statement (the work); the ties are given (YtfgjcdfmlpdkaaaDoorTie.lean); close each card by the builder's one call (the guide's Derived/Test/ToyasCard.lean, 'card_holds'). Laid BY PROGRAM, IN A SANDBOX (cutbox-door.mjs). By AI agents, Wed Nov 11 2026. No macro, syntax, notation, axiom, sorry.
-/
import Derived.Test.YtfgjcdfmlpdkaaaDoorRows
import GoSem.ClaimSeven
namespace Go.Proofs.YtfgjcdfmlpdkaaaDoor
namespace Rows

/-- THE TIED CARD OF 'edenlaw08.OverKeeps'. -/
def overKeepsCard : Claim7 := { stood := { row := overKeepsRow, standIns := [], harness := (true, "a9073ff241a854eda6c12b699a422ef3fe523158b99852984f397551662add4f"), looks := true }, kinds := [], alts := [], laidByText := true, laidKinds := [.sentinel, .sentinel, .sentinel, .sentinel, .sentinel, .sentinel, .sentinel, .sentinel, .sentinel, .sentinel, .sentinel, .sentinel], laidTests := true, laidLooks := .later }
def OverKeepsCardSaid : Prop := Claim7.holds Tryd.pinned (.plain (OpenSpec.ofChange overKeepsSpec)) overKeepsCard

/-- THE TIED CARD OF 'edenlaw04.RuleSums'. -/
def ruleSumsCard : Claim7 := { stood := { row := ruleSumsRow, standIns := [], harness := (true, "a9073ff241a854eda6c12b699a422ef3fe523158b99852984f397551662add4f"), looks := true }, kinds := [], alts := [], laidByText := true, laidKinds := [.sentinel, .sentinel, .sentinel, .sentinel, .sentinel, .sentinel, .sentinel, .sentinel, .sentinel, .sentinel, .sentinel, .sentinel], laidTests := true, laidLooks := .later }
def RuleSumsCardSaid : Prop := Claim7.holds Tryd.pinned (.plain (OpenSpec.ofChange ruleSumsSpec)) ruleSumsCard

/-- THE TIED CARD OF 'edenlaw04.RulePieces'. -/
def rulePiecesCard : Claim7 := { stood := { row := rulePiecesRow, standIns := [], harness := (true, "a9073ff241a854eda6c12b699a422ef3fe523158b99852984f397551662add4f"), looks := true }, kinds := [], alts := [], laidByText := true, laidKinds := [.sentinel, .sentinel, .sentinel, .sentinel, .sentinel, .sentinel, .sentinel, .sentinel, .sentinel, .sentinel, .sentinel, .sentinel], laidTests := true, laidLooks := .later }
def RulePiecesCardSaid : Prop := Claim7.holds Tryd.pinned (.plain (OpenSpec.ofChange rulePiecesSpec)) rulePiecesCard

/-- THE TIED CARD OF 'edenlaw08.OverBack'. -/
def overBackCard : Claim7 := { stood := { row := overBackRow, standIns := [], harness := (true, "a9073ff241a854eda6c12b699a422ef3fe523158b99852984f397551662add4f"), looks := true }, kinds := [], alts := [], laidByText := true, laidKinds := [.sentinel, .sentinel, .sentinel, .sentinel, .sentinel, .sentinel, .sentinel, .sentinel, .sentinel, .sentinel, .sentinel, .sentinel], laidTests := true, laidLooks := .later }
def OverBackCardSaid : Prop := Claim7.holds Tryd.pinned (.plain (OpenSpec.ofChange overBackSpec)) overBackCard

/-- THE TIED CARD OF 'edenlaw04.RuleKeeps'. -/
def ruleKeepsCard : Claim7 := { stood := { row := ruleKeepsRow, standIns := [], harness := (true, "a9073ff241a854eda6c12b699a422ef3fe523158b99852984f397551662add4f"), looks := true }, kinds := [], alts := [], laidByText := true, laidKinds := [.sentinel, .sentinel, .sentinel, .sentinel, .sentinel, .sentinel, .sentinel, .sentinel, .sentinel, .sentinel, .sentinel, .sentinel], laidTests := true, laidLooks := .later }
def RuleKeepsCardSaid : Prop := Claim7.holds Tryd.pinned (.plain (OpenSpec.ofChange ruleKeepsSpec)) ruleKeepsCard

/-- THE TIED CARD OF 'edenlaw08.OverBefore'. -/
def overBeforeCard : Claim7 := { stood := { row := overBeforeRow, standIns := [], harness := (true, "a9073ff241a854eda6c12b699a422ef3fe523158b99852984f397551662add4f"), looks := true }, kinds := [], alts := [], laidByText := true, laidKinds := [.handle, .sentinel, .sentinel, .sentinel, .sentinel, .sentinel, .sentinel, .sentinel, .sentinel, .sentinel, .sentinel, .sentinel, .sentinel], laidTests := true, laidLooks := .later }
def OverBeforeCardSaid : Prop := Claim7.holds Tryd.pinned (.plain (OpenSpec.ofChange overBeforeSpec)) overBeforeCard

/-- THE TIED CARD OF 'edenlaw08.OverEdges'. -/
def overEdgesCard : Claim7 := { stood := { row := overEdgesRow, standIns := [], harness := (true, "a9073ff241a854eda6c12b699a422ef3fe523158b99852984f397551662add4f"), looks := true }, kinds := [], alts := [], laidByText := true, laidKinds := [.handle, .sentinel, .sentinel, .sentinel, .sentinel, .sentinel, .sentinel, .sentinel, .sentinel, .sentinel, .sentinel, .sentinel, .sentinel], laidTests := true, laidLooks := .later }
def OverEdgesCardSaid : Prop := Claim7.holds Tryd.pinned (.plain (OpenSpec.ofChange overEdgesSpec)) overEdgesCard

/-- THE TIED CARD OF 'edenlaw08.OverPaths'. -/
def overPathsCard : Claim7 := { stood := { row := overPathsRow, standIns := [], harness := (true, "a9073ff241a854eda6c12b699a422ef3fe523158b99852984f397551662add4f"), looks := true }, kinds := [], alts := [], laidByText := true, laidKinds := [.handle, .sentinel, .sentinel, .sentinel, .sentinel, .sentinel, .sentinel, .sentinel, .sentinel, .sentinel, .sentinel, .sentinel, .sentinel], laidTests := true, laidLooks := .later }
def OverPathsCardSaid : Prop := Claim7.holds Tryd.pinned (.plain (OpenSpec.ofChange overPathsSpec)) overPathsCard

/-- THE TIED CARD OF 'edenlaw04.RuleChecks'. -/
def ruleChecksCard : Claim7 := { stood := { row := ruleChecksRow, standIns := [], harness := (true, "a9073ff241a854eda6c12b699a422ef3fe523158b99852984f397551662add4f"), looks := true }, kinds := [], alts := [], laidByText := true, laidKinds := [.handle, .sentinel, .sentinel, .sentinel, .sentinel, .sentinel, .sentinel, .sentinel, .sentinel, .sentinel, .sentinel, .sentinel, .sentinel], laidTests := true, laidLooks := .later }
def RuleChecksCardSaid : Prop := Claim7.holds Tryd.pinned (.plain (OpenSpec.ofChange ruleChecksSpec)) ruleChecksCard

/-- THE TIED CARD OF 'edenlaw04.RuleSteps'. -/
def ruleStepsCard : Claim7 := { stood := { row := ruleStepsRow, standIns := [], harness := (true, "a9073ff241a854eda6c12b699a422ef3fe523158b99852984f397551662add4f"), looks := true }, kinds := [], alts := [], laidByText := true, laidKinds := [.handle, .sentinel, .sentinel, .sentinel, .sentinel, .sentinel, .sentinel, .sentinel, .sentinel, .sentinel, .sentinel, .sentinel, .sentinel], laidTests := true, laidLooks := .later }
def RuleStepsCardSaid : Prop := Claim7.holds Tryd.pinned (.plain (OpenSpec.ofChange ruleStepsSpec)) ruleStepsCard

/-- THE TIED CARD OF 'edenlaw04.RuleCodes'. -/
def ruleCodesCard : Claim7 := { stood := { row := ruleCodesRow, standIns := [], harness := (true, "a9073ff241a854eda6c12b699a422ef3fe523158b99852984f397551662add4f"), looks := true }, kinds := [], alts := [], laidByText := true, laidKinds := [.handle, .sentinel, .sentinel, .sentinel, .sentinel, .sentinel, .sentinel, .sentinel, .sentinel, .sentinel, .sentinel, .sentinel, .sentinel], laidTests := true, laidLooks := .later }
def RuleCodesCardSaid : Prop := Claim7.holds Tryd.pinned (.plain (OpenSpec.ofChange ruleCodesSpec)) ruleCodesCard

/-- THE SECOND FORM's CARD OF 'edenlaw08.OverKeeps'. -/
def overKeepsUptoCard : Claim7 := { stood := { row := overKeepsUptoRow, standIns := [], harness := (true, "a9073ff241a854eda6c12b699a422ef3fe523158b99852984f397551662add4f"), looks := true }, kinds := [], alts := [], laidByText := true, laidKinds := [.sentinel, .sentinel, .sentinel, .sentinel, .sentinel, .sentinel, .sentinel, .sentinel, .sentinel, .sentinel, .sentinel, .sentinel], laidTests := true, laidLooks := .later }
def OverKeepsUptoCardSaid : Prop := Claim7.holds Tryd.pinned (.plain (OpenSpec.upto overKeepsSpec)) overKeepsUptoCard

/-- THE SECOND FORM's CARD OF 'edenlaw04.RuleSums'. -/
def ruleSumsUptoCard : Claim7 := { stood := { row := ruleSumsUptoRow, standIns := [], harness := (true, "a9073ff241a854eda6c12b699a422ef3fe523158b99852984f397551662add4f"), looks := true }, kinds := [], alts := [], laidByText := true, laidKinds := [.sentinel, .sentinel, .sentinel, .sentinel, .sentinel, .sentinel, .sentinel, .sentinel, .sentinel, .sentinel, .sentinel, .sentinel], laidTests := true, laidLooks := .later }
def RuleSumsUptoCardSaid : Prop := Claim7.holds Tryd.pinned (.plain (OpenSpec.upto ruleSumsSpec)) ruleSumsUptoCard

/-- THE SECOND FORM's CARD OF 'edenlaw04.RulePieces'. -/
def rulePiecesUptoCard : Claim7 := { stood := { row := rulePiecesUptoRow, standIns := [], harness := (true, "a9073ff241a854eda6c12b699a422ef3fe523158b99852984f397551662add4f"), looks := true }, kinds := [], alts := [], laidByText := true, laidKinds := [.sentinel, .sentinel, .sentinel, .sentinel, .sentinel, .sentinel, .sentinel, .sentinel, .sentinel, .sentinel, .sentinel, .sentinel], laidTests := true, laidLooks := .later }
def RulePiecesUptoCardSaid : Prop := Claim7.holds Tryd.pinned (.plain (OpenSpec.upto rulePiecesSpec)) rulePiecesUptoCard

/-- THE SECOND FORM's CARD OF 'edenlaw08.OverBack'. -/
def overBackUptoCard : Claim7 := { stood := { row := overBackUptoRow, standIns := [], harness := (true, "a9073ff241a854eda6c12b699a422ef3fe523158b99852984f397551662add4f"), looks := true }, kinds := [], alts := [], laidByText := true, laidKinds := [.sentinel, .sentinel, .sentinel, .sentinel, .sentinel, .sentinel, .sentinel, .sentinel, .sentinel, .sentinel, .sentinel, .sentinel], laidTests := true, laidLooks := .later }
def OverBackUptoCardSaid : Prop := Claim7.holds Tryd.pinned (.plain (OpenSpec.upto overBackSpec)) overBackUptoCard

/-- THE SECOND FORM's CARD OF 'edenlaw04.RuleKeeps'. -/
def ruleKeepsUptoCard : Claim7 := { stood := { row := ruleKeepsUptoRow, standIns := [], harness := (true, "a9073ff241a854eda6c12b699a422ef3fe523158b99852984f397551662add4f"), looks := true }, kinds := [], alts := [], laidByText := true, laidKinds := [.sentinel, .sentinel, .sentinel, .sentinel, .sentinel, .sentinel, .sentinel, .sentinel, .sentinel, .sentinel, .sentinel, .sentinel], laidTests := true, laidLooks := .later }
def RuleKeepsUptoCardSaid : Prop := Claim7.holds Tryd.pinned (.plain (OpenSpec.upto ruleKeepsSpec)) ruleKeepsUptoCard

/-- THE SECOND FORM's CARD OF 'edenlaw08.OverBefore'. -/
def overBeforeUptoCard : Claim7 := { stood := { row := overBeforeUptoRow, standIns := [], harness := (true, "a9073ff241a854eda6c12b699a422ef3fe523158b99852984f397551662add4f"), looks := true }, kinds := [], alts := [], laidByText := true, laidKinds := [.handle, .sentinel, .sentinel, .sentinel, .sentinel, .sentinel, .sentinel, .sentinel, .sentinel, .sentinel, .sentinel, .sentinel, .sentinel], laidTests := true, laidLooks := .later }
def OverBeforeUptoCardSaid : Prop := Claim7.holds Tryd.pinned (.plain (OpenSpec.upto overBeforeSpec)) overBeforeUptoCard

/-- THE SECOND FORM's CARD OF 'edenlaw08.OverEdges'. -/
def overEdgesUptoCard : Claim7 := { stood := { row := overEdgesUptoRow, standIns := [], harness := (true, "a9073ff241a854eda6c12b699a422ef3fe523158b99852984f397551662add4f"), looks := true }, kinds := [], alts := [], laidByText := true, laidKinds := [.handle, .sentinel, .sentinel, .sentinel, .sentinel, .sentinel, .sentinel, .sentinel, .sentinel, .sentinel, .sentinel, .sentinel, .sentinel], laidTests := true, laidLooks := .later }
def OverEdgesUptoCardSaid : Prop := Claim7.holds Tryd.pinned (.plain (OpenSpec.upto overEdgesSpec)) overEdgesUptoCard

/-- THE SECOND FORM's CARD OF 'edenlaw08.OverPaths'. -/
def overPathsUptoCard : Claim7 := { stood := { row := overPathsUptoRow, standIns := [], harness := (true, "a9073ff241a854eda6c12b699a422ef3fe523158b99852984f397551662add4f"), looks := true }, kinds := [], alts := [], laidByText := true, laidKinds := [.handle, .sentinel, .sentinel, .sentinel, .sentinel, .sentinel, .sentinel, .sentinel, .sentinel, .sentinel, .sentinel, .sentinel, .sentinel], laidTests := true, laidLooks := .later }
def OverPathsUptoCardSaid : Prop := Claim7.holds Tryd.pinned (.plain (OpenSpec.upto overPathsSpec)) overPathsUptoCard

/-- THE SECOND FORM's CARD OF 'edenlaw04.RuleChecks'. -/
def ruleChecksUptoCard : Claim7 := { stood := { row := ruleChecksUptoRow, standIns := [], harness := (true, "a9073ff241a854eda6c12b699a422ef3fe523158b99852984f397551662add4f"), looks := true }, kinds := [], alts := [], laidByText := true, laidKinds := [.handle, .sentinel, .sentinel, .sentinel, .sentinel, .sentinel, .sentinel, .sentinel, .sentinel, .sentinel, .sentinel, .sentinel, .sentinel], laidTests := true, laidLooks := .later }
def RuleChecksUptoCardSaid : Prop := Claim7.holds Tryd.pinned (.plain (OpenSpec.upto ruleChecksSpec)) ruleChecksUptoCard

/-- THE SECOND FORM's CARD OF 'edenlaw04.RuleSteps'. -/
def ruleStepsUptoCard : Claim7 := { stood := { row := ruleStepsUptoRow, standIns := [], harness := (true, "a9073ff241a854eda6c12b699a422ef3fe523158b99852984f397551662add4f"), looks := true }, kinds := [], alts := [], laidByText := true, laidKinds := [.handle, .sentinel, .sentinel, .sentinel, .sentinel, .sentinel, .sentinel, .sentinel, .sentinel, .sentinel, .sentinel, .sentinel, .sentinel], laidTests := true, laidLooks := .later }
def RuleStepsUptoCardSaid : Prop := Claim7.holds Tryd.pinned (.plain (OpenSpec.upto ruleStepsSpec)) ruleStepsUptoCard

/-- THE SECOND FORM's CARD OF 'edenlaw04.RuleCodes'. -/
def ruleCodesUptoCard : Claim7 := { stood := { row := ruleCodesUptoRow, standIns := [], harness := (true, "a9073ff241a854eda6c12b699a422ef3fe523158b99852984f397551662add4f"), looks := true }, kinds := [], alts := [], laidByText := true, laidKinds := [.handle, .sentinel, .sentinel, .sentinel, .sentinel, .sentinel, .sentinel, .sentinel, .sentinel, .sentinel, .sentinel, .sentinel, .sentinel], laidTests := true, laidLooks := .later }
def RuleCodesUptoCardSaid : Prop := Claim7.holds Tryd.pinned (.plain (OpenSpec.upto ruleCodesSpec)) ruleCodesUptoCard
end Rows
end Go.Proofs.YtfgjcdfmlpdkaaaDoor
