/-
  DERIVED. GIVEN WITH THE SEED: THE CARDS: each row of YtlajiblhnkognaaDoorRows.lean that lists a variable, with what it lists TIED to the program's text (the seventh form; the later family's looks); each row that meets fmt, with fmt's text TOLD by the authors' own Lean function (tested against real Go, not proved from fmt's source: count such statements apart). THE CARD IS WHAT COUNTS. Prove the row's statement (the work); the ties are given (YtlajiblhnkognaaDoorTie.lean); close each card by the builder's one call (the guide's Derived/Test/ToyasCard.lean, 'card_holds'). Laid BY PROGRAM, IN A SANDBOX (cutbox-door.mjs). By AI agents, Wed Nov 11 2026. No macro, syntax, notation, axiom, sorry.
-/
import Derived.Test.YtlajiblhnkognaaDoorRows
import GoSem.ClaimSeven
namespace Go.Proofs.YtlajiblhnkognaaDoor
namespace Rows

/-- THE TIED CARD OF 'edenlaw10.SubsetOntos'. -/
def subsetOntosCard : Claim7 := { stood := { row := subsetOntosRow, standIns := [], harness := (true, "ddc33fdc7b70a6643d348d30ec5449b951a8bd4d09aac064750b7bafea8d2fc8"), looks := true }, kinds := [], alts := [], laidByText := true, laidKinds := [.handle, .sentinel, .sentinel, .sentinel, .sentinel, .sentinel, .sentinel, .sentinel, .sentinel, .sentinel, .sentinel, .sentinel, .sentinel], laidTests := true, laidLooks := .later }
def SubsetOntosCardSaid : Prop := Claim7.holds Tryd.pinned (.plain (OpenSpec.ofChange subsetOntosSpec)) subsetOntosCard

/-- THE TIED CARD OF 'edenlaw10.SubsetWalks'. -/
def subsetWalksCard : Claim7 := { stood := { row := subsetWalksRow, standIns := [], harness := (true, "ddc33fdc7b70a6643d348d30ec5449b951a8bd4d09aac064750b7bafea8d2fc8"), looks := true }, kinds := [], alts := [], laidByText := true, laidKinds := [.handle, .sentinel, .sentinel, .sentinel, .sentinel, .sentinel, .sentinel, .sentinel, .sentinel, .sentinel, .sentinel, .sentinel, .sentinel], laidTests := true, laidLooks := .later }
def SubsetWalksCardSaid : Prop := Claim7.holds Tryd.pinned (.plain (OpenSpec.ofChange subsetWalksSpec)) subsetWalksCard

/-- THE TIED CARD OF 'edenlaw10.SubsetRuns'. -/
def subsetRunsCard : Claim7 := { stood := { row := subsetRunsRow, standIns := [], harness := (true, "ddc33fdc7b70a6643d348d30ec5449b951a8bd4d09aac064750b7bafea8d2fc8"), looks := true }, kinds := [], alts := [], laidByText := true, laidKinds := [.handle, .sentinel, .sentinel, .sentinel, .sentinel, .sentinel, .sentinel, .sentinel, .sentinel, .sentinel, .sentinel, .sentinel, .sentinel], laidTests := true, laidLooks := .later }
def SubsetRunsCardSaid : Prop := Claim7.holds Tryd.pinned (.plain (OpenSpec.ofChange subsetRunsSpec)) subsetRunsCard

/-- THE TIED CARD OF 'edenlaw10.SubsetKeeps'. -/
def subsetKeepsCard : Claim7 := { stood := { row := subsetKeepsRow, standIns := [], harness := (true, "ddc33fdc7b70a6643d348d30ec5449b951a8bd4d09aac064750b7bafea8d2fc8"), looks := true }, kinds := [], alts := [], laidByText := true, laidKinds := [.handle, .sentinel, .sentinel, .sentinel, .sentinel, .sentinel, .sentinel, .sentinel, .sentinel, .sentinel, .sentinel, .sentinel, .sentinel], laidTests := true, laidLooks := .later }
def SubsetKeepsCardSaid : Prop := Claim7.holds Tryd.pinned (.plain (OpenSpec.ofChange subsetKeepsSpec)) subsetKeepsCard

/-- THE TIED CARD OF 'edenlaw10.SubsetOrphans'. -/
def subsetOrphansCard : Claim7 := { stood := { row := subsetOrphansRow, standIns := [], harness := (true, "ddc33fdc7b70a6643d348d30ec5449b951a8bd4d09aac064750b7bafea8d2fc8"), looks := true }, kinds := [], alts := [], laidByText := true, laidKinds := [.handle, .sentinel, .sentinel, .sentinel, .sentinel, .sentinel, .sentinel, .sentinel, .sentinel, .sentinel, .sentinel, .sentinel, .sentinel], laidTests := true, laidLooks := .later }
def SubsetOrphansCardSaid : Prop := Claim7.holds Tryd.pinned (.plain (OpenSpec.ofChange subsetOrphansSpec)) subsetOrphansCard

/-- THE SECOND FORM's CARD OF 'edenlaw10.SubsetOntos'. -/
def subsetOntosUptoCard : Claim7 := { stood := { row := subsetOntosUptoRow, standIns := [], harness := (true, "ddc33fdc7b70a6643d348d30ec5449b951a8bd4d09aac064750b7bafea8d2fc8"), looks := true }, kinds := [], alts := [], laidByText := true, laidKinds := [.handle, .sentinel, .sentinel, .sentinel, .sentinel, .sentinel, .sentinel, .sentinel, .sentinel, .sentinel, .sentinel, .sentinel, .sentinel], laidTests := true, laidLooks := .later }
def SubsetOntosUptoCardSaid : Prop := Claim7.holds Tryd.pinned (.plain (OpenSpec.upto subsetOntosSpec)) subsetOntosUptoCard

/-- THE SECOND FORM's CARD OF 'edenlaw10.SubsetWalks'. -/
def subsetWalksUptoCard : Claim7 := { stood := { row := subsetWalksUptoRow, standIns := [], harness := (true, "ddc33fdc7b70a6643d348d30ec5449b951a8bd4d09aac064750b7bafea8d2fc8"), looks := true }, kinds := [], alts := [], laidByText := true, laidKinds := [.handle, .sentinel, .sentinel, .sentinel, .sentinel, .sentinel, .sentinel, .sentinel, .sentinel, .sentinel, .sentinel, .sentinel, .sentinel], laidTests := true, laidLooks := .later }
def SubsetWalksUptoCardSaid : Prop := Claim7.holds Tryd.pinned (.plain (OpenSpec.upto subsetWalksSpec)) subsetWalksUptoCard

/-- THE SECOND FORM's CARD OF 'edenlaw10.SubsetRuns'. -/
def subsetRunsUptoCard : Claim7 := { stood := { row := subsetRunsUptoRow, standIns := [], harness := (true, "ddc33fdc7b70a6643d348d30ec5449b951a8bd4d09aac064750b7bafea8d2fc8"), looks := true }, kinds := [], alts := [], laidByText := true, laidKinds := [.handle, .sentinel, .sentinel, .sentinel, .sentinel, .sentinel, .sentinel, .sentinel, .sentinel, .sentinel, .sentinel, .sentinel, .sentinel], laidTests := true, laidLooks := .later }
def SubsetRunsUptoCardSaid : Prop := Claim7.holds Tryd.pinned (.plain (OpenSpec.upto subsetRunsSpec)) subsetRunsUptoCard

/-- THE SECOND FORM's CARD OF 'edenlaw10.SubsetKeeps'. -/
def subsetKeepsUptoCard : Claim7 := { stood := { row := subsetKeepsUptoRow, standIns := [], harness := (true, "ddc33fdc7b70a6643d348d30ec5449b951a8bd4d09aac064750b7bafea8d2fc8"), looks := true }, kinds := [], alts := [], laidByText := true, laidKinds := [.handle, .sentinel, .sentinel, .sentinel, .sentinel, .sentinel, .sentinel, .sentinel, .sentinel, .sentinel, .sentinel, .sentinel, .sentinel], laidTests := true, laidLooks := .later }
def SubsetKeepsUptoCardSaid : Prop := Claim7.holds Tryd.pinned (.plain (OpenSpec.upto subsetKeepsSpec)) subsetKeepsUptoCard

/-- THE SECOND FORM's CARD OF 'edenlaw10.SubsetOrphans'. -/
def subsetOrphansUptoCard : Claim7 := { stood := { row := subsetOrphansUptoRow, standIns := [], harness := (true, "ddc33fdc7b70a6643d348d30ec5449b951a8bd4d09aac064750b7bafea8d2fc8"), looks := true }, kinds := [], alts := [], laidByText := true, laidKinds := [.handle, .sentinel, .sentinel, .sentinel, .sentinel, .sentinel, .sentinel, .sentinel, .sentinel, .sentinel, .sentinel, .sentinel, .sentinel], laidTests := true, laidLooks := .later }
def SubsetOrphansUptoCardSaid : Prop := Claim7.holds Tryd.pinned (.plain (OpenSpec.upto subsetOrphansSpec)) subsetOrphansUptoCard
end Rows
end Go.Proofs.YtlajiblhnkognaaDoor
