/-
  DERIVED. GIVEN WITH THE SEED: THE CARDS: each row of YthilnpfpllplaaaGreatDoorRows.lean that lists a variable, with what it lists TIED to the program's text (the seventh form; the later family's looks); each row that meets fmt, with fmt's text TOLD by the authors' own Lean function (tested against real Go, not proved from fmt's source: count such statements apart). THE CARD IS WHAT COUNTS. Prove the row's statement (the work); the ties are given (YthilnpfpllplaaaGreatDoorTie.lean); close each card by the builder's one call (the guide's Derived/Test/ToyasCard.lean, 'card_holds'). Laid BY PROGRAM, IN A SANDBOX (cutbox-door.mjs). By AI agents, Wed Nov 11 2026. No macro, syntax, notation, axiom, sorry.
-/
import Derived.Test.YthilnpfpllplaaaGreatDoorRows
import GoSem.ClaimSeven
namespace Go.Proofs.YthilnpfpllplaaaGreatDoor
namespace Rows

/-- THE TIED CARD OF 'edenlaw11.ImageWords'. -/
def imageWordsCard : Claim7 := { stood := { row := imageWordsRow, standIns := [], harness := (true, "114839978ce8f655d8069d56537471eb6a0205030c0131792772c9d8598aa085"), looks := true }, kinds := [], alts := [], laidByText := true, laidKinds := [.handle, .sentinel, .sentinel, .sentinel, .sentinel, .sentinel, .sentinel, .sentinel, .sentinel, .sentinel, .sentinel, .sentinel, .sentinel], laidTests := true, laidLooks := .later }
def ImageWordsCardSaid : Prop := Claim7.holds Tryz.pinned (.plain (OpenSpec.ofChange imageWordsSpec)) imageWordsCard

/-- THE TIED CARD OF 'edenlaw11.ImageLeasts'. -/
def imageLeastsCard : Claim7 := { stood := { row := imageLeastsRow, standIns := [], harness := (true, "114839978ce8f655d8069d56537471eb6a0205030c0131792772c9d8598aa085"), looks := true }, kinds := [], alts := [], laidByText := true, laidKinds := [.handle, .sentinel, .sentinel, .sentinel, .sentinel, .sentinel, .sentinel, .sentinel, .sentinel, .sentinel, .sentinel, .sentinel, .sentinel], laidTests := true, laidLooks := .later }
def ImageLeastsCardSaid : Prop := Claim7.holds Tryz.pinned (.plain (OpenSpec.ofChange imageLeastsSpec)) imageLeastsCard

/-- THE TIED CARD OF 'edenlaw11.ImageKeeps'. -/
def imageKeepsCard : Claim7 := { stood := { row := imageKeepsRow, standIns := [], harness := (true, "114839978ce8f655d8069d56537471eb6a0205030c0131792772c9d8598aa085"), looks := true }, kinds := [], alts := [], laidByText := true, laidKinds := [.handle, .sentinel, .sentinel, .sentinel, .sentinel, .sentinel, .sentinel, .sentinel, .sentinel, .sentinel, .sentinel, .sentinel, .sentinel], laidTests := true, laidLooks := .later }
def ImageKeepsCardSaid : Prop := Claim7.holds Tryz.pinned (.plain (OpenSpec.ofChange imageKeepsSpec)) imageKeepsCard

/-- THE TIED CARD OF 'edenlaw11.ImageRuns'. -/
def imageRunsCard : Claim7 := { stood := { row := imageRunsRow, standIns := [], harness := (true, "114839978ce8f655d8069d56537471eb6a0205030c0131792772c9d8598aa085"), looks := true }, kinds := [], alts := [], laidByText := true, laidKinds := [.handle, .sentinel, .sentinel, .sentinel, .sentinel, .sentinel, .sentinel, .sentinel, .sentinel, .sentinel, .sentinel, .sentinel, .sentinel], laidTests := true, laidLooks := .later }
def ImageRunsCardSaid : Prop := Claim7.holds Tryz.pinned (.plain (OpenSpec.ofChange imageRunsSpec)) imageRunsCard

/-- THE TIED CARD OF 'edenlaw11.ImageSames'. -/
def imageSamesCard : Claim7 := { stood := { row := imageSamesRow, standIns := [], harness := (true, "114839978ce8f655d8069d56537471eb6a0205030c0131792772c9d8598aa085"), looks := true }, kinds := [], alts := [], laidByText := true, laidKinds := [.handle, .sentinel, .sentinel, .sentinel, .sentinel, .sentinel, .sentinel, .sentinel, .sentinel, .sentinel, .sentinel, .sentinel, .sentinel], laidTests := true, laidLooks := .later }
def ImageSamesCardSaid : Prop := Claim7.holds Tryz.pinned (.plain (OpenSpec.ofChange imageSamesSpec)) imageSamesCard

/-- THE TIED CARD OF 'edenlaw11.ImageCounts'. -/
def imageCountsCard : Claim7 := { stood := { row := imageCountsRow, standIns := [], harness := (true, "114839978ce8f655d8069d56537471eb6a0205030c0131792772c9d8598aa085"), looks := true }, kinds := [], alts := [], laidByText := true, laidKinds := [.handle, .sentinel, .sentinel, .sentinel, .sentinel, .sentinel, .sentinel, .sentinel, .sentinel, .sentinel, .sentinel, .sentinel, .sentinel], laidTests := true, laidLooks := .later }
def ImageCountsCardSaid : Prop := Claim7.holds Tryz.pinned (.plain (OpenSpec.ofChange imageCountsSpec)) imageCountsCard

/-- THE SECOND FORM's CARD OF 'edenlaw11.ImageWords'. -/
def imageWordsUptoCard : Claim7 := { stood := { row := imageWordsUptoRow, standIns := [], harness := (true, "114839978ce8f655d8069d56537471eb6a0205030c0131792772c9d8598aa085"), looks := true }, kinds := [], alts := [], laidByText := true, laidKinds := [.handle, .sentinel, .sentinel, .sentinel, .sentinel, .sentinel, .sentinel, .sentinel, .sentinel, .sentinel, .sentinel, .sentinel, .sentinel], laidTests := true, laidLooks := .later }
def ImageWordsUptoCardSaid : Prop := Claim7.holds Tryz.pinned (.plain (OpenSpec.upto imageWordsSpec)) imageWordsUptoCard

/-- THE SECOND FORM's CARD OF 'edenlaw11.ImageLeasts'. -/
def imageLeastsUptoCard : Claim7 := { stood := { row := imageLeastsUptoRow, standIns := [], harness := (true, "114839978ce8f655d8069d56537471eb6a0205030c0131792772c9d8598aa085"), looks := true }, kinds := [], alts := [], laidByText := true, laidKinds := [.handle, .sentinel, .sentinel, .sentinel, .sentinel, .sentinel, .sentinel, .sentinel, .sentinel, .sentinel, .sentinel, .sentinel, .sentinel], laidTests := true, laidLooks := .later }
def ImageLeastsUptoCardSaid : Prop := Claim7.holds Tryz.pinned (.plain (OpenSpec.upto imageLeastsSpec)) imageLeastsUptoCard

/-- THE SECOND FORM's CARD OF 'edenlaw11.ImageKeeps'. -/
def imageKeepsUptoCard : Claim7 := { stood := { row := imageKeepsUptoRow, standIns := [], harness := (true, "114839978ce8f655d8069d56537471eb6a0205030c0131792772c9d8598aa085"), looks := true }, kinds := [], alts := [], laidByText := true, laidKinds := [.handle, .sentinel, .sentinel, .sentinel, .sentinel, .sentinel, .sentinel, .sentinel, .sentinel, .sentinel, .sentinel, .sentinel, .sentinel], laidTests := true, laidLooks := .later }
def ImageKeepsUptoCardSaid : Prop := Claim7.holds Tryz.pinned (.plain (OpenSpec.upto imageKeepsSpec)) imageKeepsUptoCard

/-- THE SECOND FORM's CARD OF 'edenlaw11.ImageRuns'. -/
def imageRunsUptoCard : Claim7 := { stood := { row := imageRunsUptoRow, standIns := [], harness := (true, "114839978ce8f655d8069d56537471eb6a0205030c0131792772c9d8598aa085"), looks := true }, kinds := [], alts := [], laidByText := true, laidKinds := [.handle, .sentinel, .sentinel, .sentinel, .sentinel, .sentinel, .sentinel, .sentinel, .sentinel, .sentinel, .sentinel, .sentinel, .sentinel], laidTests := true, laidLooks := .later }
def ImageRunsUptoCardSaid : Prop := Claim7.holds Tryz.pinned (.plain (OpenSpec.upto imageRunsSpec)) imageRunsUptoCard

/-- THE SECOND FORM's CARD OF 'edenlaw11.ImageSames'. -/
def imageSamesUptoCard : Claim7 := { stood := { row := imageSamesUptoRow, standIns := [], harness := (true, "114839978ce8f655d8069d56537471eb6a0205030c0131792772c9d8598aa085"), looks := true }, kinds := [], alts := [], laidByText := true, laidKinds := [.handle, .sentinel, .sentinel, .sentinel, .sentinel, .sentinel, .sentinel, .sentinel, .sentinel, .sentinel, .sentinel, .sentinel, .sentinel], laidTests := true, laidLooks := .later }
def ImageSamesUptoCardSaid : Prop := Claim7.holds Tryz.pinned (.plain (OpenSpec.upto imageSamesSpec)) imageSamesUptoCard

/-- THE SECOND FORM's CARD OF 'edenlaw11.ImageCounts'. -/
def imageCountsUptoCard : Claim7 := { stood := { row := imageCountsUptoRow, standIns := [], harness := (true, "114839978ce8f655d8069d56537471eb6a0205030c0131792772c9d8598aa085"), looks := true }, kinds := [], alts := [], laidByText := true, laidKinds := [.handle, .sentinel, .sentinel, .sentinel, .sentinel, .sentinel, .sentinel, .sentinel, .sentinel, .sentinel, .sentinel, .sentinel, .sentinel], laidTests := true, laidLooks := .later }
def ImageCountsUptoCardSaid : Prop := Claim7.holds Tryz.pinned (.plain (OpenSpec.upto imageCountsSpec)) imageCountsUptoCard
end Rows
end Go.Proofs.YthilnpfpllplaaaGreatDoor
