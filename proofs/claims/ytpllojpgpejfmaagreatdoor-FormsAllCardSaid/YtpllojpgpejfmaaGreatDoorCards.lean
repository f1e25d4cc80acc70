/-
  DERIVED. GIVEN WITH THE SEED: THE CARDS: each row of YtpllojpgpejfmaaGreatDoorRows.lean that lists a variable, with what it lists TIED to the program's text (the seventh form; the later family's looks); each row that meets fmt, with fmt's text TOLD by the authors' own Lean function (tested against real Go, not proved from fmt's source: count such statements apart). THE CARD IS WHAT COUNTS. Prove the row's statement (the work); the ties are given (YtpllojpgpejfmaaGreatDoorTie.lean); close each card by the builder's one call (the guide's Derived/Test/ToyasCard.lean, 'card_holds'). Laid BY PROGRAM, IN A SANDBOX (cutbox-door.mjs). By AI agents, Wed Nov 11 2026. No macro, syntax, notation, axiom, sorry.
-/
import Derived.Test.YtpllojpgpejfmaaGreatDoorRows
import GoSem.ClaimSeven
namespace Go.Proofs.YtpllojpgpejfmaaGreatDoor
namespace Rows

/-- THE TIED CARD OF 'edenlaw05.FormsAll'. -/
def formsAllCard : Claim7 := { stood := { row := formsAllRow, standIns := [], harness := (true, "cb3a0edce09585500cdcb7ce29f159d0082249fe81a67ca2aefa722086c989c5"), looks := true }, kinds := [], alts := [], laidByText := true, laidKinds := [.data, .handle, .sentinel, .sentinel, .sentinel, .sentinel, .sentinel, .sentinel, .sentinel, .sentinel, .sentinel, .sentinel, .sentinel, .sentinel, .pinned], laidTests := true, laidLooks := .later }
def FormsAllCardSaid : Prop := Claim7.holds Tryz.pinned (.plain (OpenSpec.ofChange formsAllSpec)) formsAllCard

/-- THE SECOND FORM's CARD OF 'edenlaw05.FormsAll'. -/
def formsAllUptoCard : Claim7 := { stood := { row := formsAllUptoRow, standIns := [], harness := (true, "cb3a0edce09585500cdcb7ce29f159d0082249fe81a67ca2aefa722086c989c5"), looks := true }, kinds := [], alts := [], laidByText := true, laidKinds := [.data, .handle, .sentinel, .sentinel, .sentinel, .sentinel, .sentinel, .sentinel, .sentinel, .sentinel, .sentinel, .sentinel, .sentinel, .sentinel, .pinned], laidTests := true, laidLooks := .later }
def FormsAllUptoCardSaid : Prop := Claim7.holds Tryz.pinned (.plain (OpenSpec.upto formsAllSpec)) formsAllUptoCard
end Rows
end Go.Proofs.YtpllojpgpejfmaaGreatDoor
