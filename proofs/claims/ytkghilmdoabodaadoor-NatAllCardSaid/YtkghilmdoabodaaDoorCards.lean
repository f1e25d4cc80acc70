/-
  DERIVED. GIVEN WITH THE SEED: THE CARDS: each row of YtkghilmdoabodaaDoorRows.lean that lists a variable, with what it lists TIED to the program's text (the seventh form; the later family's looks); each row that meets fmt, with fmt's text TOLD by the authors' own Lean function (tested against real Go, not proved from fmt's source: count such statements apart). THE CARD IS WHAT COUNTS. Prove the row's statement (the work); the ties are given (YtkghilmdoabodaaDoorTie.lean); close each card by the builder's one call (the guide's Derived/Test/ToyasCard.lean, 'card_holds'). Laid BY PROGRAM, IN A SANDBOX (cutbox-door.mjs). By AI agents, Wed Nov 11 2026. No macro, syntax, notation, axiom, sorry.
-/
import Derived.Test.YtkghilmdoabodaaDoorRows
import GoSem.ClaimSeven
namespace Go.Proofs.YtkghilmdoabodaaDoor
namespace Rows

/-- THE TIED CARD OF 'edenlaw02.NatAll'. -/
def natAllCard : Claim7 := { stood := { row := natAllRow, standIns := [], harness := (true, "fda6ebf81f8adb444dc8c41b15d6ef0652415acbf876b1f90f95030cbc683b6e"), looks := true }, kinds := [], alts := [], laidByText := true, laidKinds := [.data, .handle, .sentinel, .sentinel, .sentinel, .sentinel, .sentinel, .sentinel, .sentinel, .sentinel, .sentinel, .sentinel, .sentinel, .sentinel, .pinned], laidTests := true, laidLooks := .later }
def NatAllCardSaid : Prop := Claim7.holds Tryd.pinned (.plain (OpenSpec.ofChange natAllSpec)) natAllCard

/-- THE TIED CARD OF 'edenlaw09.BagPlays'. -/
def bagPlaysCard : Claim7 := { stood := { row := bagPlaysRow, standIns := [], harness := (true, "fda6ebf81f8adb444dc8c41b15d6ef0652415acbf876b1f90f95030cbc683b6e"), looks := true }, kinds := [], alts := [], laidByText := true, laidKinds := [.handle, .sentinel, .sentinel, .sentinel, .sentinel, .sentinel, .sentinel, .sentinel, .sentinel, .sentinel, .sentinel, .sentinel, .sentinel], laidTests := true, laidLooks := .later }
def BagPlaysCardSaid : Prop := Claim7.holds Tryd.pinned (.plain (OpenSpec.ofChange bagPlaysSpec)) bagPlaysCard

/-- THE SECOND FORM's CARD OF 'edenlaw02.NatAll'. -/
def natAllUptoCard : Claim7 := { stood := { row := natAllUptoRow, standIns := [], harness := (true, "fda6ebf81f8adb444dc8c41b15d6ef0652415acbf876b1f90f95030cbc683b6e"), looks := true }, kinds := [], alts := [], laidByText := true, laidKinds := [.data, .handle, .sentinel, .sentinel, .sentinel, .sentinel, .sentinel, .sentinel, .sentinel, .sentinel, .sentinel, .sentinel, .sentinel, .sentinel, .pinned], laidTests := true, laidLooks := .later }
def NatAllUptoCardSaid : Prop := Claim7.holds Tryd.pinned (.plain (OpenSpec.upto natAllSpec)) natAllUptoCard

/-- THE SECOND FORM's CARD OF 'edenlaw09.BagPlays'. -/
def bagPlaysUptoCard : Claim7 := { stood := { row := bagPlaysUptoRow, standIns := [], harness := (true, "fda6ebf81f8adb444dc8c41b15d6ef0652415acbf876b1f90f95030cbc683b6e"), looks := true }, kinds := [], alts := [], laidByText := true, laidKinds := [.handle, .sentinel, .sentinel, .sentinel, .sentinel, .sentinel, .sentinel, .sentinel, .sentinel, .sentinel, .sentinel, .sentinel, .sentinel], laidTests := true, laidLooks := .later }
def BagPlaysUptoCardSaid : Prop := Claim7.holds Tryd.pinned (.plain (OpenSpec.upto bagPlaysSpec)) bagPlaysUptoCard
end Rows
end Go.Proofs.YtkghilmdoabodaaDoor
