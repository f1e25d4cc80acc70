/-
  DERIVED. GIVEN WITH THE SEED: THE CARDS: each row of YtmephmijeepcnaaDoorRows.lean that lists a variable, with what it lists TIED to the program's text (the seventh form; the later family's looks); each row that meets fmt, with fmt's text TOLD by the authors' own Lean function (tested against real Go, not proved from fmt's source: count such statements apart). THE CARD IS WHAT COUNTS. Prove the row's statement (the work); the ties are given (YtmephmijeepcnaaDoorTie.lean); close each card by the builder's one call (the guide's Derived/Test/ToyasCard.lean, 'card_holds'). Laid BY PROGRAM, IN A SANDBOX (cutbox-door.mjs). By AI agents, Wed Nov 11 2026. No macro, syntax, notation, axiom, sorry.
-/
import Derived.Test.YtmephmijeepcnaaDoorRows
import GoSem.ClaimSeven
namespace Go.Proofs.YtmephmijeepcnaaDoor
namespace Rows

/-- THE TIED CARD OF 'edenlaw09.BagApart'. -/
def bagApartCard : Claim7 := { stood := { row := bagApartRow, standIns := [], harness := (true, "05bbf2015902cb52dae55b233463f001a5e433816cb3d1db47498bdb276b3de3"), looks := true }, kinds := [], alts := [], laidByText := true, laidKinds := [.sentinel, .sentinel, .sentinel, .sentinel, .sentinel, .sentinel, .sentinel, .sentinel, .sentinel, .sentinel, .sentinel, .sentinel], laidTests := true, laidLooks := .later }
def BagApartCardSaid : Prop := Claim7.holds Tryd.pinned (.plain (OpenSpec.ofChange bagApartSpec)) bagApartCard

/-- THE TIED CARD OF 'edenlaw09.BagSets'. -/
def bagSetsCard : Claim7 := { stood := { row := bagSetsRow, standIns := [], harness := (true, "05bbf2015902cb52dae55b233463f001a5e433816cb3d1db47498bdb276b3de3"), looks := true }, kinds := [], alts := [], laidByText := true, laidKinds := [.sentinel, .sentinel, .sentinel, .sentinel, .sentinel, .sentinel, .sentinel, .sentinel, .sentinel, .sentinel, .sentinel, .sentinel], laidTests := true, laidLooks := .later }
def BagSetsCardSaid : Prop := Claim7.holds Tryd.pinned (.plain (OpenSpec.ofChange bagSetsSpec)) bagSetsCard

/-- THE TIED CARD OF 'edenlaw09.BagFull'. -/
def bagFullCard : Claim7 := { stood := { row := bagFullRow, standIns := [], harness := (true, "05bbf2015902cb52dae55b233463f001a5e433816cb3d1db47498bdb276b3de3"), looks := true }, kinds := [], alts := [], laidByText := true, laidKinds := [.handle, .sentinel, .sentinel, .sentinel, .sentinel, .sentinel, .sentinel, .sentinel, .sentinel, .sentinel, .sentinel, .sentinel, .sentinel], laidTests := true, laidLooks := .later }
def BagFullCardSaid : Prop := Claim7.holds Tryd.pinned (.plain (OpenSpec.ofChange bagFullSpec)) bagFullCard

/-- THE TIED CARD OF 'edenlaw09.BagPlays'. -/
def bagPlaysCard : Claim7 := { stood := { row := bagPlaysRow, standIns := [], harness := (true, "05bbf2015902cb52dae55b233463f001a5e433816cb3d1db47498bdb276b3de3"), looks := true }, kinds := [], alts := [], laidByText := true, laidKinds := [.handle, .sentinel, .sentinel, .sentinel, .sentinel, .sentinel, .sentinel, .sentinel, .sentinel, .sentinel, .sentinel, .sentinel, .sentinel], laidTests := true, laidLooks := .later }
def BagPlaysCardSaid : Prop := Claim7.holds Tryd.pinned (.plain (OpenSpec.ofChange bagPlaysSpec)) bagPlaysCard

/-- THE SECOND FORM's CARD OF 'edenlaw09.BagApart'. -/
def bagApartUptoCard : Claim7 := { stood := { row := bagApartUptoRow, standIns := [], harness := (true, "05bbf2015902cb52dae55b233463f001a5e433816cb3d1db47498bdb276b3de3"), looks := true }, kinds := [], alts := [], laidByText := true, laidKinds := [.sentinel, .sentinel, .sentinel, .sentinel, .sentinel, .sentinel, .sentinel, .sentinel, .sentinel, .sentinel, .sentinel, .sentinel], laidTests := true, laidLooks := .later }
def BagApartUptoCardSaid : Prop := Claim7.holds Tryd.pinned (.plain (OpenSpec.upto bagApartSpec)) bagApartUptoCard

/-- THE SECOND FORM's CARD OF 'edenlaw09.BagSets'. -/
def bagSetsUptoCard : Claim7 := { stood := { row := bagSetsUptoRow, standIns := [], harness := (true, "05bbf2015902cb52dae55b233463f001a5e433816cb3d1db47498bdb276b3de3"), looks := true }, kinds := [], alts := [], laidByText := true, laidKinds := [.sentinel, .sentinel, .sentinel, .sentinel, .sentinel, .sentinel, .sentinel, .sentinel, .sentinel, .sentinel, .sentinel, .sentinel], laidTests := true, laidLooks := .later }
def BagSetsUptoCardSaid : Prop := Claim7.holds Tryd.pinned (.plain (OpenSpec.upto bagSetsSpec)) bagSetsUptoCard

/-- THE SECOND FORM's CARD OF 'edenlaw09.BagFull'. -/
def bagFullUptoCard : Claim7 := { stood := { row := bagFullUptoRow, standIns := [], harness := (true, "05bbf2015902cb52dae55b233463f001a5e433816cb3d1db47498bdb276b3de3"), looks := true }, kinds := [], alts := [], laidByText := true, laidKinds := [.handle, .sentinel, .sentinel, .sentinel, .sentinel, .sentinel, .sentinel, .sentinel, .sentinel, .sentinel, .sentinel, .sentinel, .sentinel], laidTests := true, laidLooks := .later }
def BagFullUptoCardSaid : Prop := Claim7.holds Tryd.pinned (.plain (OpenSpec.upto bagFullSpec)) bagFullUptoCard

/-- THE SECOND FORM's CARD OF 'edenlaw09.BagPlays'. -/
def bagPlaysUptoCard : Claim7 := { stood := { row := bagPlaysUptoRow, standIns := [], harness := (true, "05bbf2015902cb52dae55b233463f001a5e433816cb3d1db47498bdb276b3de3"), looks := true }, kinds := [], alts := [], laidByText := true, laidKinds := [.handle, .sentinel, .sentinel, .sentinel, .sentinel, .sentinel, .sentinel, .sentinel, .sentinel, .sentinel, .sentinel, .sentinel, .sentinel], laidTests := true, laidLooks := .later }
def BagPlaysUptoCardSaid : Prop := Claim7.holds Tryd.pinned (.plain (OpenSpec.upto bagPlaysSpec)) bagPlaysUptoCard
end Rows
end Go.Proofs.YtmephmijeepcnaaDoor
