/-
  DERIVED. GIVEN WITH THE SEED: THE CARDS: each row of YtfgnghgmffaepaaDoorRows.lean that lists a variable, with what it lists TIED to the program's text (the seventh form; the later family's looks); each row that meets fmt, with fmt's text TOLD by the authors' own Lean function (tested against real Go, not proved from fmt's source: count such statements apart). THE CARD IS WHAT COUNTS. Prove the row's statement (the work); the ties are given (YtfgnghgmffaepaaDoorTie.lean); close each card by the builder's one call (the guide's Derived/Test/ToyasCard.lean, 'card_holds'). Laid BY PROGRAM, IN A SANDBOX (cutbox-door.mjs). By AI agents, Wed Nov 11 2026. No macro, syntax, notation, axiom, sorry.
-/
import Derived.Test.YtfgnghgmffaepaaDoorRows
import GoSem.ClaimSeven
namespace Go.Proofs.YtfgnghgmffaepaaDoor
namespace Rows

/-- THE TIED CARD OF 'edenlaw05.FormsPowers'. -/
def formsPowersCard : Claim7 := { stood := { row := formsPowersRow, standIns := [], harness := (true, "f1477fcba070e926e30c43d281fc848fc5637f079b8585d169cca41a6671547d"), looks := true }, kinds := [], alts := [], laidByText := true, laidKinds := [.data, .sentinel, .sentinel, .sentinel, .sentinel, .sentinel, .sentinel, .sentinel, .sentinel, .sentinel, .sentinel, .sentinel, .sentinel, .pinned], laidTests := true, laidLooks := .later }
def FormsPowersCardSaid : Prop := Claim7.holds Tryd.pinned (.plain (OpenSpec.ofChange formsPowersSpec)) formsPowersCard

/-- THE TIED CARD OF 'edenlaw05.FormsSames'. -/
def formsSamesCard : Claim7 := { stood := { row := formsSamesRow, standIns := [], harness := (true, "f1477fcba070e926e30c43d281fc848fc5637f079b8585d169cca41a6671547d"), looks := true }, kinds := [], alts := [], laidByText := true, laidKinds := [.data, .handle, .sentinel, .sentinel, .sentinel, .sentinel, .sentinel, .sentinel, .sentinel, .sentinel, .sentinel, .sentinel, .sentinel, .sentinel, .pinned], laidTests := true, laidLooks := .later }
def FormsSamesCardSaid : Prop := Claim7.holds Tryd.pinned (.plain (OpenSpec.ofChange formsSamesSpec)) formsSamesCard

/-- THE TIED CARD OF 'edenlaw05.FormsMirrors'. -/
def formsMirrorsCard : Claim7 := { stood := { row := formsMirrorsRow, standIns := [], harness := (true, "f1477fcba070e926e30c43d281fc848fc5637f079b8585d169cca41a6671547d"), looks := true }, kinds := [], alts := [], laidByText := true, laidKinds := [.data, .sentinel, .sentinel, .sentinel, .sentinel, .sentinel, .sentinel, .sentinel, .sentinel, .sentinel, .sentinel, .sentinel, .sentinel, .pinned], laidTests := true, laidLooks := .later }
def FormsMirrorsCardSaid : Prop := Claim7.holds Tryd.pinned (.plain (OpenSpec.ofChange formsMirrorsSpec)) formsMirrorsCard

/-- THE SECOND FORM's CARD OF 'edenlaw05.FormsPowers'. -/
def formsPowersUptoCard : Claim7 := { stood := { row := formsPowersUptoRow, standIns := [], harness := (true, "f1477fcba070e926e30c43d281fc848fc5637f079b8585d169cca41a6671547d"), looks := true }, kinds := [], alts := [], laidByText := true, laidKinds := [.data, .sentinel, .sentinel, .sentinel, .sentinel, .sentinel, .sentinel, .sentinel, .sentinel, .sentinel, .sentinel, .sentinel, .sentinel, .pinned], laidTests := true, laidLooks := .later }
def FormsPowersUptoCardSaid : Prop := Claim7.holds Tryd.pinned (.plain (OpenSpec.upto formsPowersSpec)) formsPowersUptoCard

/-- THE SECOND FORM's CARD OF 'edenlaw05.FormsSames'. -/
def formsSamesUptoCard : Claim7 := { stood := { row := formsSamesUptoRow, standIns := [], harness := (true, "f1477fcba070e926e30c43d281fc848fc5637f079b8585d169cca41a6671547d"), looks := true }, kinds := [], alts := [], laidByText := true, laidKinds := [.data, .handle, .sentinel, .sentinel, .sentinel, .sentinel, .sentinel, .sentinel, .sentinel, .sentinel, .sentinel, .sentinel, .sentinel, .sentinel, .pinned], laidTests := true, laidLooks := .later }
def FormsSamesUptoCardSaid : Prop := Claim7.holds Tryd.pinned (.plain (OpenSpec.upto formsSamesSpec)) formsSamesUptoCard

/-- THE SECOND FORM's CARD OF 'edenlaw05.FormsMirrors'. -/
def formsMirrorsUptoCard : Claim7 := { stood := { row := formsMirrorsUptoRow, standIns := [], harness := (true, "f1477fcba070e926e30c43d281fc848fc5637f079b8585d169cca41a6671547d"), looks := true }, kinds := [], alts := [], laidByText := true, laidKinds := [.data, .sentinel, .sentinel, .sentinel, .sentinel, .sentinel, .sentinel, .sentinel, .sentinel, .sentinel, .sentinel, .sentinel, .sentinel, .pinned], laidTests := true, laidLooks := .later }
def FormsMirrorsUptoCardSaid : Prop := Claim7.holds Tryd.pinned (.plain (OpenSpec.upto formsMirrorsSpec)) formsMirrorsUptoCard
end Rows
end Go.Proofs.YtfgnghgmffaepaaDoor
