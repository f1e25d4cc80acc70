/-
  DERIVED. GIVEN WITH THE SEED: THE CARDS: each row of YtibplgpolmplpaaGreatDoorRows.lean that lists a variable, with what it lists TIED to the program's text (the seventh form; the later family's looks); each row that meets fmt, with fmt's text TOLD by the authors' own Lean function (tested against real Go, not proved from fmt's source: count such statements apart). THE CARD IS WHAT COUNTS. Prove the row's statement (the work); the ties are given (YtibplgpolmplpaaGreatDoorTie.lean); close each card by the builder's one call (the guide's Derived/Test/ToyasCard.lean, 'card_holds'). Laid BY PROGRAM, IN A SANDBOX (cutbox-door.mjs). By AI agents, Wed Nov 11 2026. No macro, syntax, notation, axiom, sorry.
-/
import Derived.Test.YtibplgpolmplpaaGreatDoorRows
import GoSem.ClaimSeven
namespace Go.Proofs.YtibplgpolmplpaaGreatDoor
namespace Rows

/-- THE TIED CARD OF 'edentop.WholeOnto'. -/
def wholeOntoCard : Claim7 := { stood := { row := wholeOntoRow, standIns := [], harness := (true, "14c479fefd48bafb18ac356936e20a0b296bbbe4268d5b744160b2631e3f0c82"), looks := true }, kinds := [], alts := [], laidByText := true, laidKinds := [.handle, .sentinel, .sentinel, .sentinel, .sentinel, .sentinel, .sentinel, .sentinel, .sentinel, .sentinel, .sentinel, .sentinel, .sentinel], laidTests := true, laidLooks := .later }
def WholeOntoCardSaid : Prop := Claim7.holds Tryz.pinned (.plain (OpenSpec.ofChange wholeOntoSpec)) wholeOntoCard

/-- THE TIED CARD OF 'edentop.WholeSums'. -/
def wholeSumsCard : Claim7 := { stood := { row := wholeSumsRow, standIns := [], harness := (true, "14c479fefd48bafb18ac356936e20a0b296bbbe4268d5b744160b2631e3f0c82"), looks := true }, kinds := [], alts := [], laidByText := true, laidKinds := [.handle, .sentinel, .sentinel, .sentinel, .sentinel, .sentinel, .sentinel, .sentinel, .sentinel, .sentinel, .sentinel, .sentinel, .sentinel], laidTests := true, laidLooks := .later }
def WholeSumsCardSaid : Prop := Claim7.holds Tryz.pinned (.plain (OpenSpec.ofChange wholeSumsSpec)) wholeSumsCard

/-- THE TIED CARD OF 'edentop.WholeFair'. -/
def wholeFairCard : Claim7 := { stood := { row := wholeFairRow, standIns := [], harness := (true, "14c479fefd48bafb18ac356936e20a0b296bbbe4268d5b744160b2631e3f0c82"), looks := true }, kinds := [], alts := [], laidByText := true, laidKinds := [.handle, .sentinel, .sentinel, .sentinel, .sentinel, .sentinel, .sentinel, .sentinel, .sentinel, .sentinel, .sentinel, .sentinel, .sentinel], laidTests := true, laidLooks := .later }
def WholeFairCardSaid : Prop := Claim7.holds Tryz.pinned (.plain (OpenSpec.ofChange wholeFairSpec)) wholeFairCard

/-- THE TIED CARD OF 'edentop.WholeMirror'. -/
def wholeMirrorCard : Claim7 := { stood := { row := wholeMirrorRow, standIns := [], harness := (true, "14c479fefd48bafb18ac356936e20a0b296bbbe4268d5b744160b2631e3f0c82"), looks := true }, kinds := [], alts := [], laidByText := true, laidKinds := [.handle, .sentinel, .sentinel, .sentinel, .sentinel, .sentinel, .sentinel, .sentinel, .sentinel, .sentinel, .sentinel, .sentinel, .sentinel], laidTests := true, laidLooks := .later }
def WholeMirrorCardSaid : Prop := Claim7.holds Tryz.pinned (.plain (OpenSpec.ofChange wholeMirrorSpec)) wholeMirrorCard

/-- THE TIED CARD OF 'edentop.WholePermutes'. -/
def wholePermutesCard : Claim7 := { stood := { row := wholePermutesRow, standIns := [], harness := (true, "14c479fefd48bafb18ac356936e20a0b296bbbe4268d5b744160b2631e3f0c82"), looks := true }, kinds := [], alts := [], laidByText := true, laidKinds := [.handle, .sentinel, .sentinel, .sentinel, .sentinel, .sentinel, .sentinel, .sentinel, .sentinel, .sentinel, .sentinel, .sentinel, .sentinel], laidTests := true, laidLooks := .later }
def WholePermutesCardSaid : Prop := Claim7.holds Tryz.pinned (.plain (OpenSpec.ofChange wholePermutesSpec)) wholePermutesCard

/-- THE SECOND FORM's CARD OF 'edentop.WholeOnto'. -/
def wholeOntoUptoCard : Claim7 := { stood := { row := wholeOntoUptoRow, standIns := [], harness := (true, "14c479fefd48bafb18ac356936e20a0b296bbbe4268d5b744160b2631e3f0c82"), looks := true }, kinds := [], alts := [], laidByText := true, laidKinds := [.handle, .sentinel, .sentinel, .sentinel, .sentinel, .sentinel, .sentinel, .sentinel, .sentinel, .sentinel, .sentinel, .sentinel, .sentinel], laidTests := true, laidLooks := .later }
def WholeOntoUptoCardSaid : Prop := Claim7.holds Tryz.pinned (.plain (OpenSpec.upto wholeOntoSpec)) wholeOntoUptoCard

/-- THE SECOND FORM's CARD OF 'edentop.WholeSums'. -/
def wholeSumsUptoCard : Claim7 := { stood := { row := wholeSumsUptoRow, standIns := [], harness := (true, "14c479fefd48bafb18ac356936e20a0b296bbbe4268d5b744160b2631e3f0c82"), looks := true }, kinds := [], alts := [], laidByText := true, laidKinds := [.handle, .sentinel, .sentinel, .sentinel, .sentinel, .sentinel, .sentinel, .sentinel, .sentinel, .sentinel, .sentinel, .sentinel, .sentinel], laidTests := true, laidLooks := .later }
def WholeSumsUptoCardSaid : Prop := Claim7.holds Tryz.pinned (.plain (OpenSpec.upto wholeSumsSpec)) wholeSumsUptoCard

/-- THE SECOND FORM's CARD OF 'edentop.WholeFair'. -/
def wholeFairUptoCard : Claim7 := { stood := { row := wholeFairUptoRow, standIns := [], harness := (true, "14c479fefd48bafb18ac356936e20a0b296bbbe4268d5b744160b2631e3f0c82"), looks := true }, kinds := [], alts := [], laidByText := true, laidKinds := [.handle, .sentinel, .sentinel, .sentinel, .sentinel, .sentinel, .sentinel, .sentinel, .sentinel, .sentinel, .sentinel, .sentinel, .sentinel], laidTests := true, laidLooks := .later }
def WholeFairUptoCardSaid : Prop := Claim7.holds Tryz.pinned (.plain (OpenSpec.upto wholeFairSpec)) wholeFairUptoCard

/-- THE SECOND FORM's CARD OF 'edentop.WholeMirror'. -/
def wholeMirrorUptoCard : Claim7 := { stood := { row := wholeMirrorUptoRow, standIns := [], harness := (true, "14c479fefd48bafb18ac356936e20a0b296bbbe4268d5b744160b2631e3f0c82"), looks := true }, kinds := [], alts := [], laidByText := true, laidKinds := [.handle, .sentinel, .sentinel, .sentinel, .sentinel, .sentinel, .sentinel, .sentinel, .sentinel, .sentinel, .sentinel, .sentinel, .sentinel], laidTests := true, laidLooks := .later }
def WholeMirrorUptoCardSaid : Prop := Claim7.holds Tryz.pinned (.plain (OpenSpec.upto wholeMirrorSpec)) wholeMirrorUptoCard

/-- THE SECOND FORM's CARD OF 'edentop.WholePermutes'. -/
def wholePermutesUptoCard : Claim7 := { stood := { row := wholePermutesUptoRow, standIns := [], harness := (true, "14c479fefd48bafb18ac356936e20a0b296bbbe4268d5b744160b2631e3f0c82"), looks := true }, kinds := [], alts := [], laidByText := true, laidKinds := [.handle, .sentinel, .sentinel, .sentinel, .sentinel, .sentinel, .sentinel, .sentinel, .sentinel, .sentinel, .sentinel, .sentinel, .sentinel], laidTests := true, laidLooks := .later }
def WholePermutesUptoCardSaid : Prop := Claim7.holds Tryz.pinned (.plain (OpenSpec.upto wholePermutesSpec)) wholePermutesUptoCard
end Rows
end Go.Proofs.YtibplgpolmplpaaGreatDoor
