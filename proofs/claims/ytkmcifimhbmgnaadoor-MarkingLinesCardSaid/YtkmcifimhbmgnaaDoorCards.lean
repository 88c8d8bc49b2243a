/-
  DERIVED. GIVEN WITH THE SEED: THE CARDS: each row of YtkmcifimhbmgnaaDoorRows.lean that lists a variable, with what it lists TIED to the program's text (the seventh form; the later family's looks); each row that meets fmt, with fmt's text TOLD by the authors' own Lean function (tested against real Go, not proved from fmt's source: count such statements apart). THE CARD IS WHAT COUNTS. Prove the row's statement (the work); the ties are given (YtkmcifimhbmgnaaDoorTie.lean); close each card by the builder's one call (the guide's Derived/Test/ToyasCard.lean, 'card_holds'). Laid BY PROGRAM, IN A SANDBOX (cutbox-door.mjs). By AI agents, Wed Nov 11 2026. No macro, syntax, notation, axiom, sorry.
-/
import Derived.Test.YtkmcifimhbmgnaaDoorRows
import GoSem.ClaimSeven
namespace Go.Proofs.YtkmcifimhbmgnaaDoor
namespace Rows

/-- THE TIED CARD OF 'mailguardlaw02.MarkingBack'. -/
def markingBackCard : Claim7 := { stood := { row := markingBackRow, standIns := [], harness := (true, "dd8cd5a9d8bfb19cf8f6b543c7f010b4e9e2cd95f1d1a25f69b35665fbe8ec81"), looks := false }, kinds := [], alts := [], laidByText := true, laidKinds := [.data, .pinned], laidTests := true, laidLooks := .later }
def MarkingBackCardSaid : Prop := Claim7.holds Tryd.pinned (.plain (OpenSpec.ofChange markingBackSpec)) markingBackCard

/-- THE TIED CARD OF 'mailguardlaw02.MarkingLines'. -/
def markingLinesCard : Claim7 := { stood := { row := markingLinesRow, standIns := [], harness := (true, "dd8cd5a9d8bfb19cf8f6b543c7f010b4e9e2cd95f1d1a25f69b35665fbe8ec81"), looks := false }, kinds := [], alts := [], laidByText := true, laidKinds := [.data, .pinned], laidTests := true, laidLooks := .later }
def MarkingLinesCardSaid : Prop := Claim7.holds Tryd.pinned (.plain (OpenSpec.ofChange markingLinesSpec)) markingLinesCard

/-- THE SECOND FORM's CARD OF 'mailguardlaw02.MarkingBack'. -/
def markingBackUptoCard : Claim7 := { stood := { row := markingBackUptoRow, standIns := [], harness := (true, "dd8cd5a9d8bfb19cf8f6b543c7f010b4e9e2cd95f1d1a25f69b35665fbe8ec81"), looks := false }, kinds := [], alts := [], laidByText := true, laidKinds := [.data, .pinned], laidTests := true, laidLooks := .later }
def MarkingBackUptoCardSaid : Prop := Claim7.holds Tryd.pinned (.plain (OpenSpec.upto markingBackSpec)) markingBackUptoCard

/-- THE SECOND FORM's CARD OF 'mailguardlaw02.MarkingLines'. -/
def markingLinesUptoCard : Claim7 := { stood := { row := markingLinesUptoRow, standIns := [], harness := (true, "dd8cd5a9d8bfb19cf8f6b543c7f010b4e9e2cd95f1d1a25f69b35665fbe8ec81"), looks := false }, kinds := [], alts := [], laidByText := true, laidKinds := [.data, .pinned], laidTests := true, laidLooks := .later }
def MarkingLinesUptoCardSaid : Prop := Claim7.holds Tryd.pinned (.plain (OpenSpec.upto markingLinesSpec)) markingLinesUptoCard
end Rows
end Go.Proofs.YtkmcifimhbmgnaaDoor
