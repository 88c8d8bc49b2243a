/-
  DERIVED. GIVEN WITH THE SEED: THE CARDS: each row of YtmcianehedhfeaaDoorRows.lean that lists a variable, with what it lists TIED to the program's text (the seventh form; the later family's looks); each row that meets fmt, with fmt's text TOLD by the authors' own Lean function (tested against real Go, not proved from fmt's source: count such statements apart). THE CARD IS WHAT COUNTS. Prove the row's statement (the work); the ties are given (YtmcianehedhfeaaDoorTie.lean); close each card by the builder's one call (the guide's Derived/Test/ToyasCard.lean, 'card_holds'). Laid BY PROGRAM, IN A SANDBOX (cutbox-door.mjs). By AI agents, Wed Nov 11 2026. No macro, syntax, notation, axiom, sorry.
-/
import Derived.Test.YtmcianehedhfeaaDoorRows
import GoSem.ClaimSeven
namespace Go.Proofs.YtmcianehedhfeaaDoor
namespace Rows

/-- THE TIED CARD OF 'mailguardlaw01.LatticeOrder'. -/
def latticeOrderCard : Claim7 := { stood := { row := latticeOrderRow, standIns := [], harness := (true, "a2be1bdcca6e9278820da9bab2159d87a72bf790c2313f88c85bbc4973ad8517"), looks := false }, kinds := [], alts := [], laidByText := true, laidKinds := [.data, .pinned], laidTests := true, laidLooks := .later }
def LatticeOrderCardSaid : Prop := Claim7.holds Tryd.pinned (.plain (OpenSpec.ofChange latticeOrderSpec)) latticeOrderCard

/-- THE TIED CARD OF 'mailguardlaw01.LatticeNames'. -/
def latticeNamesCard : Claim7 := { stood := { row := latticeNamesRow, standIns := [], harness := (true, "a2be1bdcca6e9278820da9bab2159d87a72bf790c2313f88c85bbc4973ad8517"), looks := false }, kinds := [], alts := [], laidByText := true, laidKinds := [.data, .pinned], laidTests := true, laidLooks := .later }
def LatticeNamesCardSaid : Prop := Claim7.holds Tryd.pinned (.plain (OpenSpec.ofChange latticeNamesSpec)) latticeNamesCard

/-- THE TIED CARD OF 'mailguardlaw01.LatticeSteps'. -/
def latticeStepsCard : Claim7 := { stood := { row := latticeStepsRow, standIns := [], harness := (true, "a2be1bdcca6e9278820da9bab2159d87a72bf790c2313f88c85bbc4973ad8517"), looks := false }, kinds := [], alts := [], laidByText := true, laidKinds := [.data, .pinned], laidTests := true, laidLooks := .later }
def LatticeStepsCardSaid : Prop := Claim7.holds Tryd.pinned (.plain (OpenSpec.ofChange latticeStepsSpec)) latticeStepsCard

/-- THE TIED CARD OF 'mailguardlaw01.LatticeTexts'. -/
def latticeTextsCard : Claim7 := { stood := { row := latticeTextsRow, standIns := [], harness := (true, "a2be1bdcca6e9278820da9bab2159d87a72bf790c2313f88c85bbc4973ad8517"), looks := false }, kinds := [], alts := [], laidByText := true, laidKinds := [.data, .pinned], laidTests := true, laidLooks := .later }
def LatticeTextsCardSaid : Prop := Claim7.holds Tryd.pinned (.plain (OpenSpec.ofChange latticeTextsSpec)) latticeTextsCard

/-- THE TIED CARD OF 'mailguardlaw01.LatticeBounds'. -/
def latticeBoundsCard : Claim7 := { stood := { row := latticeBoundsRow, standIns := [], harness := (true, "a2be1bdcca6e9278820da9bab2159d87a72bf790c2313f88c85bbc4973ad8517"), looks := false }, kinds := [], alts := [], laidByText := true, laidKinds := [.data, .pinned], laidTests := true, laidLooks := .later }
def LatticeBoundsCardSaid : Prop := Claim7.holds Tryd.pinned (.plain (OpenSpec.ofChange latticeBoundsSpec)) latticeBoundsCard

/-- THE TIED CARD OF 'mailguardlaw01.LatticeLaws'. -/
def latticeLawsCard : Claim7 := { stood := { row := latticeLawsRow, standIns := [], harness := (true, "a2be1bdcca6e9278820da9bab2159d87a72bf790c2313f88c85bbc4973ad8517"), looks := false }, kinds := [], alts := [], laidByText := true, laidKinds := [.data, .pinned], laidTests := true, laidLooks := .later }
def LatticeLawsCardSaid : Prop := Claim7.holds Tryd.pinned (.plain (OpenSpec.ofChange latticeLawsSpec)) latticeLawsCard

/-- THE TIED CARD OF 'mailguardlaw01.LatticeBack'. -/
def latticeBackCard : Claim7 := { stood := { row := latticeBackRow, standIns := [], harness := (true, "a2be1bdcca6e9278820da9bab2159d87a72bf790c2313f88c85bbc4973ad8517"), looks := false }, kinds := [], alts := [], laidByText := true, laidKinds := [.data, .pinned], laidTests := true, laidLooks := .later }
def LatticeBackCardSaid : Prop := Claim7.holds Tryd.pinned (.plain (OpenSpec.ofChange latticeBackSpec)) latticeBackCard

/-- THE SECOND FORM's CARD OF 'mailguardlaw01.LatticeOrder'. -/
def latticeOrderUptoCard : Claim7 := { stood := { row := latticeOrderUptoRow, standIns := [], harness := (true, "a2be1bdcca6e9278820da9bab2159d87a72bf790c2313f88c85bbc4973ad8517"), looks := false }, kinds := [], alts := [], laidByText := true, laidKinds := [.data, .pinned], laidTests := true, laidLooks := .later }
def LatticeOrderUptoCardSaid : Prop := Claim7.holds Tryd.pinned (.plain (OpenSpec.upto latticeOrderSpec)) latticeOrderUptoCard

/-- THE SECOND FORM's CARD OF 'mailguardlaw01.LatticeNames'. -/
def latticeNamesUptoCard : Claim7 := { stood := { row := latticeNamesUptoRow, standIns := [], harness := (true, "a2be1bdcca6e9278820da9bab2159d87a72bf790c2313f88c85bbc4973ad8517"), looks := false }, kinds := [], alts := [], laidByText := true, laidKinds := [.data, .pinned], laidTests := true, laidLooks := .later }
def LatticeNamesUptoCardSaid : Prop := Claim7.holds Tryd.pinned (.plain (OpenSpec.upto latticeNamesSpec)) latticeNamesUptoCard

/-- THE SECOND FORM's CARD OF 'mailguardlaw01.LatticeSteps'. -/
def latticeStepsUptoCard : Claim7 := { stood := { row := latticeStepsUptoRow, standIns := [], harness := (true, "a2be1bdcca6e9278820da9bab2159d87a72bf790c2313f88c85bbc4973ad8517"), looks := false }, kinds := [], alts := [], laidByText := true, laidKinds := [.data, .pinned], laidTests := true, laidLooks := .later }
def LatticeStepsUptoCardSaid : Prop := Claim7.holds Tryd.pinned (.plain (OpenSpec.upto latticeStepsSpec)) latticeStepsUptoCard

/-- THE SECOND FORM's CARD OF 'mailguardlaw01.LatticeTexts'. -/
def latticeTextsUptoCard : Claim7 := { stood := { row := latticeTextsUptoRow, standIns := [], harness := (true, "a2be1bdcca6e9278820da9bab2159d87a72bf790c2313f88c85bbc4973ad8517"), looks := false }, kinds := [], alts := [], laidByText := true, laidKinds := [.data, .pinned], laidTests := true, laidLooks := .later }
def LatticeTextsUptoCardSaid : Prop := Claim7.holds Tryd.pinned (.plain (OpenSpec.upto latticeTextsSpec)) latticeTextsUptoCard

/-- THE SECOND FORM's CARD OF 'mailguardlaw01.LatticeBounds'. -/
def latticeBoundsUptoCard : Claim7 := { stood := { row := latticeBoundsUptoRow, standIns := [], harness := (true, "a2be1bdcca6e9278820da9bab2159d87a72bf790c2313f88c85bbc4973ad8517"), looks := false }, kinds := [], alts := [], laidByText := true, laidKinds := [.data, .pinned], laidTests := true, laidLooks := .later }
def LatticeBoundsUptoCardSaid : Prop := Claim7.holds Tryd.pinned (.plain (OpenSpec.upto latticeBoundsSpec)) latticeBoundsUptoCard

/-- THE SECOND FORM's CARD OF 'mailguardlaw01.LatticeLaws'. -/
def latticeLawsUptoCard : Claim7 := { stood := { row := latticeLawsUptoRow, standIns := [], harness := (true, "a2be1bdcca6e9278820da9bab2159d87a72bf790c2313f88c85bbc4973ad8517"), looks := false }, kinds := [], alts := [], laidByText := true, laidKinds := [.data, .pinned], laidTests := true, laidLooks := .later }
def LatticeLawsUptoCardSaid : Prop := Claim7.holds Tryd.pinned (.plain (OpenSpec.upto latticeLawsSpec)) latticeLawsUptoCard

/-- THE SECOND FORM's CARD OF 'mailguardlaw01.LatticeBack'. -/
def latticeBackUptoCard : Claim7 := { stood := { row := latticeBackUptoRow, standIns := [], harness := (true, "a2be1bdcca6e9278820da9bab2159d87a72bf790c2313f88c85bbc4973ad8517"), looks := false }, kinds := [], alts := [], laidByText := true, laidKinds := [.data, .pinned], laidTests := true, laidLooks := .later }
def LatticeBackUptoCardSaid : Prop := Claim7.holds Tryd.pinned (.plain (OpenSpec.upto latticeBackSpec)) latticeBackUptoCard
end Rows
end Go.Proofs.YtmcianehedhfeaaDoor
