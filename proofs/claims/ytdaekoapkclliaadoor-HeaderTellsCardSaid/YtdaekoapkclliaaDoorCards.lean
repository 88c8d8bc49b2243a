/-
  DERIVED. GIVEN WITH THE SEED: THE CARDS: each row of YtdaekoapkclliaaDoorRows.lean that lists a variable, with what it lists TIED to the program's text (the seventh form; the later family's looks); each row that meets fmt, with fmt's text TOLD by the authors' own Lean function (tested against real Go, not proved from fmt's source: count such statements apart). THE CARD IS WHAT COUNTS. Prove the row's statement (the work); the ties are given (YtdaekoapkclliaaDoorTie.lean); close each card by the builder's one call (the guide's Derived/Test/ToyasCard.lean, 'card_holds'). Laid BY PROGRAM, IN A SANDBOX (cutbox-door.mjs). By AI agents, Wed Nov 11 2026. No macro, syntax, notation, axiom, sorry.
-/
import Derived.Test.YtdaekoapkclliaaDoorRows
import GoSem.ClaimSeven
namespace Go.Proofs.YtdaekoapkclliaaDoor
namespace Rows

/-- THE TIED CARD OF 'mailguardlaw10.HeaderTells'. -/
def headerTellsCard : Claim7 := { stood := { row := headerTellsRow, standIns := [], harness := (true, "90e9fb6a27de551d1812ad71856b37a7df3d4986336ef94ac7db7e4e5c67d323"), looks := false }, kinds := [], alts := [], laidByText := true, laidKinds := [.data, .pinned], laidTests := true, laidLooks := .later }
def HeaderTellsCardSaid : Prop := Claim7.holds Tryd.pinned (.plain (OpenSpec.ofChange headerTellsSpec)) headerTellsCard

/-- THE TIED CARD OF 'mailguardlaw10.HeaderBack'. -/
def headerBackCard : Claim7 := { stood := { row := headerBackRow, standIns := [], harness := (true, "90e9fb6a27de551d1812ad71856b37a7df3d4986336ef94ac7db7e4e5c67d323"), looks := false }, kinds := [], alts := [], laidByText := true, laidKinds := [.data, .pinned], laidTests := true, laidLooks := .later }
def HeaderBackCardSaid : Prop := Claim7.holds Tryd.pinned (.plain (OpenSpec.ofChange headerBackSpec)) headerBackCard

/-- THE TIED CARD OF 'mailguardlaw10.HeaderLines'. -/
def headerLinesCard : Claim7 := { stood := { row := headerLinesRow, standIns := [], harness := (true, "90e9fb6a27de551d1812ad71856b37a7df3d4986336ef94ac7db7e4e5c67d323"), looks := false }, kinds := [], alts := [], laidByText := true, laidKinds := [.data, .pinned], laidTests := true, laidLooks := .later }
def HeaderLinesCardSaid : Prop := Claim7.holds Tryd.pinned (.plain (OpenSpec.ofChange headerLinesSpec)) headerLinesCard

/-- THE TIED CARD OF 'mailguardlaw10.HeaderGets'. -/
def headerGetsCard : Claim7 := { stood := { row := headerGetsRow, standIns := [], harness := (true, "90e9fb6a27de551d1812ad71856b37a7df3d4986336ef94ac7db7e4e5c67d323"), looks := false }, kinds := [], alts := [], laidByText := true, laidKinds := [.data, .pinned], laidTests := true, laidLooks := .later }
def HeaderGetsCardSaid : Prop := Claim7.holds Tryd.pinned (.plain (OpenSpec.ofChange headerGetsSpec)) headerGetsCard

/-- THE TIED CARD OF 'mailguardlaw10.HeaderMore'. -/
def headerMoreCard : Claim7 := { stood := { row := headerMoreRow, standIns := [], harness := (true, "90e9fb6a27de551d1812ad71856b37a7df3d4986336ef94ac7db7e4e5c67d323"), looks := false }, kinds := [], alts := [], laidByText := true, laidKinds := [.data, .pinned], laidTests := true, laidLooks := .later }
def HeaderMoreCardSaid : Prop := Claim7.holds Tryd.pinned (.plain (OpenSpec.ofChange headerMoreSpec)) headerMoreCard

/-- THE TIED CARD OF 'mailguardlaw10.HeaderFolds'. -/
def headerFoldsCard : Claim7 := { stood := { row := headerFoldsRow, standIns := [], harness := (true, "90e9fb6a27de551d1812ad71856b37a7df3d4986336ef94ac7db7e4e5c67d323"), looks := false }, kinds := [], alts := [], laidByText := true, laidKinds := [.data, .pinned], laidTests := true, laidLooks := .later }
def HeaderFoldsCardSaid : Prop := Claim7.holds Tryd.pinned (.plain (OpenSpec.ofChange headerFoldsSpec)) headerFoldsCard

/-- THE SECOND FORM's CARD OF 'mailguardlaw10.HeaderTells'. -/
def headerTellsUptoCard : Claim7 := { stood := { row := headerTellsUptoRow, standIns := [], harness := (true, "90e9fb6a27de551d1812ad71856b37a7df3d4986336ef94ac7db7e4e5c67d323"), looks := false }, kinds := [], alts := [], laidByText := true, laidKinds := [.data, .pinned], laidTests := true, laidLooks := .later }
def HeaderTellsUptoCardSaid : Prop := Claim7.holds Tryd.pinned (.plain (OpenSpec.upto headerTellsSpec)) headerTellsUptoCard

/-- THE SECOND FORM's CARD OF 'mailguardlaw10.HeaderBack'. -/
def headerBackUptoCard : Claim7 := { stood := { row := headerBackUptoRow, standIns := [], harness := (true, "90e9fb6a27de551d1812ad71856b37a7df3d4986336ef94ac7db7e4e5c67d323"), looks := false }, kinds := [], alts := [], laidByText := true, laidKinds := [.data, .pinned], laidTests := true, laidLooks := .later }
def HeaderBackUptoCardSaid : Prop := Claim7.holds Tryd.pinned (.plain (OpenSpec.upto headerBackSpec)) headerBackUptoCard

/-- THE SECOND FORM's CARD OF 'mailguardlaw10.HeaderLines'. -/
def headerLinesUptoCard : Claim7 := { stood := { row := headerLinesUptoRow, standIns := [], harness := (true, "90e9fb6a27de551d1812ad71856b37a7df3d4986336ef94ac7db7e4e5c67d323"), looks := false }, kinds := [], alts := [], laidByText := true, laidKinds := [.data, .pinned], laidTests := true, laidLooks := .later }
def HeaderLinesUptoCardSaid : Prop := Claim7.holds Tryd.pinned (.plain (OpenSpec.upto headerLinesSpec)) headerLinesUptoCard

/-- THE SECOND FORM's CARD OF 'mailguardlaw10.HeaderGets'. -/
def headerGetsUptoCard : Claim7 := { stood := { row := headerGetsUptoRow, standIns := [], harness := (true, "90e9fb6a27de551d1812ad71856b37a7df3d4986336ef94ac7db7e4e5c67d323"), looks := false }, kinds := [], alts := [], laidByText := true, laidKinds := [.data, .pinned], laidTests := true, laidLooks := .later }
def HeaderGetsUptoCardSaid : Prop := Claim7.holds Tryd.pinned (.plain (OpenSpec.upto headerGetsSpec)) headerGetsUptoCard

/-- THE SECOND FORM's CARD OF 'mailguardlaw10.HeaderMore'. -/
def headerMoreUptoCard : Claim7 := { stood := { row := headerMoreUptoRow, standIns := [], harness := (true, "90e9fb6a27de551d1812ad71856b37a7df3d4986336ef94ac7db7e4e5c67d323"), looks := false }, kinds := [], alts := [], laidByText := true, laidKinds := [.data, .pinned], laidTests := true, laidLooks := .later }
def HeaderMoreUptoCardSaid : Prop := Claim7.holds Tryd.pinned (.plain (OpenSpec.upto headerMoreSpec)) headerMoreUptoCard

/-- THE SECOND FORM's CARD OF 'mailguardlaw10.HeaderFolds'. -/
def headerFoldsUptoCard : Claim7 := { stood := { row := headerFoldsUptoRow, standIns := [], harness := (true, "90e9fb6a27de551d1812ad71856b37a7df3d4986336ef94ac7db7e4e5c67d323"), looks := false }, kinds := [], alts := [], laidByText := true, laidKinds := [.data, .pinned], laidTests := true, laidLooks := .later }
def HeaderFoldsUptoCardSaid : Prop := Claim7.holds Tryd.pinned (.plain (OpenSpec.upto headerFoldsSpec)) headerFoldsUptoCard
end Rows
end Go.Proofs.YtdaekoapkclliaaDoor
