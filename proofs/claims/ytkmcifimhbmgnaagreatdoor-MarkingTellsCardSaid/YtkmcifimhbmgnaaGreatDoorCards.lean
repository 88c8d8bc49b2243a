/-
  DERIVED. GIVEN WITH THE SEED: THE CARDS: each row of YtkmcifimhbmgnaaGreatDoorRows.lean that lists a variable, with what it lists TIED to the program's text (the seventh form; the later family's looks); each row that meets fmt, with fmt's text TOLD by the authors' own Lean function (tested against real Go, not proved from fmt's source: count such statements apart). THE CARD IS WHAT COUNTS. Prove the row's statement (the work); the ties are given (YtkmcifimhbmgnaaGreatDoorTie.lean); close each card by the builder's one call (the guide's Derived/Test/ToyasCard.lean, 'card_holds'). Laid BY PROGRAM, IN A SANDBOX (cutbox-door.mjs). By AI agents, Wed Nov 11 2026. No macro, syntax, notation, axiom, sorry.
-/
import Derived.Test.YtkmcifimhbmgnaaGreatDoorRows
import GoSem.ClaimSeven
namespace Go.Proofs.YtkmcifimhbmgnaaGreatDoor
namespace Rows

/-- THE TIED CARD OF 'mailguardlaw02.MarkingTells'. -/
def markingTellsCard : Claim7 := { stood := { row := markingTellsRow, standIns := [], harness := (true, "fb47a06d061c9381d7a9af35acd76202967f53e12392d5b98ade9ebcbc3146bf"), looks := false }, kinds := [], alts := [], laidByText := true, laidKinds := [.data, .pinned], laidTests := true, laidLooks := .later }
def MarkingTellsCardSaid : Prop := Claim7.holds Tryz.pinned (.plain (OpenSpec.ofChange markingTellsSpec)) markingTellsCard

/-- THE TIED CARD OF 'mailguardlaw02.MarkingTwice'. -/
def markingTwiceCard : Claim7 := { stood := { row := markingTwiceRow, standIns := [], harness := (true, "fb47a06d061c9381d7a9af35acd76202967f53e12392d5b98ade9ebcbc3146bf"), looks := false }, kinds := [], alts := [], laidByText := true, laidKinds := [.data, .pinned], laidTests := true, laidLooks := .later }
def MarkingTwiceCardSaid : Prop := Claim7.holds Tryz.pinned (.plain (OpenSpec.ofChange markingTwiceSpec)) markingTwiceCard

/-- THE TIED CARD OF 'mailguardlaw02.MarkingPasses'. -/
def markingPassesCard : Claim7 := { stood := { row := markingPassesRow, standIns := [], harness := (true, "fb47a06d061c9381d7a9af35acd76202967f53e12392d5b98ade9ebcbc3146bf"), looks := false }, kinds := [], alts := [], laidByText := true, laidKinds := [.data, .pinned], laidTests := true, laidLooks := .later }
def MarkingPassesCardSaid : Prop := Claim7.holds Tryz.pinned (.plain (OpenSpec.ofChange markingPassesSpec)) markingPassesCard

/-- THE SECOND FORM's CARD OF 'mailguardlaw02.MarkingTells'. -/
def markingTellsUptoCard : Claim7 := { stood := { row := markingTellsUptoRow, standIns := [], harness := (true, "fb47a06d061c9381d7a9af35acd76202967f53e12392d5b98ade9ebcbc3146bf"), looks := false }, kinds := [], alts := [], laidByText := true, laidKinds := [.data, .pinned], laidTests := true, laidLooks := .later }
def MarkingTellsUptoCardSaid : Prop := Claim7.holds Tryz.pinned (.plain (OpenSpec.upto markingTellsSpec)) markingTellsUptoCard

/-- THE SECOND FORM's CARD OF 'mailguardlaw02.MarkingTwice'. -/
def markingTwiceUptoCard : Claim7 := { stood := { row := markingTwiceUptoRow, standIns := [], harness := (true, "fb47a06d061c9381d7a9af35acd76202967f53e12392d5b98ade9ebcbc3146bf"), looks := false }, kinds := [], alts := [], laidByText := true, laidKinds := [.data, .pinned], laidTests := true, laidLooks := .later }
def MarkingTwiceUptoCardSaid : Prop := Claim7.holds Tryz.pinned (.plain (OpenSpec.upto markingTwiceSpec)) markingTwiceUptoCard

/-- THE SECOND FORM's CARD OF 'mailguardlaw02.MarkingPasses'. -/
def markingPassesUptoCard : Claim7 := { stood := { row := markingPassesUptoRow, standIns := [], harness := (true, "fb47a06d061c9381d7a9af35acd76202967f53e12392d5b98ade9ebcbc3146bf"), looks := false }, kinds := [], alts := [], laidByText := true, laidKinds := [.data, .pinned], laidTests := true, laidLooks := .later }
def MarkingPassesUptoCardSaid : Prop := Claim7.holds Tryz.pinned (.plain (OpenSpec.upto markingPassesSpec)) markingPassesUptoCard
end Rows
end Go.Proofs.YtkmcifimhbmgnaaGreatDoor
