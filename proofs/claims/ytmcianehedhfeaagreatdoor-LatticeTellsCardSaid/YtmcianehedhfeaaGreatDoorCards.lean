/-
  DERIVED. GIVEN WITH THE SEED: THE CARDS: each row of YtmcianehedhfeaaGreatDoorRows.lean that lists a variable, with what it lists TIED to the program's text (the seventh form; the later family's looks); each row that meets fmt, with fmt's text TOLD by the authors' own Lean function (tested against real Go, not proved from fmt's source: count such statements apart). THE CARD IS WHAT COUNTS. Prove the row's statement (the work); the ties are given (YtmcianehedhfeaaGreatDoorTie.lean); close each card by the builder's one call (the guide's Derived/Test/ToyasCard.lean, 'card_holds'). Laid BY PROGRAM, IN A SANDBOX (cutbox-door.mjs). By AI agents, Wed Nov 11 2026. No macro, syntax, notation, axiom, sorry.
-/
import Derived.Test.YtmcianehedhfeaaGreatDoorRows
import GoSem.ClaimSeven
namespace Go.Proofs.YtmcianehedhfeaaGreatDoor
namespace Rows

/-- THE TIED CARD OF 'mailguardlaw01.LatticeTells'. -/
def latticeTellsCard : Claim7 := { stood := { row := latticeTellsRow, standIns := [], harness := (true, "4cdc37445955885e70a999a55b2a56b95428e079d6509832defe50b28a89a889"), looks := false }, kinds := [], alts := [], laidByText := true, laidKinds := [.data, .pinned], laidTests := true, laidLooks := .later }
def LatticeTellsCardSaid : Prop := Claim7.holds Tryz.pinned (.plain (OpenSpec.ofChange latticeTellsSpec)) latticeTellsCard

/-- THE SECOND FORM's CARD OF 'mailguardlaw01.LatticeTells'. -/
def latticeTellsUptoCard : Claim7 := { stood := { row := latticeTellsUptoRow, standIns := [], harness := (true, "4cdc37445955885e70a999a55b2a56b95428e079d6509832defe50b28a89a889"), looks := false }, kinds := [], alts := [], laidByText := true, laidKinds := [.data, .pinned], laidTests := true, laidLooks := .later }
def LatticeTellsUptoCardSaid : Prop := Claim7.holds Tryz.pinned (.plain (OpenSpec.upto latticeTellsSpec)) latticeTellsUptoCard
end Rows
end Go.Proofs.YtmcianehedhfeaaGreatDoor
