/-
  DERIVED. GIVEN WITH THE SEED: THE CARDS: each row of YteklocejgbippaaDoorRows.lean that lists a variable, with what it lists TIED to the program's text (the seventh form; the later family's looks); each row that meets fmt, with fmt's text TOLD by the authors' own Lean function (tested against real Go, not proved from fmt's source: count such statements apart). THE CARD IS WHAT COUNTS. Prove the row's statement (the work); the ties are given (YteklocejgbippaaDoorTie.lean); close each card by the builder's one call (the guide's Derived/Test/ToyasCard.lean, 'card_holds'). Laid BY PROGRAM, IN A SANDBOX (cutbox-door.mjs). By AI agents, Wed Nov 11 2026. No macro, syntax, notation, axiom, sorry.
-/
import Derived.Test.YteklocejgbippaaDoorRows
import GoSem.ClaimSeven
namespace Go.Proofs.YteklocejgbippaaDoor
namespace Rows

/-- THE TIED CARD OF 'mailguardlaw05.WordsTell'. -/
def wordsTellCard : Claim7 := { stood := { row := wordsTellRow, standIns := [], harness := (true, "4462b475f187d5fdc98b1e3ec01066d29453abdb15194690206ac3eaac9aee50"), looks := false }, kinds := [], alts := [], laidByText := true, laidKinds := [.data, .pinned], laidTests := true, laidLooks := .later }
def WordsTellCardSaid : Prop := Claim7.holds Tryd.pinned (.plain (OpenSpec.ofChange wordsTellSpec)) wordsTellCard

/-- THE TIED CARD OF 'mailguardlaw05.WordsBack'. -/
def wordsBackCard : Claim7 := { stood := { row := wordsBackRow, standIns := [], harness := (true, "4462b475f187d5fdc98b1e3ec01066d29453abdb15194690206ac3eaac9aee50"), looks := false }, kinds := [], alts := [], laidByText := true, laidKinds := [.data, .pinned], laidTests := true, laidLooks := .later }
def WordsBackCardSaid : Prop := Claim7.holds Tryd.pinned (.plain (OpenSpec.ofChange wordsBackSpec)) wordsBackCard

/-- THE TIED CARD OF 'mailguardlaw05.WordsPlain'. -/
def wordsPlainCard : Claim7 := { stood := { row := wordsPlainRow, standIns := [], harness := (true, "4462b475f187d5fdc98b1e3ec01066d29453abdb15194690206ac3eaac9aee50"), looks := false }, kinds := [], alts := [], laidByText := true, laidKinds := [.data, .pinned], laidTests := true, laidLooks := .later }
def WordsPlainCardSaid : Prop := Claim7.holds Tryd.pinned (.plain (OpenSpec.ofChange wordsPlainSpec)) wordsPlainCard

/-- THE TIED CARD OF 'mailguardlaw05.WordsParts'. -/
def wordsPartsCard : Claim7 := { stood := { row := wordsPartsRow, standIns := [], harness := (true, "4462b475f187d5fdc98b1e3ec01066d29453abdb15194690206ac3eaac9aee50"), looks := false }, kinds := [], alts := [], laidByText := true, laidKinds := [.data, .pinned], laidTests := true, laidLooks := .later }
def WordsPartsCardSaid : Prop := Claim7.holds Tryd.pinned (.plain (OpenSpec.ofChange wordsPartsSpec)) wordsPartsCard

/-- THE SECOND FORM's CARD OF 'mailguardlaw05.WordsTell'. -/
def wordsTellUptoCard : Claim7 := { stood := { row := wordsTellUptoRow, standIns := [], harness := (true, "4462b475f187d5fdc98b1e3ec01066d29453abdb15194690206ac3eaac9aee50"), looks := false }, kinds := [], alts := [], laidByText := true, laidKinds := [.data, .pinned], laidTests := true, laidLooks := .later }
def WordsTellUptoCardSaid : Prop := Claim7.holds Tryd.pinned (.plain (OpenSpec.upto wordsTellSpec)) wordsTellUptoCard

/-- THE SECOND FORM's CARD OF 'mailguardlaw05.WordsBack'. -/
def wordsBackUptoCard : Claim7 := { stood := { row := wordsBackUptoRow, standIns := [], harness := (true, "4462b475f187d5fdc98b1e3ec01066d29453abdb15194690206ac3eaac9aee50"), looks := false }, kinds := [], alts := [], laidByText := true, laidKinds := [.data, .pinned], laidTests := true, laidLooks := .later }
def WordsBackUptoCardSaid : Prop := Claim7.holds Tryd.pinned (.plain (OpenSpec.upto wordsBackSpec)) wordsBackUptoCard

/-- THE SECOND FORM's CARD OF 'mailguardlaw05.WordsPlain'. -/
def wordsPlainUptoCard : Claim7 := { stood := { row := wordsPlainUptoRow, standIns := [], harness := (true, "4462b475f187d5fdc98b1e3ec01066d29453abdb15194690206ac3eaac9aee50"), looks := false }, kinds := [], alts := [], laidByText := true, laidKinds := [.data, .pinned], laidTests := true, laidLooks := .later }
def WordsPlainUptoCardSaid : Prop := Claim7.holds Tryd.pinned (.plain (OpenSpec.upto wordsPlainSpec)) wordsPlainUptoCard

/-- THE SECOND FORM's CARD OF 'mailguardlaw05.WordsParts'. -/
def wordsPartsUptoCard : Claim7 := { stood := { row := wordsPartsUptoRow, standIns := [], harness := (true, "4462b475f187d5fdc98b1e3ec01066d29453abdb15194690206ac3eaac9aee50"), looks := false }, kinds := [], alts := [], laidByText := true, laidKinds := [.data, .pinned], laidTests := true, laidLooks := .later }
def WordsPartsUptoCardSaid : Prop := Claim7.holds Tryd.pinned (.plain (OpenSpec.upto wordsPartsSpec)) wordsPartsUptoCard
end Rows
end Go.Proofs.YteklocejgbippaaDoor
