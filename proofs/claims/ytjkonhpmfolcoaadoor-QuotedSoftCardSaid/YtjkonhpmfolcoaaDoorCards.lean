/-
  DERIVED. GIVEN WITH THE SEED: THE CARDS: each row of YtjkonhpmfolcoaaDoorRows.lean that lists a variable, with what it lists TIED to the program's text (the seventh form; the later family's looks); each row that meets fmt, with fmt's text TOLD by the authors' own Lean function (tested against real Go, not proved from fmt's source: count such statements apart). THE CARD IS WHAT COUNTS. Prove the row's statement (the work); the ties are given (YtjkonhpmfolcoaaDoorTie.lean); close each card by the builder's one call (the guide's Derived/Test/ToyasCard.lean, 'card_holds'). Laid BY PROGRAM, IN A SANDBOX (cutbox-door.mjs). By AI agents, Wed Nov 11 2026. No macro, syntax, notation, axiom, sorry.
-/
import Derived.Test.YtjkonhpmfolcoaaDoorRows
import GoSem.ClaimSeven
namespace Go.Proofs.YtjkonhpmfolcoaaDoor
namespace Rows

/-- THE TIED CARD OF 'mailguardlaw04.QuotedTells'. -/
def quotedTellsCard : Claim7 := { stood := { row := quotedTellsRow, standIns := [], harness := (true, "5bc6b620c200eab48037ec4b78e929a1583d39e8cddc93e9d09c2c4d73683a00"), looks := false }, kinds := [], alts := [], laidByText := true, laidKinds := [.data, .pinned], laidTests := true, laidLooks := .later }
def QuotedTellsCardSaid : Prop := Claim7.holds Tryd.pinned (.plain (OpenSpec.ofChange quotedTellsSpec)) quotedTellsCard

/-- THE TIED CARD OF 'mailguardlaw04.QuotedBack'. -/
def quotedBackCard : Claim7 := { stood := { row := quotedBackRow, standIns := [], harness := (true, "5bc6b620c200eab48037ec4b78e929a1583d39e8cddc93e9d09c2c4d73683a00"), looks := false }, kinds := [], alts := [], laidByText := true, laidKinds := [.data, .pinned], laidTests := true, laidLooks := .later }
def QuotedBackCardSaid : Prop := Claim7.holds Tryd.pinned (.plain (OpenSpec.ofChange quotedBackSpec)) quotedBackCard

/-- THE TIED CARD OF 'mailguardlaw04.QuotedLines'. -/
def quotedLinesCard : Claim7 := { stood := { row := quotedLinesRow, standIns := [], harness := (true, "5bc6b620c200eab48037ec4b78e929a1583d39e8cddc93e9d09c2c4d73683a00"), looks := false }, kinds := [], alts := [], laidByText := true, laidKinds := [.data, .pinned], laidTests := true, laidLooks := .later }
def QuotedLinesCardSaid : Prop := Claim7.holds Tryd.pinned (.plain (OpenSpec.ofChange quotedLinesSpec)) quotedLinesCard

/-- THE TIED CARD OF 'mailguardlaw04.QuotedParts'. -/
def quotedPartsCard : Claim7 := { stood := { row := quotedPartsRow, standIns := [], harness := (true, "5bc6b620c200eab48037ec4b78e929a1583d39e8cddc93e9d09c2c4d73683a00"), looks := false }, kinds := [], alts := [], laidByText := true, laidKinds := [.data, .pinned], laidTests := true, laidLooks := .later }
def QuotedPartsCardSaid : Prop := Claim7.holds Tryd.pinned (.plain (OpenSpec.ofChange quotedPartsSpec)) quotedPartsCard

/-- THE TIED CARD OF 'mailguardlaw04.QuotedPlain'. -/
def quotedPlainCard : Claim7 := { stood := { row := quotedPlainRow, standIns := [], harness := (true, "5bc6b620c200eab48037ec4b78e929a1583d39e8cddc93e9d09c2c4d73683a00"), looks := false }, kinds := [], alts := [], laidByText := true, laidKinds := [.data, .pinned], laidTests := true, laidLooks := .later }
def QuotedPlainCardSaid : Prop := Claim7.holds Tryd.pinned (.plain (OpenSpec.ofChange quotedPlainSpec)) quotedPlainCard

/-- THE TIED CARD OF 'mailguardlaw04.QuotedSoft'. -/
def quotedSoftCard : Claim7 := { stood := { row := quotedSoftRow, standIns := [], harness := (true, "5bc6b620c200eab48037ec4b78e929a1583d39e8cddc93e9d09c2c4d73683a00"), looks := false }, kinds := [], alts := [], laidByText := true, laidKinds := [.data, .pinned], laidTests := true, laidLooks := .later }
def QuotedSoftCardSaid : Prop := Claim7.holds Tryd.pinned (.plain (OpenSpec.ofChange quotedSoftSpec)) quotedSoftCard

/-- THE SECOND FORM's CARD OF 'mailguardlaw04.QuotedTells'. -/
def quotedTellsUptoCard : Claim7 := { stood := { row := quotedTellsUptoRow, standIns := [], harness := (true, "5bc6b620c200eab48037ec4b78e929a1583d39e8cddc93e9d09c2c4d73683a00"), looks := false }, kinds := [], alts := [], laidByText := true, laidKinds := [.data, .pinned], laidTests := true, laidLooks := .later }
def QuotedTellsUptoCardSaid : Prop := Claim7.holds Tryd.pinned (.plain (OpenSpec.upto quotedTellsSpec)) quotedTellsUptoCard

/-- THE SECOND FORM's CARD OF 'mailguardlaw04.QuotedBack'. -/
def quotedBackUptoCard : Claim7 := { stood := { row := quotedBackUptoRow, standIns := [], harness := (true, "5bc6b620c200eab48037ec4b78e929a1583d39e8cddc93e9d09c2c4d73683a00"), looks := false }, kinds := [], alts := [], laidByText := true, laidKinds := [.data, .pinned], laidTests := true, laidLooks := .later }
def QuotedBackUptoCardSaid : Prop := Claim7.holds Tryd.pinned (.plain (OpenSpec.upto quotedBackSpec)) quotedBackUptoCard

/-- THE SECOND FORM's CARD OF 'mailguardlaw04.QuotedLines'. -/
def quotedLinesUptoCard : Claim7 := { stood := { row := quotedLinesUptoRow, standIns := [], harness := (true, "5bc6b620c200eab48037ec4b78e929a1583d39e8cddc93e9d09c2c4d73683a00"), looks := false }, kinds := [], alts := [], laidByText := true, laidKinds := [.data, .pinned], laidTests := true, laidLooks := .later }
def QuotedLinesUptoCardSaid : Prop := Claim7.holds Tryd.pinned (.plain (OpenSpec.upto quotedLinesSpec)) quotedLinesUptoCard

/-- THE SECOND FORM's CARD OF 'mailguardlaw04.QuotedParts'. -/
def quotedPartsUptoCard : Claim7 := { stood := { row := quotedPartsUptoRow, standIns := [], harness := (true, "5bc6b620c200eab48037ec4b78e929a1583d39e8cddc93e9d09c2c4d73683a00"), looks := false }, kinds := [], alts := [], laidByText := true, laidKinds := [.data, .pinned], laidTests := true, laidLooks := .later }
def QuotedPartsUptoCardSaid : Prop := Claim7.holds Tryd.pinned (.plain (OpenSpec.upto quotedPartsSpec)) quotedPartsUptoCard

/-- THE SECOND FORM's CARD OF 'mailguardlaw04.QuotedPlain'. -/
def quotedPlainUptoCard : Claim7 := { stood := { row := quotedPlainUptoRow, standIns := [], harness := (true, "5bc6b620c200eab48037ec4b78e929a1583d39e8cddc93e9d09c2c4d73683a00"), looks := false }, kinds := [], alts := [], laidByText := true, laidKinds := [.data, .pinned], laidTests := true, laidLooks := .later }
def QuotedPlainUptoCardSaid : Prop := Claim7.holds Tryd.pinned (.plain (OpenSpec.upto quotedPlainSpec)) quotedPlainUptoCard

/-- THE SECOND FORM's CARD OF 'mailguardlaw04.QuotedSoft'. -/
def quotedSoftUptoCard : Claim7 := { stood := { row := quotedSoftUptoRow, standIns := [], harness := (true, "5bc6b620c200eab48037ec4b78e929a1583d39e8cddc93e9d09c2c4d73683a00"), looks := false }, kinds := [], alts := [], laidByText := true, laidKinds := [.data, .pinned], laidTests := true, laidLooks := .later }
def QuotedSoftUptoCardSaid : Prop := Claim7.holds Tryd.pinned (.plain (OpenSpec.upto quotedSoftSpec)) quotedSoftUptoCard
end Rows
end Go.Proofs.YtjkonhpmfolcoaaDoor
