/-
  DERIVED. GIVEN WITH THE SEED: THE CARDS: each row of YteiepgbdngamiaaDoorRows.lean that lists a variable, with what it lists TIED to the program's text (the seventh form; the later family's looks); each row that meets fmt, with fmt's text TOLD by the authors' own Lean function (tested against real Go, not proved from fmt's source: count such statements apart). THE CARD IS WHAT COUNTS. Prove the row's statement (the work); the ties are given (YteiepgbdngamiaaDoorTie.lean); close each card by the builder's one call (the guide's Derived/Test/ToyasCard.lean, 'card_holds'). Laid BY PROGRAM, IN A SANDBOX (cutbox-door.mjs). By AI agents, Wed Nov 11 2026. No macro, syntax, notation, axiom, sorry.
-/
import Derived.Test.YteiepgbdngamiaaDoorRows
import GoSem.ClaimSeven
namespace Go.Proofs.YteiepgbdngamiaaDoor
namespace Rows

/-- THE TIED CARD OF 'mailguardlaw06.FrameFeeds'. -/
def frameFeedsCard : Claim7 := { stood := { row := frameFeedsRow, standIns := [], harness := (true, "49a7417bbe52767607f0a3c1f0d4fea102dea72679b62f0792bc7513bbe0300f"), looks := false }, kinds := [], alts := [], laidByText := true, laidKinds := [.data, .pinned], laidTests := true, laidLooks := .later }
def FrameFeedsCardSaid : Prop := Claim7.holds Tryd.pinned (.plain (OpenSpec.ofChange frameFeedsSpec)) frameFeedsCard

/-- THE TIED CARD OF 'mailguardlaw06.FramePieces'. -/
def framePiecesCard : Claim7 := { stood := { row := framePiecesRow, standIns := [], harness := (true, "49a7417bbe52767607f0a3c1f0d4fea102dea72679b62f0792bc7513bbe0300f"), looks := false }, kinds := [], alts := [], laidByText := true, laidKinds := [.data, .pinned], laidTests := true, laidLooks := .later }
def FramePiecesCardSaid : Prop := Claim7.holds Tryd.pinned (.plain (OpenSpec.ofChange framePiecesSpec)) framePiecesCard

/-- THE TIED CARD OF 'mailguardlaw06.FrameStuffs'. -/
def frameStuffsCard : Claim7 := { stood := { row := frameStuffsRow, standIns := [], harness := (true, "49a7417bbe52767607f0a3c1f0d4fea102dea72679b62f0792bc7513bbe0300f"), looks := false }, kinds := [], alts := [], laidByText := true, laidKinds := [.data, .pinned], laidTests := true, laidLooks := .later }
def FrameStuffsCardSaid : Prop := Claim7.holds Tryd.pinned (.plain (OpenSpec.ofChange frameStuffsSpec)) frameStuffsCard

/-- THE TIED CARD OF 'mailguardlaw06.FrameBack'. -/
def frameBackCard : Claim7 := { stood := { row := frameBackRow, standIns := [], harness := (true, "49a7417bbe52767607f0a3c1f0d4fea102dea72679b62f0792bc7513bbe0300f"), looks := false }, kinds := [], alts := [], laidByText := true, laidKinds := [.data, .pinned], laidTests := true, laidLooks := .later }
def FrameBackCardSaid : Prop := Claim7.holds Tryd.pinned (.plain (OpenSpec.ofChange frameBackSpec)) frameBackCard

/-- THE TIED CARD OF 'mailguardlaw06.FrameReset'. -/
def frameResetCard : Claim7 := { stood := { row := frameResetRow, standIns := [], harness := (true, "49a7417bbe52767607f0a3c1f0d4fea102dea72679b62f0792bc7513bbe0300f"), looks := false }, kinds := [], alts := [], laidByText := true, laidKinds := [.data, .pinned], laidTests := true, laidLooks := .later }
def FrameResetCardSaid : Prop := Claim7.holds Tryd.pinned (.plain (OpenSpec.ofChange frameResetSpec)) frameResetCard

/-- THE TIED CARD OF 'mailguardlaw06.FrameLong'. -/
def frameLongCard : Claim7 := { stood := { row := frameLongRow, standIns := [], harness := (true, "49a7417bbe52767607f0a3c1f0d4fea102dea72679b62f0792bc7513bbe0300f"), looks := false }, kinds := [], alts := [], laidByText := true, laidKinds := [.data, .pinned], laidTests := true, laidLooks := .later }
def FrameLongCardSaid : Prop := Claim7.holds Tryd.pinned (.plain (OpenSpec.ofChange frameLongSpec)) frameLongCard

/-- THE SECOND FORM's CARD OF 'mailguardlaw06.FrameFeeds'. -/
def frameFeedsUptoCard : Claim7 := { stood := { row := frameFeedsUptoRow, standIns := [], harness := (true, "49a7417bbe52767607f0a3c1f0d4fea102dea72679b62f0792bc7513bbe0300f"), looks := false }, kinds := [], alts := [], laidByText := true, laidKinds := [.data, .pinned], laidTests := true, laidLooks := .later }
def FrameFeedsUptoCardSaid : Prop := Claim7.holds Tryd.pinned (.plain (OpenSpec.upto frameFeedsSpec)) frameFeedsUptoCard

/-- THE SECOND FORM's CARD OF 'mailguardlaw06.FramePieces'. -/
def framePiecesUptoCard : Claim7 := { stood := { row := framePiecesUptoRow, standIns := [], harness := (true, "49a7417bbe52767607f0a3c1f0d4fea102dea72679b62f0792bc7513bbe0300f"), looks := false }, kinds := [], alts := [], laidByText := true, laidKinds := [.data, .pinned], laidTests := true, laidLooks := .later }
def FramePiecesUptoCardSaid : Prop := Claim7.holds Tryd.pinned (.plain (OpenSpec.upto framePiecesSpec)) framePiecesUptoCard

/-- THE SECOND FORM's CARD OF 'mailguardlaw06.FrameStuffs'. -/
def frameStuffsUptoCard : Claim7 := { stood := { row := frameStuffsUptoRow, standIns := [], harness := (true, "49a7417bbe52767607f0a3c1f0d4fea102dea72679b62f0792bc7513bbe0300f"), looks := false }, kinds := [], alts := [], laidByText := true, laidKinds := [.data, .pinned], laidTests := true, laidLooks := .later }
def FrameStuffsUptoCardSaid : Prop := Claim7.holds Tryd.pinned (.plain (OpenSpec.upto frameStuffsSpec)) frameStuffsUptoCard

/-- THE SECOND FORM's CARD OF 'mailguardlaw06.FrameBack'. -/
def frameBackUptoCard : Claim7 := { stood := { row := frameBackUptoRow, standIns := [], harness := (true, "49a7417bbe52767607f0a3c1f0d4fea102dea72679b62f0792bc7513bbe0300f"), looks := false }, kinds := [], alts := [], laidByText := true, laidKinds := [.data, .pinned], laidTests := true, laidLooks := .later }
def FrameBackUptoCardSaid : Prop := Claim7.holds Tryd.pinned (.plain (OpenSpec.upto frameBackSpec)) frameBackUptoCard

/-- THE SECOND FORM's CARD OF 'mailguardlaw06.FrameReset'. -/
def frameResetUptoCard : Claim7 := { stood := { row := frameResetUptoRow, standIns := [], harness := (true, "49a7417bbe52767607f0a3c1f0d4fea102dea72679b62f0792bc7513bbe0300f"), looks := false }, kinds := [], alts := [], laidByText := true, laidKinds := [.data, .pinned], laidTests := true, laidLooks := .later }
def FrameResetUptoCardSaid : Prop := Claim7.holds Tryd.pinned (.plain (OpenSpec.upto frameResetSpec)) frameResetUptoCard

/-- THE SECOND FORM's CARD OF 'mailguardlaw06.FrameLong'. -/
def frameLongUptoCard : Claim7 := { stood := { row := frameLongUptoRow, standIns := [], harness := (true, "49a7417bbe52767607f0a3c1f0d4fea102dea72679b62f0792bc7513bbe0300f"), looks := false }, kinds := [], alts := [], laidByText := true, laidKinds := [.data, .pinned], laidTests := true, laidLooks := .later }
def FrameLongUptoCardSaid : Prop := Claim7.holds Tryd.pinned (.plain (OpenSpec.upto frameLongSpec)) frameLongUptoCard
end Rows
end Go.Proofs.YteiepgbdngamiaaDoor
