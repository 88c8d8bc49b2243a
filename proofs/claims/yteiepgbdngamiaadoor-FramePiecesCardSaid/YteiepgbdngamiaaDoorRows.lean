/-
  NARROWER THAN 'FOR EVERY INPUT', by the rows' own cells (each row's printed sentence says how): FrameFeeds: laid · FramePieces: laid · FrameStuffs: laid · FrameBack: laid · FrameReset: laid · FrameLong: laid.
  DERIVED. THE GIVEN ROWS OF THIS SEAT. 6 by the template 'for every input the law returns true; each argument reads behind the call as it read before'; 0 by the template 'total and deterministic' (their statements: YteiepgbdngamiaaDoorTotals.lean).
  GIVEN WITH THE SEED: the statements are not yours to turn. If you find one false, say at which input.
  Laid BY PROGRAM, IN A SANDBOX (cutbox-rows.mjs): the forced cells as the released guide's own fill.sh prints them over the translation 0cec72a56ea67c14… (all of the seat's roots in one cut). By AI agents, Wed Nov 11 2026. No macro, syntax, notation, axiom, sorry.
-/
import Derived.Test.YteiepgbdngamiaaDoorChecked
import GoSem.PinnedTables
import GoSem.Claim
import GoSem.ClaimJoined
import GoSem.ClaimMapViews
import Derived.JoinedTies
import Derived.KernelRfl
namespace Go.Proofs.YteiepgbdngamiaaDoor
/- THE CELL 'sum', in the pinned program and in every row, IS THE sha256 OF THE DUMP (.gsa) THAT YteiepgbdngamiaaDoorProg.lean LOADS. Nothing in Lean hashes anything: it is a label: what it is worth is what the hold of that sum in a sandbox is worth. -/
noncomputable def Tryd.pinned : Pinned := { name := "yteiepgbdngamiaadoor", sum := "0cec72a56ea67c1483e3448d437d5c41660d6e5e3dfc559065eb7a2b37c5d8db", checked := Tryd.checked }
namespace Rows
def none {H : Type} : Left H := { results := [], args := [] }

/- WHAT THE LISTED PACKAGE-LEVEL VARIABLES READ AS WHEN THE CALL BEGINS. Each datum BY PROGRAM (the guide's laid-datum.mjs) off the statement by which the dump's own 'gosem.cut.vars' lays the variable. In a bare row this is a premise. The card (YteiepgbdngamiaaDoorCards.lean) ties it to the program's text. -/
def laid_unicode_utf8_acceptRanges {H : Type} : DataW H := .agg [.agg [.lit (.int .u8 128), .lit (.int .u8 191)], .agg [.lit (.int .u8 160), .lit (.int .u8 191)], .agg [.lit (.int .u8 128), .lit (.int .u8 159)], .agg [.lit (.int .u8 144), .lit (.int .u8 191)], .agg [.lit (.int .u8 128), .lit (.int .u8 143)], .agg [.lit (.int .u8 0), .lit (.int .u8 0)], .agg [.lit (.int .u8 0), .lit (.int .u8 0)], .agg [.lit (.int .u8 0), .lit (.int .u8 0)], .agg [.lit (.int .u8 0), .lit (.int .u8 0)], .agg [.lit (.int .u8 0), .lit (.int .u8 0)], .agg [.lit (.int .u8 0), .lit (.int .u8 0)], .agg [.lit (.int .u8 0), .lit (.int .u8 0)], .agg [.lit (.int .u8 0), .lit (.int .u8 0)], .agg [.lit (.int .u8 0), .lit (.int .u8 0)], .agg [.lit (.int .u8 0), .lit (.int .u8 0)], .agg [.lit (.int .u8 0), .lit (.int .u8 0)]]
/-- One of Go's own tables, pinned by name: the form's constant. -/
def laid_unicode_utf8_first : DataW Unit := Go.Pinned.utf8First

/-- 'mailguardlaw06.FrameFeeds': WHATEVER THE INPUT: true; the input reads as it did. -/
def frameFeedsSpec : ChangeSpec := { name := "frameFeeds", fn := fun _ => fun
  | [d1, d2] => { results := [.lit (.bool true)], args := [d1, d2] }
  | _ => none }
def frameFeedsRow : OpenClaim := { program := "yteiepgbdngamiaadoor", sum := "0cec72a56ea67c1483e3448d437d5c41660d6e5e3dfc559065eb7a2b37c5d8db", func := "mailguard/mailguardlaw06.FrameFeeds", spec := "frameFeeds", inPlace := ["sync/atomic.AddInt64", "internal/bytealg.CountString", "internal/bytealg.IndexByteString", "internal/bytealg.IndexString", "internal/abi.NoEscape", "sync/atomic.LoadInt64"], named := ["unicode/utf8.first", "unicode/utf8.acceptRanges", "internal/bytealg.MaxLen"], apart := false, laid := [("unicode/utf8.acceptRanges", laid_unicode_utf8_acceptRanges), ("unicode/utf8.first", laid_unicode_utf8_first)] }
def FrameFeedsSaid : Prop := frameFeedsRow.holds Tryd.pinned (OpenSpec.ofChange frameFeedsSpec)

/-- ITS FALSE NEIGHBOUR: 'it returns false'. Refute it at one input. -/
def frameFeedsWrong : ChangeSpec := { name := "frameFeeds", fn := fun _ => fun
  | [d1, d2] => { results := [.lit (.bool false)], args := [d1, d2] }
  | _ => none }
def FrameFeedsWrongFalsely : Prop := frameFeedsRow.holds Tryd.pinned (OpenSpec.ofChange frameFeedsWrong)

/-- 'mailguardlaw06.FramePieces': WHATEVER THE INPUT: true; the input reads as it did. -/
def framePiecesSpec : ChangeSpec := { name := "framePieces", fn := fun _ => fun
  | [d] => { results := [.lit (.bool true)], args := [d] }
  | _ => none }
def framePiecesRow : OpenClaim := { program := "yteiepgbdngamiaadoor", sum := "0cec72a56ea67c1483e3448d437d5c41660d6e5e3dfc559065eb7a2b37c5d8db", func := "mailguard/mailguardlaw06.FramePieces", spec := "framePieces", inPlace := ["sync/atomic.AddInt64", "internal/bytealg.CountString", "internal/bytealg.IndexByteString", "internal/bytealg.IndexString", "internal/abi.NoEscape", "sync/atomic.LoadInt64"], named := ["unicode/utf8.first", "unicode/utf8.acceptRanges", "internal/bytealg.MaxLen"], apart := false, laid := [("unicode/utf8.acceptRanges", laid_unicode_utf8_acceptRanges), ("unicode/utf8.first", laid_unicode_utf8_first)] }
def FramePiecesSaid : Prop := framePiecesRow.holds Tryd.pinned (OpenSpec.ofChange framePiecesSpec)

/-- ITS FALSE NEIGHBOUR: 'it returns false'. Refute it at one input. -/
def framePiecesWrong : ChangeSpec := { name := "framePieces", fn := fun _ => fun
  | [d] => { results := [.lit (.bool false)], args := [d] }
  | _ => none }
def FramePiecesWrongFalsely : Prop := framePiecesRow.holds Tryd.pinned (OpenSpec.ofChange framePiecesWrong)

/-- 'mailguardlaw06.FrameStuffs': WHATEVER THE INPUT: true; the input reads as it did. -/
def frameStuffsSpec : ChangeSpec := { name := "frameStuffs", fn := fun _ => fun
  | [d1, d2] => { results := [.lit (.bool true)], args := [d1, d2] }
  | _ => none }
def frameStuffsRow : OpenClaim := { program := "yteiepgbdngamiaadoor", sum := "0cec72a56ea67c1483e3448d437d5c41660d6e5e3dfc559065eb7a2b37c5d8db", func := "mailguard/mailguardlaw06.FrameStuffs", spec := "frameStuffs", inPlace := ["sync/atomic.AddInt64", "internal/bytealg.CountString", "internal/bytealg.IndexByteString", "internal/bytealg.IndexString", "internal/abi.NoEscape", "sync/atomic.LoadInt64"], named := ["unicode/utf8.first", "unicode/utf8.acceptRanges", "internal/bytealg.MaxLen"], apart := false, laid := [("unicode/utf8.acceptRanges", laid_unicode_utf8_acceptRanges), ("unicode/utf8.first", laid_unicode_utf8_first)] }
def FrameStuffsSaid : Prop := frameStuffsRow.holds Tryd.pinned (OpenSpec.ofChange frameStuffsSpec)

/-- ITS FALSE NEIGHBOUR: 'it returns false'. Refute it at one input. -/
def frameStuffsWrong : ChangeSpec := { name := "frameStuffs", fn := fun _ => fun
  | [d1, d2] => { results := [.lit (.bool false)], args := [d1, d2] }
  | _ => none }
def FrameStuffsWrongFalsely : Prop := frameStuffsRow.holds Tryd.pinned (OpenSpec.ofChange frameStuffsWrong)

/-- 'mailguardlaw06.FrameBack': WHATEVER THE INPUT: true; the input reads as it did. -/
def frameBackSpec : ChangeSpec := { name := "frameBack", fn := fun _ => fun
  | [d1, d2] => { results := [.lit (.bool true)], args := [d1, d2] }
  | _ => none }
def frameBackRow : OpenClaim := { program := "yteiepgbdngamiaadoor", sum := "0cec72a56ea67c1483e3448d437d5c41660d6e5e3dfc559065eb7a2b37c5d8db", func := "mailguard/mailguardlaw06.FrameBack", spec := "frameBack", inPlace := ["sync/atomic.AddInt64", "internal/bytealg.CountString", "internal/bytealg.IndexByteString", "internal/bytealg.IndexString", "internal/abi.NoEscape", "sync/atomic.LoadInt64"], named := ["unicode/utf8.first", "unicode/utf8.acceptRanges", "internal/bytealg.MaxLen"], apart := false, laid := [("unicode/utf8.acceptRanges", laid_unicode_utf8_acceptRanges), ("unicode/utf8.first", laid_unicode_utf8_first)] }
def FrameBackSaid : Prop := frameBackRow.holds Tryd.pinned (OpenSpec.ofChange frameBackSpec)

/-- ITS FALSE NEIGHBOUR: 'it returns false'. Refute it at one input. -/
def frameBackWrong : ChangeSpec := { name := "frameBack", fn := fun _ => fun
  | [d1, d2] => { results := [.lit (.bool false)], args := [d1, d2] }
  | _ => none }
def FrameBackWrongFalsely : Prop := frameBackRow.holds Tryd.pinned (OpenSpec.ofChange frameBackWrong)

/-- 'mailguardlaw06.FrameReset': WHATEVER THE INPUT: true; the input reads as it did. -/
def frameResetSpec : ChangeSpec := { name := "frameReset", fn := fun _ => fun
  | [d1, d2] => { results := [.lit (.bool true)], args := [d1, d2] }
  | _ => none }
def frameResetRow : OpenClaim := { program := "yteiepgbdngamiaadoor", sum := "0cec72a56ea67c1483e3448d437d5c41660d6e5e3dfc559065eb7a2b37c5d8db", func := "mailguard/mailguardlaw06.FrameReset", spec := "frameReset", inPlace := ["sync/atomic.AddInt64", "internal/bytealg.CountString", "internal/bytealg.IndexByteString", "internal/bytealg.IndexString", "internal/abi.NoEscape", "sync/atomic.LoadInt64"], named := ["unicode/utf8.first", "unicode/utf8.acceptRanges", "internal/bytealg.MaxLen"], apart := false, laid := [("unicode/utf8.acceptRanges", laid_unicode_utf8_acceptRanges), ("unicode/utf8.first", laid_unicode_utf8_first)] }
def FrameResetSaid : Prop := frameResetRow.holds Tryd.pinned (OpenSpec.ofChange frameResetSpec)

/-- ITS FALSE NEIGHBOUR: 'it returns false'. Refute it at one input. -/
def frameResetWrong : ChangeSpec := { name := "frameReset", fn := fun _ => fun
  | [d1, d2] => { results := [.lit (.bool false)], args := [d1, d2] }
  | _ => none }
def FrameResetWrongFalsely : Prop := frameResetRow.holds Tryd.pinned (OpenSpec.ofChange frameResetWrong)

/-- 'mailguardlaw06.FrameLong': WHATEVER THE INPUT: true; the input reads as it did. -/
def frameLongSpec : ChangeSpec := { name := "frameLong", fn := fun _ => fun
  | [d1, d2, d3] => { results := [.lit (.bool true)], args := [d1, d2, d3] }
  | _ => none }
def frameLongRow : OpenClaim := { program := "yteiepgbdngamiaadoor", sum := "0cec72a56ea67c1483e3448d437d5c41660d6e5e3dfc559065eb7a2b37c5d8db", func := "mailguard/mailguardlaw06.FrameLong", spec := "frameLong", inPlace := ["sync/atomic.AddInt64", "internal/bytealg.CountString", "internal/bytealg.IndexByteString", "internal/bytealg.IndexString", "internal/abi.NoEscape", "sync/atomic.LoadInt64"], named := ["unicode/utf8.first", "unicode/utf8.acceptRanges", "internal/bytealg.MaxLen"], apart := false, laid := [("unicode/utf8.acceptRanges", laid_unicode_utf8_acceptRanges), ("unicode/utf8.first", laid_unicode_utf8_first)] }
def FrameLongSaid : Prop := frameLongRow.holds Tryd.pinned (OpenSpec.ofChange frameLongSpec)

/-- ITS FALSE NEIGHBOUR: 'it returns false'. Refute it at one input. -/
def frameLongWrong : ChangeSpec := { name := "frameLong", fn := fun _ => fun
  | [d1, d2, d3] => { results := [.lit (.bool false)], args := [d1, d2, d3] }
  | _ => none }
def FrameLongWrongFalsely : Prop := frameLongRow.holds Tryd.pinned (OpenSpec.ofChange frameLongWrong)

/- THE SECOND FORM. 'bulk': how many values and letters a reading holds, each counted each time it is reached (what is shared counts as often as it is met; a slice's spare places count too). A statement '..UptoSaid' is the law's where the arguments, and the package variables that the reading takes, are together of bulk at most 1048576: NARROWER than '..Said'. Prove '..Said' where nothing that the law and all that it calls make is longer than what came in: it says more and counts as full. Else prove '..UptoSaid'. A law counts once. -/
mutual
def uptoBulk {H : Type} : DataW H → Nat
  | .lit (.string bytes) => bytes.length + 1
  | .lit _ => 1
  | .nil => 1
  | .ptr d => uptoBulk d + 1
  | .slice elems spare => uptoBulkAll elems + uptoBulkAll spare + 1
  | .agg parts => uptoBulkAll parts + 1
  | .iface _ d => uptoBulk d + 1
  | .map entries => uptoBulkEntries entries + 1
  | .held _ => 1
def uptoBulkAll {H : Type} : List (DataW H) → Nat
  | [] => 0
  | d :: r => uptoBulk d + uptoBulkAll r
def uptoBulkEntries {H : Type} : List (Lit × DataW H) → Nat
  | [] => 0
  | x :: r => uptoBulkEntry x + uptoBulkEntries r
def uptoBulkEntry {H : Type} : Lit × DataW H → Nat
  | (.string bytes, d) => bytes.length + uptoBulk d + 1
  | (_, d) => uptoBulk d + 1
 end
def uptoSmall : (H : Type) → List (DataW H) → Bool := fun _ ds => decide (uptoBulkAll ds ≤ 1048576)
def OpenSpec.upto (s : _root_.Go.ChangeSpec) : _root_.Go.OpenSpec := { _root_.Go.OpenSpec.ofChange s with cond := some uptoSmall }

/-- 'mailguardlaw06.FrameFeeds', WHERE WHAT IT READS IS OF BULK AT MOST 1048576: true; the input reads as it did. -/
def frameFeedsUptoRow : OpenClaim := { program := "yteiepgbdngamiaadoor", sum := "0cec72a56ea67c1483e3448d437d5c41660d6e5e3dfc559065eb7a2b37c5d8db", func := "mailguard/mailguardlaw06.FrameFeeds", spec := "frameFeeds", inPlace := ["sync/atomic.AddInt64", "internal/bytealg.CountString", "internal/bytealg.IndexByteString", "internal/bytealg.IndexString", "internal/abi.NoEscape", "sync/atomic.LoadInt64"], named := ["unicode/utf8.first", "unicode/utf8.acceptRanges", "internal/bytealg.MaxLen"], apart := false, laid := [("unicode/utf8.acceptRanges", laid_unicode_utf8_acceptRanges), ("unicode/utf8.first", laid_unicode_utf8_first)], narrowed := true }
def FrameFeedsUptoSaid : Prop := frameFeedsUptoRow.holds Tryd.pinned (OpenSpec.upto frameFeedsSpec)

/-- 'mailguardlaw06.FramePieces', WHERE WHAT IT READS IS OF BULK AT MOST 1048576: true; the input reads as it did. -/
def framePiecesUptoRow : OpenClaim := { program := "yteiepgbdngamiaadoor", sum := "0cec72a56ea67c1483e3448d437d5c41660d6e5e3dfc559065eb7a2b37c5d8db", func := "mailguard/mailguardlaw06.FramePieces", spec := "framePieces", inPlace := ["sync/atomic.AddInt64", "internal/bytealg.CountString", "internal/bytealg.IndexByteString", "internal/bytealg.IndexString", "internal/abi.NoEscape", "sync/atomic.LoadInt64"], named := ["unicode/utf8.first", "unicode/utf8.acceptRanges", "internal/bytealg.MaxLen"], apart := false, laid := [("unicode/utf8.acceptRanges", laid_unicode_utf8_acceptRanges), ("unicode/utf8.first", laid_unicode_utf8_first)], narrowed := true }
def FramePiecesUptoSaid : Prop := framePiecesUptoRow.holds Tryd.pinned (OpenSpec.upto framePiecesSpec)

/-- 'mailguardlaw06.FrameStuffs', WHERE WHAT IT READS IS OF BULK AT MOST 1048576: true; the input reads as it did. -/
def frameStuffsUptoRow : OpenClaim := { program := "yteiepgbdngamiaadoor", sum := "0cec72a56ea67c1483e3448d437d5c41660d6e5e3dfc559065eb7a2b37c5d8db", func := "mailguard/mailguardlaw06.FrameStuffs", spec := "frameStuffs", inPlace := ["sync/atomic.AddInt64", "internal/bytealg.CountString", "internal/bytealg.IndexByteString", "internal/bytealg.IndexString", "internal/abi.NoEscape", "sync/atomic.LoadInt64"], named := ["unicode/utf8.first", "unicode/utf8.acceptRanges", "internal/bytealg.MaxLen"], apart := false, laid := [("unicode/utf8.acceptRanges", laid_unicode_utf8_acceptRanges), ("unicode/utf8.first", laid_unicode_utf8_first)], narrowed := true }
def FrameStuffsUptoSaid : Prop := frameStuffsUptoRow.holds Tryd.pinned (OpenSpec.upto frameStuffsSpec)

/-- 'mailguardlaw06.FrameBack', WHERE WHAT IT READS IS OF BULK AT MOST 1048576: true; the input reads as it did. -/
def frameBackUptoRow : OpenClaim := { program := "yteiepgbdngamiaadoor", sum := "0cec72a56ea67c1483e3448d437d5c41660d6e5e3dfc559065eb7a2b37c5d8db", func := "mailguard/mailguardlaw06.FrameBack", spec := "frameBack", inPlace := ["sync/atomic.AddInt64", "internal/bytealg.CountString", "internal/bytealg.IndexByteString", "internal/bytealg.IndexString", "internal/abi.NoEscape", "sync/atomic.LoadInt64"], named := ["unicode/utf8.first", "unicode/utf8.acceptRanges", "internal/bytealg.MaxLen"], apart := false, laid := [("unicode/utf8.acceptRanges", laid_unicode_utf8_acceptRanges), ("unicode/utf8.first", laid_unicode_utf8_first)], narrowed := true }
def FrameBackUptoSaid : Prop := frameBackUptoRow.holds Tryd.pinned (OpenSpec.upto frameBackSpec)

/-- 'mailguardlaw06.FrameReset', WHERE WHAT IT READS IS OF BULK AT MOST 1048576: true; the input reads as it did. -/
def frameResetUptoRow : OpenClaim := { program := "yteiepgbdngamiaadoor", sum := "0cec72a56ea67c1483e3448d437d5c41660d6e5e3dfc559065eb7a2b37c5d8db", func := "mailguard/mailguardlaw06.FrameReset", spec := "frameReset", inPlace := ["sync/atomic.AddInt64", "internal/bytealg.CountString", "internal/bytealg.IndexByteString", "internal/bytealg.IndexString", "internal/abi.NoEscape", "sync/atomic.LoadInt64"], named := ["unicode/utf8.first", "unicode/utf8.acceptRanges", "internal/bytealg.MaxLen"], apart := false, laid := [("unicode/utf8.acceptRanges", laid_unicode_utf8_acceptRanges), ("unicode/utf8.first", laid_unicode_utf8_first)], narrowed := true }
def FrameResetUptoSaid : Prop := frameResetUptoRow.holds Tryd.pinned (OpenSpec.upto frameResetSpec)

/-- 'mailguardlaw06.FrameLong', WHERE WHAT IT READS IS OF BULK AT MOST 1048576: true; the input reads as it did. -/
def frameLongUptoRow : OpenClaim := { program := "yteiepgbdngamiaadoor", sum := "0cec72a56ea67c1483e3448d437d5c41660d6e5e3dfc559065eb7a2b37c5d8db", func := "mailguard/mailguardlaw06.FrameLong", spec := "frameLong", inPlace := ["sync/atomic.AddInt64", "internal/bytealg.CountString", "internal/bytealg.IndexByteString", "internal/bytealg.IndexString", "internal/abi.NoEscape", "sync/atomic.LoadInt64"], named := ["unicode/utf8.first", "unicode/utf8.acceptRanges", "internal/bytealg.MaxLen"], apart := false, laid := [("unicode/utf8.acceptRanges", laid_unicode_utf8_acceptRanges), ("unicode/utf8.first", laid_unicode_utf8_first)], narrowed := true }
def FrameLongUptoSaid : Prop := frameLongUptoRow.holds Tryd.pinned (OpenSpec.upto frameLongSpec)

end Rows
end Go.Proofs.YteiepgbdngamiaaDoor
