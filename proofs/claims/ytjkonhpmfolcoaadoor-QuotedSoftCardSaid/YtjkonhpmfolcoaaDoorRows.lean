/-
  NARROWER THAN 'FOR EVERY INPUT', by the rows' own cells (each row's printed sentence says how): QuotedTells: laid · QuotedBack: laid · QuotedLines: laid · QuotedParts: laid · QuotedPlain: laid · QuotedSoft: laid.
  DERIVED. THE GIVEN ROWS OF THIS SEAT. 6 by the template 'for every input the law returns true; each argument reads behind the call as it read before'; 0 by the template 'total and deterministic' (their statements: YtjkonhpmfolcoaaDoorTotals.lean).
  GIVEN WITH THE SEED: the statements are not yours to turn. If you find one false, say at which input.
  Laid BY PROGRAM, IN A SANDBOX (cutbox-rows.mjs): the forced cells as the released guide's own fill.sh prints them over the translation 2c3e715d4b51aabc… (all of the seat's roots in one cut). By AI agents, Wed Nov 11 2026. No macro, syntax, notation, axiom, sorry.
-/
import Derived.Test.YtjkonhpmfolcoaaDoorChecked
import GoSem.PinnedTables
import GoSem.Claim
import GoSem.ClaimJoined
import GoSem.ClaimMapViews
import Derived.JoinedTies
import Derived.KernelRfl
namespace Go.Proofs.YtjkonhpmfolcoaaDoor
/- THE CELL 'sum', in the pinned program and in every row, IS THE sha256 OF THE DUMP (.gsa) THAT YtjkonhpmfolcoaaDoorProg.lean LOADS. Nothing in Lean hashes anything: it is a label: what it is worth is what the hold of that sum in a sandbox is worth. -/
noncomputable def Tryd.pinned : Pinned := { name := "ytjkonhpmfolcoaadoor", sum := "2c3e715d4b51aabc3f57f76f38bec33776ccc25914159efbbc9dac021c26264f", checked := Tryd.checked }
namespace Rows
def none {H : Type} : Left H := { results := [], args := [] }

/- WHAT THE LISTED PACKAGE-LEVEL VARIABLES READ AS WHEN THE CALL BEGINS. Each datum BY PROGRAM (the guide's laid-datum.mjs) off the statement by which the dump's own 'gosem.cut.vars' lays the variable. In a bare row this is a premise. The card (YtjkonhpmfolcoaaDoorCards.lean) ties it to the program's text. -/
def laid_unicode_utf8_acceptRanges {H : Type} : DataW H := .agg [.agg [.lit (.int .u8 128), .lit (.int .u8 191)], .agg [.lit (.int .u8 160), .lit (.int .u8 191)], .agg [.lit (.int .u8 128), .lit (.int .u8 159)], .agg [.lit (.int .u8 144), .lit (.int .u8 191)], .agg [.lit (.int .u8 128), .lit (.int .u8 143)], .agg [.lit (.int .u8 0), .lit (.int .u8 0)], .agg [.lit (.int .u8 0), .lit (.int .u8 0)], .agg [.lit (.int .u8 0), .lit (.int .u8 0)], .agg [.lit (.int .u8 0), .lit (.int .u8 0)], .agg [.lit (.int .u8 0), .lit (.int .u8 0)], .agg [.lit (.int .u8 0), .lit (.int .u8 0)], .agg [.lit (.int .u8 0), .lit (.int .u8 0)], .agg [.lit (.int .u8 0), .lit (.int .u8 0)], .agg [.lit (.int .u8 0), .lit (.int .u8 0)], .agg [.lit (.int .u8 0), .lit (.int .u8 0)], .agg [.lit (.int .u8 0), .lit (.int .u8 0)]]
/-- One of Go's own tables, pinned by name: the form's constant. -/
def laid_unicode_utf8_first : DataW Unit := Go.Pinned.utf8First

/-- 'mailguardlaw04.QuotedTells': WHATEVER THE INPUT: true; the input reads as it did. -/
def quotedTellsSpec : ChangeSpec := { name := "quotedTells", fn := fun _ => fun
  | [d1, d2, d3, d4] => { results := [.lit (.bool true)], args := [d1, d2, d3, d4] }
  | _ => none }
def quotedTellsRow : OpenClaim := { program := "ytjkonhpmfolcoaadoor", sum := "2c3e715d4b51aabc3f57f76f38bec33776ccc25914159efbbc9dac021c26264f", func := "mailguard/mailguardlaw04.QuotedTells", spec := "quotedTells", inPlace := ["internal/bytealg.IndexByteString", "internal/abi.NoEscape", "internal/bytealg.CountString", "internal/bytealg.IndexString"], unfollowed := true, recurses := true, named := ["unicode/utf8.first", "unicode/utf8.acceptRanges", "internal/bytealg.MaxLen"], apart := false, laid := [("unicode/utf8.acceptRanges", laid_unicode_utf8_acceptRanges), ("unicode/utf8.first", laid_unicode_utf8_first)] }
def QuotedTellsSaid : Prop := quotedTellsRow.holds Tryd.pinned (OpenSpec.ofChange quotedTellsSpec)

/-- ITS FALSE NEIGHBOUR: 'it returns false'. Refute it at one input. -/
def quotedTellsWrong : ChangeSpec := { name := "quotedTells", fn := fun _ => fun
  | [d1, d2, d3, d4] => { results := [.lit (.bool false)], args := [d1, d2, d3, d4] }
  | _ => none }
def QuotedTellsWrongFalsely : Prop := quotedTellsRow.holds Tryd.pinned (OpenSpec.ofChange quotedTellsWrong)

/-- 'mailguardlaw04.QuotedBack': WHATEVER THE INPUT: true; the input reads as it did. -/
def quotedBackSpec : ChangeSpec := { name := "quotedBack", fn := fun _ => fun
  | [d1, d2] => { results := [.lit (.bool true)], args := [d1, d2] }
  | _ => none }
def quotedBackRow : OpenClaim := { program := "ytjkonhpmfolcoaadoor", sum := "2c3e715d4b51aabc3f57f76f38bec33776ccc25914159efbbc9dac021c26264f", func := "mailguard/mailguardlaw04.QuotedBack", spec := "quotedBack", inPlace := ["internal/bytealg.IndexByteString", "internal/abi.NoEscape", "internal/bytealg.CountString", "internal/bytealg.IndexString"], unfollowed := true, recurses := true, named := ["unicode/utf8.first", "unicode/utf8.acceptRanges", "internal/bytealg.MaxLen"], apart := false, laid := [("unicode/utf8.acceptRanges", laid_unicode_utf8_acceptRanges), ("unicode/utf8.first", laid_unicode_utf8_first)] }
def QuotedBackSaid : Prop := quotedBackRow.holds Tryd.pinned (OpenSpec.ofChange quotedBackSpec)

/-- ITS FALSE NEIGHBOUR: 'it returns false'. Refute it at one input. -/
def quotedBackWrong : ChangeSpec := { name := "quotedBack", fn := fun _ => fun
  | [d1, d2] => { results := [.lit (.bool false)], args := [d1, d2] }
  | _ => none }
def QuotedBackWrongFalsely : Prop := quotedBackRow.holds Tryd.pinned (OpenSpec.ofChange quotedBackWrong)

/-- 'mailguardlaw04.QuotedLines': WHATEVER THE INPUT: true; the input reads as it did. -/
def quotedLinesSpec : ChangeSpec := { name := "quotedLines", fn := fun _ => fun
  | [d] => { results := [.lit (.bool true)], args := [d] }
  | _ => none }
def quotedLinesRow : OpenClaim := { program := "ytjkonhpmfolcoaadoor", sum := "2c3e715d4b51aabc3f57f76f38bec33776ccc25914159efbbc9dac021c26264f", func := "mailguard/mailguardlaw04.QuotedLines", spec := "quotedLines", inPlace := ["internal/bytealg.IndexByteString", "internal/abi.NoEscape", "internal/bytealg.CountString", "internal/bytealg.IndexString"], unfollowed := true, recurses := true, named := ["unicode/utf8.first", "unicode/utf8.acceptRanges", "internal/bytealg.MaxLen"], apart := false, laid := [("unicode/utf8.acceptRanges", laid_unicode_utf8_acceptRanges), ("unicode/utf8.first", laid_unicode_utf8_first)] }
def QuotedLinesSaid : Prop := quotedLinesRow.holds Tryd.pinned (OpenSpec.ofChange quotedLinesSpec)

/-- ITS FALSE NEIGHBOUR: 'it returns false'. Refute it at one input. -/
def quotedLinesWrong : ChangeSpec := { name := "quotedLines", fn := fun _ => fun
  | [d] => { results := [.lit (.bool false)], args := [d] }
  | _ => none }
def QuotedLinesWrongFalsely : Prop := quotedLinesRow.holds Tryd.pinned (OpenSpec.ofChange quotedLinesWrong)

/-- 'mailguardlaw04.QuotedParts': WHATEVER THE INPUT: true; the input reads as it did. -/
def quotedPartsSpec : ChangeSpec := { name := "quotedParts", fn := fun _ => fun
  | [d1, d2] => { results := [.lit (.bool true)], args := [d1, d2] }
  | _ => none }
def quotedPartsRow : OpenClaim := { program := "ytjkonhpmfolcoaadoor", sum := "2c3e715d4b51aabc3f57f76f38bec33776ccc25914159efbbc9dac021c26264f", func := "mailguard/mailguardlaw04.QuotedParts", spec := "quotedParts", inPlace := ["internal/bytealg.IndexByteString", "internal/abi.NoEscape", "internal/bytealg.CountString", "internal/bytealg.IndexString"], unfollowed := true, recurses := true, named := ["unicode/utf8.first", "unicode/utf8.acceptRanges", "internal/bytealg.MaxLen"], apart := false, laid := [("unicode/utf8.acceptRanges", laid_unicode_utf8_acceptRanges), ("unicode/utf8.first", laid_unicode_utf8_first)] }
def QuotedPartsSaid : Prop := quotedPartsRow.holds Tryd.pinned (OpenSpec.ofChange quotedPartsSpec)

/-- ITS FALSE NEIGHBOUR: 'it returns false'. Refute it at one input. -/
def quotedPartsWrong : ChangeSpec := { name := "quotedParts", fn := fun _ => fun
  | [d1, d2] => { results := [.lit (.bool false)], args := [d1, d2] }
  | _ => none }
def QuotedPartsWrongFalsely : Prop := quotedPartsRow.holds Tryd.pinned (OpenSpec.ofChange quotedPartsWrong)

/-- 'mailguardlaw04.QuotedPlain': WHATEVER THE INPUT: true; the input reads as it did. -/
def quotedPlainSpec : ChangeSpec := { name := "quotedPlain", fn := fun _ => fun
  | [d] => { results := [.lit (.bool true)], args := [d] }
  | _ => none }
def quotedPlainRow : OpenClaim := { program := "ytjkonhpmfolcoaadoor", sum := "2c3e715d4b51aabc3f57f76f38bec33776ccc25914159efbbc9dac021c26264f", func := "mailguard/mailguardlaw04.QuotedPlain", spec := "quotedPlain", inPlace := ["internal/bytealg.IndexByteString", "internal/abi.NoEscape", "internal/bytealg.CountString", "internal/bytealg.IndexString"], unfollowed := true, recurses := true, named := ["unicode/utf8.first", "unicode/utf8.acceptRanges", "internal/bytealg.MaxLen"], apart := false, laid := [("unicode/utf8.acceptRanges", laid_unicode_utf8_acceptRanges), ("unicode/utf8.first", laid_unicode_utf8_first)] }
def QuotedPlainSaid : Prop := quotedPlainRow.holds Tryd.pinned (OpenSpec.ofChange quotedPlainSpec)

/-- ITS FALSE NEIGHBOUR: 'it returns false'. Refute it at one input. -/
def quotedPlainWrong : ChangeSpec := { name := "quotedPlain", fn := fun _ => fun
  | [d] => { results := [.lit (.bool false)], args := [d] }
  | _ => none }
def QuotedPlainWrongFalsely : Prop := quotedPlainRow.holds Tryd.pinned (OpenSpec.ofChange quotedPlainWrong)

/-- 'mailguardlaw04.QuotedSoft': WHATEVER THE INPUT: true; the input reads as it did. -/
def quotedSoftSpec : ChangeSpec := { name := "quotedSoft", fn := fun _ => fun
  | [d] => { results := [.lit (.bool true)], args := [d] }
  | _ => none }
def quotedSoftRow : OpenClaim := { program := "ytjkonhpmfolcoaadoor", sum := "2c3e715d4b51aabc3f57f76f38bec33776ccc25914159efbbc9dac021c26264f", func := "mailguard/mailguardlaw04.QuotedSoft", spec := "quotedSoft", inPlace := ["internal/bytealg.IndexByteString", "internal/abi.NoEscape", "internal/bytealg.CountString", "internal/bytealg.IndexString"], unfollowed := true, recurses := true, named := ["unicode/utf8.first", "unicode/utf8.acceptRanges", "internal/bytealg.MaxLen"], apart := false, laid := [("unicode/utf8.acceptRanges", laid_unicode_utf8_acceptRanges), ("unicode/utf8.first", laid_unicode_utf8_first)] }
def QuotedSoftSaid : Prop := quotedSoftRow.holds Tryd.pinned (OpenSpec.ofChange quotedSoftSpec)

/-- ITS FALSE NEIGHBOUR: 'it returns false'. Refute it at one input. -/
def quotedSoftWrong : ChangeSpec := { name := "quotedSoft", fn := fun _ => fun
  | [d] => { results := [.lit (.bool false)], args := [d] }
  | _ => none }
def QuotedSoftWrongFalsely : Prop := quotedSoftRow.holds Tryd.pinned (OpenSpec.ofChange quotedSoftWrong)

/- THE SECOND FORM. 'bulk': how many values and letters a reading holds, each counted each time it is reached (what is shared counts as often as it is met; a slice's spare places count too). A statement '..UptoSaid' is the law's where the arguments, and the package variables that the reading takes, are together of bulk at most 1048576: NARROWER than '..Said'. Prove '..Said' where nothing that the law and all that it calls make is longer than what came in: it says more and counts as full. Else prove '..UptoSaid'. A law counts once. -/
mutual
def uptoBulk {H : Type} : DataW H → Nat
  | .lit (.string bytes) => bytes.length + 1
  | .lit _ => 1
  | .nil => 1
  | .ptr d => uptoBulk d + 1
  | .slice elems spare => uptoBulkAll elems + uptoBulkAll spare + 1
  | .agg parts => uptoBulkAll parts + 1
  | .iface _ d => uptoBulk d + 1
  | .map entries => uptoBulkEntries entries + 1
  | .held _ => 1
def uptoBulkAll {H : Type} : List (DataW H) → Nat
  | [] => 0
  | d :: r => uptoBulk d + uptoBulkAll r
def uptoBulkEntries {H : Type} : List (Lit × DataW H) → Nat
  | [] => 0
  | x :: r => uptoBulkEntry x + uptoBulkEntries r
def uptoBulkEntry {H : Type} : Lit × DataW H → Nat
  | (.string bytes, d) => bytes.length + uptoBulk d + 1
  | (_, d) => uptoBulk d + 1
 end
def uptoSmall : (H : Type) → List (DataW H) → Bool := fun _ ds => decide (uptoBulkAll ds ≤ 1048576)
def OpenSpec.upto (s : _root_.Go.ChangeSpec) : _root_.Go.OpenSpec := { _root_.Go.OpenSpec.ofChange s with cond := some uptoSmall }

/-- 'mailguardlaw04.QuotedTells', WHERE WHAT IT READS IS OF BULK AT MOST 1048576: true; the input reads as it did. -/
def quotedTellsUptoRow : OpenClaim := { program := "ytjkonhpmfolcoaadoor", sum := "2c3e715d4b51aabc3f57f76f38bec33776ccc25914159efbbc9dac021c26264f", func := "mailguard/mailguardlaw04.QuotedTells", spec := "quotedTells", inPlace := ["internal/bytealg.IndexByteString", "internal/abi.NoEscape", "internal/bytealg.CountString", "internal/bytealg.IndexString"], unfollowed := true, recurses := true, named := ["unicode/utf8.first", "unicode/utf8.acceptRanges", "internal/bytealg.MaxLen"], apart := false, laid := [("unicode/utf8.acceptRanges", laid_unicode_utf8_acceptRanges), ("unicode/utf8.first", laid_unicode_utf8_first)], narrowed := true }
def QuotedTellsUptoSaid : Prop := quotedTellsUptoRow.holds Tryd.pinned (OpenSpec.upto quotedTellsSpec)

/-- 'mailguardlaw04.QuotedBack', WHERE WHAT IT READS IS OF BULK AT MOST 1048576: true; the input reads as it did. -/
def quotedBackUptoRow : OpenClaim := { program := "ytjkonhpmfolcoaadoor", sum := "2c3e715d4b51aabc3f57f76f38bec33776ccc25914159efbbc9dac021c26264f", func := "mailguard/mailguardlaw04.QuotedBack", spec := "quotedBack", inPlace := ["internal/bytealg.IndexByteString", "internal/abi.NoEscape", "internal/bytealg.CountString", "internal/bytealg.IndexString"], unfollowed := true, recurses := true, named := ["unicode/utf8.first", "unicode/utf8.acceptRanges", "internal/bytealg.MaxLen"], apart := false, laid := [("unicode/utf8.acceptRanges", laid_unicode_utf8_acceptRanges), ("unicode/utf8.first", laid_unicode_utf8_first)], narrowed := true }
def QuotedBackUptoSaid : Prop := quotedBackUptoRow.holds Tryd.pinned (OpenSpec.upto quotedBackSpec)

/-- 'mailguardlaw04.QuotedLines', WHERE WHAT IT READS IS OF BULK AT MOST 1048576: true; the input reads as it did. -/
def quotedLinesUptoRow : OpenClaim := { program := "ytjkonhpmfolcoaadoor", sum := "2c3e715d4b51aabc3f57f76f38bec33776ccc25914159efbbc9dac021c26264f", func := "mailguard/mailguardlaw04.QuotedLines", spec := "quotedLines", inPlace := ["internal/bytealg.IndexByteString", "internal/abi.NoEscape", "internal/bytealg.CountString", "internal/bytealg.IndexString"], unfollowed := true, recurses := true, named := ["unicode/utf8.first", "unicode/utf8.acceptRanges", "internal/bytealg.MaxLen"], apart := false, laid := [("unicode/utf8.acceptRanges", laid_unicode_utf8_acceptRanges), ("unicode/utf8.first", laid_unicode_utf8_first)], narrowed := true }
def QuotedLinesUptoSaid : Prop := quotedLinesUptoRow.holds Tryd.pinned (OpenSpec.upto quotedLinesSpec)

/-- 'mailguardlaw04.QuotedParts', WHERE WHAT IT READS IS OF BULK AT MOST 1048576: true; the input reads as it did. -/
def quotedPartsUptoRow : OpenClaim := { program := "ytjkonhpmfolcoaadoor", sum := "2c3e715d4b51aabc3f57f76f38bec33776ccc25914159efbbc9dac021c26264f", func := "mailguard/mailguardlaw04.QuotedParts", spec := "quotedParts", inPlace := ["internal/bytealg.IndexByteString", "internal/abi.NoEscape", "internal/bytealg.CountString", "internal/bytealg.IndexString"], unfollowed := true, recurses := true, named := ["unicode/utf8.first", "unicode/utf8.acceptRanges", "internal/bytealg.MaxLen"], apart := false, laid := [("unicode/utf8.acceptRanges", laid_unicode_utf8_acceptRanges), ("unicode/utf8.first", laid_unicode_utf8_first)], narrowed := true }
def QuotedPartsUptoSaid : Prop := quotedPartsUptoRow.holds Tryd.pinned (OpenSpec.upto quotedPartsSpec)

/-- 'mailguardlaw04.QuotedPlain', WHERE WHAT IT READS IS OF BULK AT MOST 1048576: true; the input reads as it did. -/
def quotedPlainUptoRow : OpenClaim := { program := "ytjkonhpmfolcoaadoor", sum := "2c3e715d4b51aabc3f57f76f38bec33776ccc25914159efbbc9dac021c26264f", func := "mailguard/mailguardlaw04.QuotedPlain", spec := "quotedPlain", inPlace := ["internal/bytealg.IndexByteString", "internal/abi.NoEscape", "internal/bytealg.CountString", "internal/bytealg.IndexString"], unfollowed := true, recurses := true, named := ["unicode/utf8.first", "unicode/utf8.acceptRanges", "internal/bytealg.MaxLen"], apart := false, laid := [("unicode/utf8.acceptRanges", laid_unicode_utf8_acceptRanges), ("unicode/utf8.first", laid_unicode_utf8_first)], narrowed := true }
def QuotedPlainUptoSaid : Prop := quotedPlainUptoRow.holds Tryd.pinned (OpenSpec.upto quotedPlainSpec)

/-- 'mailguardlaw04.QuotedSoft', WHERE WHAT IT READS IS OF BULK AT MOST 1048576: true; the input reads as it did. -/
def quotedSoftUptoRow : OpenClaim := { program := "ytjkonhpmfolcoaadoor", sum := "2c3e715d4b51aabc3f57f76f38bec33776ccc25914159efbbc9dac021c26264f", func := "mailguard/mailguardlaw04.QuotedSoft", spec := "quotedSoft", inPlace := ["internal/bytealg.IndexByteString", "internal/abi.NoEscape", "internal/bytealg.CountString", "internal/bytealg.IndexString"], unfollowed := true, recurses := true, named := ["unicode/utf8.first", "unicode/utf8.acceptRanges", "internal/bytealg.MaxLen"], apart := false, laid := [("unicode/utf8.acceptRanges", laid_unicode_utf8_acceptRanges), ("unicode/utf8.first", laid_unicode_utf8_first)], narrowed := true }
def QuotedSoftUptoSaid : Prop := quotedSoftUptoRow.holds Tryd.pinned (OpenSpec.upto quotedSoftSpec)

end Rows
end Go.Proofs.YtjkonhpmfolcoaaDoor
