/-
  NARROWER THAN 'FOR EVERY INPUT', by the rows' own cells (each row's printed sentence says how): HeaderTells: laid · HeaderBack: laid · HeaderLines: laid · HeaderGets: laid · HeaderMore: laid · HeaderFolds: laid.
  DERIVED. THE GIVEN ROWS OF THIS SEAT. 6 by the template 'for every input the law returns true; each argument reads behind the call as it read before'; 0 by the template 'total and deterministic' (their statements: YtdaekoapkclliaaDoorTotals.lean).
  GIVEN WITH THE SEED: the statements are not yours to turn. If you find one false, say at which input.
  Laid BY PROGRAM, IN A SANDBOX (cutbox-rows.mjs): the forced cells as the released guide's own fill.sh prints them over the translation 753de4c82c1564e2… (all of the seat's roots in one cut). By AI agents, Wed Nov 11 2026. No macro, syntax, notation, axiom, sorry.
-/
import Derived.Test.YtdaekoapkclliaaDoorChecked
import GoSem.PinnedTables
import GoSem.Claim
import GoSem.ClaimJoined
import GoSem.ClaimMapViews
import Derived.JoinedTies
import Derived.KernelRfl
namespace Go.Proofs.YtdaekoapkclliaaDoor
/- THE CELL 'sum', in the pinned program and in every row, IS THE sha256 OF THE DUMP (.gsa) THAT YtdaekoapkclliaaDoorProg.lean LOADS. Nothing in Lean hashes anything: it is a label: what it is worth is what the hold of that sum in a sandbox is worth. -/
noncomputable def Tryd.pinned : Pinned := { name := "ytdaekoapkclliaadoor", sum := "753de4c82c1564e216cac5f9c53331c47b32fdc2266699541d8db0d6ef423d0b", checked := Tryd.checked }
namespace Rows
def none {H : Type} : Left H := { results := [], args := [] }

/- WHAT THE LISTED PACKAGE-LEVEL VARIABLES READ AS WHEN THE CALL BEGINS. Each datum BY PROGRAM (the guide's laid-datum.mjs) off the statement by which the dump's own 'gosem.cut.vars' lays the variable. In a bare row this is a premise. The card (YtdaekoapkclliaaDoorCards.lean) ties it to the program's text. -/
def laid_unicode_utf8_acceptRanges {H : Type} : DataW H := .agg [.agg [.lit (.int .u8 128), .lit (.int .u8 191)], .agg [.lit (.int .u8 160), .lit (.int .u8 191)], .agg [.lit (.int .u8 128), .lit (.int .u8 159)], .agg [.lit (.int .u8 144), .lit (.int .u8 191)], .agg [.lit (.int .u8 128), .lit (.int .u8 143)], .agg [.lit (.int .u8 0), .lit (.int .u8 0)], .agg [.lit (.int .u8 0), .lit (.int .u8 0)], .agg [.lit (.int .u8 0), .lit (.int .u8 0)], .agg [.lit (.int .u8 0), .lit (.int .u8 0)], .agg [.lit (.int .u8 0), .lit (.int .u8 0)], .agg [.lit (.int .u8 0), .lit (.int .u8 0)], .agg [.lit (.int .u8 0), .lit (.int .u8 0)], .agg [.lit (.int .u8 0), .lit (.int .u8 0)], .agg [.lit (.int .u8 0), .lit (.int .u8 0)], .agg [.lit (.int .u8 0), .lit (.int .u8 0)], .agg [.lit (.int .u8 0), .lit (.int .u8 0)]]
/-- One of Go's own tables, pinned by name: the form's constant. -/
def laid_unicode_utf8_first : DataW Unit := Go.Pinned.utf8First

/-- 'mailguardlaw10.HeaderTells': WHATEVER THE INPUT: true; the input reads as it did. -/
def headerTellsSpec : ChangeSpec := { name := "headerTells", fn := fun _ => fun
  | [d1, d2, d3] => { results := [.lit (.bool true)], args := [d1, d2, d3] }
  | _ => none }
def headerTellsRow : OpenClaim := { program := "ytdaekoapkclliaadoor", sum := "753de4c82c1564e216cac5f9c53331c47b32fdc2266699541d8db0d6ef423d0b", func := "mailguard/mailguardlaw10.HeaderTells", spec := "headerTells", inPlace := ["internal/bytealg.IndexByteString", "internal/bytealg.IndexString", "internal/bytealg.CountString", "internal/abi.NoEscape"], unfollowed := true, recurses := true, named := ["unicode/utf8.first", "unicode/utf8.acceptRanges", "internal/bytealg.MaxLen"], apart := false, laid := [("unicode/utf8.acceptRanges", laid_unicode_utf8_acceptRanges), ("unicode/utf8.first", laid_unicode_utf8_first)] }
def HeaderTellsSaid : Prop := headerTellsRow.holds Tryd.pinned (OpenSpec.ofChange headerTellsSpec)

/-- ITS FALSE NEIGHBOUR: 'it returns false'. Refute it at one input. -/
def headerTellsWrong : ChangeSpec := { name := "headerTells", fn := fun _ => fun
  | [d1, d2, d3] => { results := [.lit (.bool false)], args := [d1, d2, d3] }
  | _ => none }
def HeaderTellsWrongFalsely : Prop := headerTellsRow.holds Tryd.pinned (OpenSpec.ofChange headerTellsWrong)

/-- 'mailguardlaw10.HeaderBack': WHATEVER THE INPUT: true; the input reads as it did. -/
def headerBackSpec : ChangeSpec := { name := "headerBack", fn := fun _ => fun
  | [d1, d2, d3] => { results := [.lit (.bool true)], args := [d1, d2, d3] }
  | _ => none }
def headerBackRow : OpenClaim := { program := "ytdaekoapkclliaadoor", sum := "753de4c82c1564e216cac5f9c53331c47b32fdc2266699541d8db0d6ef423d0b", func := "mailguard/mailguardlaw10.HeaderBack", spec := "headerBack", inPlace := ["internal/bytealg.IndexByteString", "internal/bytealg.IndexString", "internal/bytealg.CountString", "internal/abi.NoEscape"], unfollowed := true, recurses := true, named := ["unicode/utf8.first", "unicode/utf8.acceptRanges", "internal/bytealg.MaxLen"], apart := false, laid := [("unicode/utf8.acceptRanges", laid_unicode_utf8_acceptRanges), ("unicode/utf8.first", laid_unicode_utf8_first)] }
def HeaderBackSaid : Prop := headerBackRow.holds Tryd.pinned (OpenSpec.ofChange headerBackSpec)

/-- ITS FALSE NEIGHBOUR: 'it returns false'. Refute it at one input. -/
def headerBackWrong : ChangeSpec := { name := "headerBack", fn := fun _ => fun
  | [d1, d2, d3] => { results := [.lit (.bool false)], args := [d1, d2, d3] }
  | _ => none }
def HeaderBackWrongFalsely : Prop := headerBackRow.holds Tryd.pinned (OpenSpec.ofChange headerBackWrong)

/-- 'mailguardlaw10.HeaderLines': WHATEVER THE INPUT: true; the input reads as it did. -/
def headerLinesSpec : ChangeSpec := { name := "headerLines", fn := fun _ => fun
  | [d] => { results := [.lit (.bool true)], args := [d] }
  | _ => none }
def headerLinesRow : OpenClaim := { program := "ytdaekoapkclliaadoor", sum := "753de4c82c1564e216cac5f9c53331c47b32fdc2266699541d8db0d6ef423d0b", func := "mailguard/mailguardlaw10.HeaderLines", spec := "headerLines", inPlace := ["internal/bytealg.IndexByteString", "internal/bytealg.IndexString", "internal/bytealg.CountString", "internal/abi.NoEscape"], unfollowed := true, recurses := true, named := ["unicode/utf8.first", "unicode/utf8.acceptRanges", "internal/bytealg.MaxLen"], apart := false, laid := [("unicode/utf8.acceptRanges", laid_unicode_utf8_acceptRanges), ("unicode/utf8.first", laid_unicode_utf8_first)] }
def HeaderLinesSaid : Prop := headerLinesRow.holds Tryd.pinned (OpenSpec.ofChange headerLinesSpec)

/-- ITS FALSE NEIGHBOUR: 'it returns false'. Refute it at one input. -/
def headerLinesWrong : ChangeSpec := { name := "headerLines", fn := fun _ => fun
  | [d] => { results := [.lit (.bool false)], args := [d] }
  | _ => none }
def HeaderLinesWrongFalsely : Prop := headerLinesRow.holds Tryd.pinned (OpenSpec.ofChange headerLinesWrong)

/-- 'mailguardlaw10.HeaderGets': WHATEVER THE INPUT: true; the input reads as it did. -/
def headerGetsSpec : ChangeSpec := { name := "headerGets", fn := fun _ => fun
  | [d1, d2, d3] => { results := [.lit (.bool true)], args := [d1, d2, d3] }
  | _ => none }
def headerGetsRow : OpenClaim := { program := "ytdaekoapkclliaadoor", sum := "753de4c82c1564e216cac5f9c53331c47b32fdc2266699541d8db0d6ef423d0b", func := "mailguard/mailguardlaw10.HeaderGets", spec := "headerGets", inPlace := ["internal/bytealg.IndexByteString", "internal/bytealg.IndexString", "internal/bytealg.CountString", "internal/abi.NoEscape"], unfollowed := true, recurses := true, named := ["unicode/utf8.first", "unicode/utf8.acceptRanges", "internal/bytealg.MaxLen"], apart := false, laid := [("unicode/utf8.acceptRanges", laid_unicode_utf8_acceptRanges), ("unicode/utf8.first", laid_unicode_utf8_first)] }
def HeaderGetsSaid : Prop := headerGetsRow.holds Tryd.pinned (OpenSpec.ofChange headerGetsSpec)

/-- ITS FALSE NEIGHBOUR: 'it returns false'. Refute it at one input. -/
def headerGetsWrong : ChangeSpec := { name := "headerGets", fn := fun _ => fun
  | [d1, d2, d3] => { results := [.lit (.bool false)], args := [d1, d2, d3] }
  | _ => none }
def HeaderGetsWrongFalsely : Prop := headerGetsRow.holds Tryd.pinned (OpenSpec.ofChange headerGetsWrong)

/-- 'mailguardlaw10.HeaderMore': WHATEVER THE INPUT: true; the input reads as it did. -/
def headerMoreSpec : ChangeSpec := { name := "headerMore", fn := fun _ => fun
  | [d1, d2] => { results := [.lit (.bool true)], args := [d1, d2] }
  | _ => none }
def headerMoreRow : OpenClaim := { program := "ytdaekoapkclliaadoor", sum := "753de4c82c1564e216cac5f9c53331c47b32fdc2266699541d8db0d6ef423d0b", func := "mailguard/mailguardlaw10.HeaderMore", spec := "headerMore", inPlace := ["internal/bytealg.IndexByteString", "internal/bytealg.IndexString", "internal/bytealg.CountString", "internal/abi.NoEscape"], unfollowed := true, recurses := true, named := ["unicode/utf8.first", "unicode/utf8.acceptRanges", "internal/bytealg.MaxLen"], apart := false, laid := [("unicode/utf8.acceptRanges", laid_unicode_utf8_acceptRanges), ("unicode/utf8.first", laid_unicode_utf8_first)] }
def HeaderMoreSaid : Prop := headerMoreRow.holds Tryd.pinned (OpenSpec.ofChange headerMoreSpec)

/-- ITS FALSE NEIGHBOUR: 'it returns false'. Refute it at one input. -/
def headerMoreWrong : ChangeSpec := { name := "headerMore", fn := fun _ => fun
  | [d1, d2] => { results := [.lit (.bool false)], args := [d1, d2] }
  | _ => none }
def HeaderMoreWrongFalsely : Prop := headerMoreRow.holds Tryd.pinned (OpenSpec.ofChange headerMoreWrong)

/-- 'mailguardlaw10.HeaderFolds': WHATEVER THE INPUT: true; the input reads as it did. -/
def headerFoldsSpec : ChangeSpec := { name := "headerFolds", fn := fun _ => fun
  | [d1, d2] => { results := [.lit (.bool true)], args := [d1, d2] }
  | _ => none }
def headerFoldsRow : OpenClaim := { program := "ytdaekoapkclliaadoor", sum := "753de4c82c1564e216cac5f9c53331c47b32fdc2266699541d8db0d6ef423d0b", func := "mailguard/mailguardlaw10.HeaderFolds", spec := "headerFolds", inPlace := ["internal/bytealg.IndexByteString", "internal/bytealg.IndexString", "internal/bytealg.CountString", "internal/abi.NoEscape"], unfollowed := true, recurses := true, named := ["unicode/utf8.first", "unicode/utf8.acceptRanges", "internal/bytealg.MaxLen"], apart := false, laid := [("unicode/utf8.acceptRanges", laid_unicode_utf8_acceptRanges), ("unicode/utf8.first", laid_unicode_utf8_first)] }
def HeaderFoldsSaid : Prop := headerFoldsRow.holds Tryd.pinned (OpenSpec.ofChange headerFoldsSpec)

/-- ITS FALSE NEIGHBOUR: 'it returns false'. Refute it at one input. -/
def headerFoldsWrong : ChangeSpec := { name := "headerFolds", fn := fun _ => fun
  | [d1, d2] => { results := [.lit (.bool false)], args := [d1, d2] }
  | _ => none }
def HeaderFoldsWrongFalsely : Prop := headerFoldsRow.holds Tryd.pinned (OpenSpec.ofChange headerFoldsWrong)

/- THE SECOND FORM. 'bulk': how many values and letters a reading holds, each counted each time it is reached (what is shared counts as often as it is met; a slice's spare places count too). A statement '..UptoSaid' is the law's where the arguments, and the package variables that the reading takes, are together of bulk at most 1048576: NARROWER than '..Said'. Prove '..Said' where nothing that the law and all that it calls make is longer than what came in: it says more and counts as full. Else prove '..UptoSaid'. A law counts once. -/
mutual
def uptoBulk {H : Type} : DataW H → Nat
  | .lit (.string bytes) => bytes.length + 1
  | .lit _ => 1
  | .nil => 1
  | .ptr d => uptoBulk d + 1
  | .slice elems spare => uptoBulkAll elems + uptoBulkAll spare + 1
  | .agg parts => uptoBulkAll parts + 1
  | .iface _ d => uptoBulk d + 1
  | .map entries => uptoBulkEntries entries + 1
  | .held _ => 1
def uptoBulkAll {H : Type} : List (DataW H) → Nat
  | [] => 0
  | d :: r => uptoBulk d + uptoBulkAll r
def uptoBulkEntries {H : Type} : List (Lit × DataW H) → Nat
  | [] => 0
  | x :: r => uptoBulkEntry x + uptoBulkEntries r
def uptoBulkEntry {H : Type} : Lit × DataW H → Nat
  | (.string bytes, d) => bytes.length + uptoBulk d + 1
  | (_, d) => uptoBulk d + 1
 end
def uptoSmall : (H : Type) → List (DataW H) → Bool := fun _ ds => decide (uptoBulkAll ds ≤ 1048576)
def OpenSpec.upto (s : _root_.Go.ChangeSpec) : _root_.Go.OpenSpec := { _root_.Go.OpenSpec.ofChange s with cond := some uptoSmall }

/-- 'mailguardlaw10.HeaderTells', WHERE WHAT IT READS IS OF BULK AT MOST 1048576: true; the input reads as it did. -/
def headerTellsUptoRow : OpenClaim := { program := "ytdaekoapkclliaadoor", sum := "753de4c82c1564e216cac5f9c53331c47b32fdc2266699541d8db0d6ef423d0b", func := "mailguard/mailguardlaw10.HeaderTells", spec := "headerTells", inPlace := ["internal/bytealg.IndexByteString", "internal/bytealg.IndexString", "internal/bytealg.CountString", "internal/abi.NoEscape"], unfollowed := true, recurses := true, named := ["unicode/utf8.first", "unicode/utf8.acceptRanges", "internal/bytealg.MaxLen"], apart := false, laid := [("unicode/utf8.acceptRanges", laid_unicode_utf8_acceptRanges), ("unicode/utf8.first", laid_unicode_utf8_first)], narrowed := true }
def HeaderTellsUptoSaid : Prop := headerTellsUptoRow.holds Tryd.pinned (OpenSpec.upto headerTellsSpec)

/-- 'mailguardlaw10.HeaderBack', WHERE WHAT IT READS IS OF BULK AT MOST 1048576: true; the input reads as it did. -/
def headerBackUptoRow : OpenClaim := { program := "ytdaekoapkclliaadoor", sum := "753de4c82c1564e216cac5f9c53331c47b32fdc2266699541d8db0d6ef423d0b", func := "mailguard/mailguardlaw10.HeaderBack", spec := "headerBack", inPlace := ["internal/bytealg.IndexByteString", "internal/bytealg.IndexString", "internal/bytealg.CountString", "internal/abi.NoEscape"], unfollowed := true, recurses := true, named := ["unicode/utf8.first", "unicode/utf8.acceptRanges", "internal/bytealg.MaxLen"], apart := false, laid := [("unicode/utf8.acceptRanges", laid_unicode_utf8_acceptRanges), ("unicode/utf8.first", laid_unicode_utf8_first)], narrowed := true }
def HeaderBackUptoSaid : Prop := headerBackUptoRow.holds Tryd.pinned (OpenSpec.upto headerBackSpec)

/-- 'mailguardlaw10.HeaderLines', WHERE WHAT IT READS IS OF BULK AT MOST 1048576: true; the input reads as it did. -/
def headerLinesUptoRow : OpenClaim := { program := "ytdaekoapkclliaadoor", sum := "753de4c82c1564e216cac5f9c53331c47b32fdc2266699541d8db0d6ef423d0b", func := "mailguard/mailguardlaw10.HeaderLines", spec := "headerLines", inPlace := ["internal/bytealg.IndexByteString", "internal/bytealg.IndexString", "internal/bytealg.CountString", "internal/abi.NoEscape"], unfollowed := true, recurses := true, named := ["unicode/utf8.first", "unicode/utf8.acceptRanges", "internal/bytealg.MaxLen"], apart := false, laid := [("unicode/utf8.acceptRanges", laid_unicode_utf8_acceptRanges), ("unicode/utf8.first", laid_unicode_utf8_first)], narrowed := true }
def HeaderLinesUptoSaid : Prop := headerLinesUptoRow.holds Tryd.pinned (OpenSpec.upto headerLinesSpec)

/-- 'mailguardlaw10.HeaderGets', WHERE WHAT IT READS IS OF BULK AT MOST 1048576: true; the input reads as it did. -/
def headerGetsUptoRow : OpenClaim := { program := "ytdaekoapkclliaadoor", sum := "753de4c82c1564e216cac5f9c53331c47b32fdc2266699541d8db0d6ef423d0b", func := "mailguard/mailguardlaw10.HeaderGets", spec := "headerGets", inPlace := ["internal/bytealg.IndexByteString", "internal/bytealg.IndexString", "internal/bytealg.CountString", "internal/abi.NoEscape"], unfollowed := true, recurses := true, named := ["unicode/utf8.first", "unicode/utf8.acceptRanges", "internal/bytealg.MaxLen"], apart := false, laid := [("unicode/utf8.acceptRanges", laid_unicode_utf8_acceptRanges), ("unicode/utf8.first", laid_unicode_utf8_first)], narrowed := true }
def HeaderGetsUptoSaid : Prop := headerGetsUptoRow.holds Tryd.pinned (OpenSpec.upto headerGetsSpec)

/-- 'mailguardlaw10.HeaderMore', WHERE WHAT IT READS IS OF BULK AT MOST 1048576: true; the input reads as it did. -/
def headerMoreUptoRow : OpenClaim := { program := "ytdaekoapkclliaadoor", sum := "753de4c82c1564e216cac5f9c53331c47b32fdc2266699541d8db0d6ef423d0b", func := "mailguard/mailguardlaw10.HeaderMore", spec := "headerMore", inPlace := ["internal/bytealg.IndexByteString", "internal/bytealg.IndexString", "internal/bytealg.CountString", "internal/abi.NoEscape"], unfollowed := true, recurses := true, named := ["unicode/utf8.first", "unicode/utf8.acceptRanges", "internal/bytealg.MaxLen"], apart := false, laid := [("unicode/utf8.acceptRanges", laid_unicode_utf8_acceptRanges), ("unicode/utf8.first", laid_unicode_utf8_first)], narrowed := true }
def HeaderMoreUptoSaid : Prop := headerMoreUptoRow.holds Tryd.pinned (OpenSpec.upto headerMoreSpec)

/-- 'mailguardlaw10.HeaderFolds', WHERE WHAT IT READS IS OF BULK AT MOST 1048576: true; the input reads as it did. -/
def headerFoldsUptoRow : OpenClaim := { program := "ytdaekoapkclliaadoor", sum := "753de4c82c1564e216cac5f9c53331c47b32fdc2266699541d8db0d6ef423d0b", func := "mailguard/mailguardlaw10.HeaderFolds", spec := "headerFolds", inPlace := ["internal/bytealg.IndexByteString", "internal/bytealg.IndexString", "internal/bytealg.CountString", "internal/abi.NoEscape"], unfollowed := true, recurses := true, named := ["unicode/utf8.first", "unicode/utf8.acceptRanges", "internal/bytealg.MaxLen"], apart := false, laid := [("unicode/utf8.acceptRanges", laid_unicode_utf8_acceptRanges), ("unicode/utf8.first", laid_unicode_utf8_first)], narrowed := true }
def HeaderFoldsUptoSaid : Prop := headerFoldsUptoRow.holds Tryd.pinned (OpenSpec.upto headerFoldsSpec)

end Rows
end Go.Proofs.YtdaekoapkclliaaDoor
