/-
  No cell of these rows narrows 'for every input' (looked for: loops, veiled, ifaces, maps, wideKeys, modest, calm, conditions, laid).
  DERIVED. THE GIVEN ROWS OF THIS SEAT. 4 by the template 'for every input the law returns true; each argument reads behind the call as it read before'; 0 by the template 'total and deterministic' (their statements: YtolkofnlihbncaaTotals.lean).
  GIVEN WITH THE SEED: the statements are not yours to turn. If you find one false, say at which input.
  Laid BY PROGRAM, IN A SANDBOX (cutbox-rows.mjs): the forced cells as the released guide's own fill.sh prints them over the translation 44d17b78382fb380… (all of the seat's roots in one cut). By AI agents, Wed Nov 11 2026. No macro, syntax, notation, axiom, sorry.
-/
import Derived.Test.YtolkofnlihbncaaChecked
import GoSem.Claim
import GoSem.ClaimJoined
import GoSem.ClaimMapViews
import Derived.JoinedTies
import Derived.KernelRfl
namespace Go.Proofs.Ytolkofnlihbncaa
/- THE CELL 'sum', in the pinned program and in every row, IS THE sha256 OF THE DUMP (.gsa) THAT YtolkofnlihbncaaProg.lean LOADS. Nothing in Lean hashes anything: it is a label: what it is worth is what the hold of that sum in a sandbox is worth. -/
noncomputable def Try.pinned : Pinned := { name := "ytolkofnlihbncaa", sum := "44d17b78382fb380769ddb0247d2a1741435b09bfcd7f2f5af2de44c16d0a134", checked := Try.checked }
namespace Rows
def none {H : Type} : Left H := { results := [], args := [] }

/-- 'mailguardlaw07.SectorTorn': WHATEVER THE INPUT: true; the input reads as it did. -/
def sectorTornSpec : ChangeSpec := { name := "sectorTorn", fn := fun _ => fun
  | [d1, d2] => { results := [.lit (.bool true)], args := [d1, d2] }
  | _ => none }
def sectorTornRow : OpenClaim := { program := "ytolkofnlihbncaa", sum := "44d17b78382fb380769ddb0247d2a1741435b09bfcd7f2f5af2de44c16d0a134", func := "mailguard/mailguardlaw07.SectorTorn", spec := "sectorTorn", inPlace := ["sync/atomic.AddInt64", "sync/atomic.LoadInt64"], apart := false }
def SectorTornSaid : Prop := sectorTornRow.holds Try.pinned (OpenSpec.ofChange sectorTornSpec)

/-- ITS FALSE NEIGHBOUR: 'it returns false'. Refute it at one input. -/
def sectorTornWrong : ChangeSpec := { name := "sectorTorn", fn := fun _ => fun
  | [d1, d2] => { results := [.lit (.bool false)], args := [d1, d2] }
  | _ => none }
def SectorTornWrongFalsely : Prop := sectorTornRow.holds Try.pinned (OpenSpec.ofChange sectorTornWrong)

/-- 'mailguardlaw07.SectorApart': WHATEVER THE INPUT: true; the input reads as it did. -/
def sectorApartSpec : ChangeSpec := { name := "sectorApart", fn := fun _ => fun
  | [d1, d2, d3] => { results := [.lit (.bool true)], args := [d1, d2, d3] }
  | _ => none }
def sectorApartRow : OpenClaim := { program := "ytolkofnlihbncaa", sum := "44d17b78382fb380769ddb0247d2a1741435b09bfcd7f2f5af2de44c16d0a134", func := "mailguard/mailguardlaw07.SectorApart", spec := "sectorApart", inPlace := ["sync/atomic.AddInt64", "sync/atomic.LoadInt64"], apart := false }
def SectorApartSaid : Prop := sectorApartRow.holds Try.pinned (OpenSpec.ofChange sectorApartSpec)

/-- ITS FALSE NEIGHBOUR: 'it returns false'. Refute it at one input. -/
def sectorApartWrong : ChangeSpec := { name := "sectorApart", fn := fun _ => fun
  | [d1, d2, d3] => { results := [.lit (.bool false)], args := [d1, d2, d3] }
  | _ => none }
def SectorApartWrongFalsely : Prop := sectorApartRow.holds Try.pinned (OpenSpec.ofChange sectorApartWrong)

/-- 'mailguardlaw07.SectorCounts': WHATEVER THE INPUT: true; the input reads as it did. -/
def sectorCountsSpec : ChangeSpec := { name := "sectorCounts", fn := fun _ => fun
  | [d1, d2] => { results := [.lit (.bool true)], args := [d1, d2] }
  | _ => none }
def sectorCountsRow : OpenClaim := { program := "ytolkofnlihbncaa", sum := "44d17b78382fb380769ddb0247d2a1741435b09bfcd7f2f5af2de44c16d0a134", func := "mailguard/mailguardlaw07.SectorCounts", spec := "sectorCounts", inPlace := ["sync/atomic.AddInt64", "sync/atomic.LoadInt64"], apart := false }
def SectorCountsSaid : Prop := sectorCountsRow.holds Try.pinned (OpenSpec.ofChange sectorCountsSpec)

/-- ITS FALSE NEIGHBOUR: 'it returns false'. Refute it at one input. -/
def sectorCountsWrong : ChangeSpec := { name := "sectorCounts", fn := fun _ => fun
  | [d1, d2] => { results := [.lit (.bool false)], args := [d1, d2] }
  | _ => none }
def SectorCountsWrongFalsely : Prop := sectorCountsRow.holds Try.pinned (OpenSpec.ofChange sectorCountsWrong)

/-- 'mailguardlaw07.SectorPlays': WHATEVER THE INPUT: true; the input reads as it did. -/
def sectorPlaysSpec : ChangeSpec := { name := "sectorPlays", fn := fun _ => fun
  | [d1, d2] => { results := [.lit (.bool true)], args := [d1, d2] }
  | _ => none }
def sectorPlaysRow : OpenClaim := { program := "ytolkofnlihbncaa", sum := "44d17b78382fb380769ddb0247d2a1741435b09bfcd7f2f5af2de44c16d0a134", func := "mailguard/mailguardlaw07.SectorPlays", spec := "sectorPlays", inPlace := ["sync/atomic.AddInt64", "sync/atomic.LoadInt64", "sync/atomic.StoreInt64"], apart := false }
def SectorPlaysSaid : Prop := sectorPlaysRow.holds Try.pinned (OpenSpec.ofChange sectorPlaysSpec)

/-- ITS FALSE NEIGHBOUR: 'it returns false'. Refute it at one input. -/
def sectorPlaysWrong : ChangeSpec := { name := "sectorPlays", fn := fun _ => fun
  | [d1, d2] => { results := [.lit (.bool false)], args := [d1, d2] }
  | _ => none }
def SectorPlaysWrongFalsely : Prop := sectorPlaysRow.holds Try.pinned (OpenSpec.ofChange sectorPlaysWrong)

/- THE SECOND FORM. 'bulk': how many values and letters a reading holds, each counted each time it is reached (what is shared counts as often as it is met; a slice's spare places count too). A statement '..UptoSaid' is the law's where the arguments, and the package variables that the reading takes, are together of bulk at most 1048576: NARROWER than '..Said'. Prove '..Said' where nothing that the law and all that it calls make is longer than what came in: it says more and counts as full. Else prove '..UptoSaid'. A law counts once. -/
mutual
def uptoBulk {H : Type} : DataW H → Nat
  | .lit (.string bytes) => bytes.length + 1
  | .lit _ => 1
  | .nil => 1
  | .ptr d => uptoBulk d + 1
  | .slice elems spare => uptoBulkAll elems + uptoBulkAll spare + 1
  | .agg parts => uptoBulkAll parts + 1
  | .iface _ d => uptoBulk d + 1
  | .map entries => uptoBulkEntries entries + 1
  | .held _ => 1
def uptoBulkAll {H : Type} : List (DataW H) → Nat
  | [] => 0
  | d :: r => uptoBulk d + uptoBulkAll r
def uptoBulkEntries {H : Type} : List (Lit × DataW H) → Nat
  | [] => 0
  | x :: r => uptoBulkEntry x + uptoBulkEntries r
def uptoBulkEntry {H : Type} : Lit × DataW H → Nat
  | (.string bytes, d) => bytes.length + uptoBulk d + 1
  | (_, d) => uptoBulk d + 1
 end
def uptoSmall : (H : Type) → List (DataW H) → Bool := fun _ ds => decide (uptoBulkAll ds ≤ 1048576)
def OpenSpec.upto (s : _root_.Go.ChangeSpec) : _root_.Go.OpenSpec := { _root_.Go.OpenSpec.ofChange s with cond := some uptoSmall }

/-- 'mailguardlaw07.SectorTorn', WHERE WHAT IT READS IS OF BULK AT MOST 1048576: true; the input reads as it did. -/
def sectorTornUptoRow : OpenClaim := { program := "ytolkofnlihbncaa", sum := "44d17b78382fb380769ddb0247d2a1741435b09bfcd7f2f5af2de44c16d0a134", func := "mailguard/mailguardlaw07.SectorTorn", spec := "sectorTorn", inPlace := ["sync/atomic.AddInt64", "sync/atomic.LoadInt64"], apart := false, narrowed := true }
def SectorTornUptoSaid : Prop := sectorTornUptoRow.holds Try.pinned (OpenSpec.upto sectorTornSpec)

/-- 'mailguardlaw07.SectorApart', WHERE WHAT IT READS IS OF BULK AT MOST 1048576: true; the input reads as it did. -/
def sectorApartUptoRow : OpenClaim := { program := "ytolkofnlihbncaa", sum := "44d17b78382fb380769ddb0247d2a1741435b09bfcd7f2f5af2de44c16d0a134", func := "mailguard/mailguardlaw07.SectorApart", spec := "sectorApart", inPlace := ["sync/atomic.AddInt64", "sync/atomic.LoadInt64"], apart := false, narrowed := true }
def SectorApartUptoSaid : Prop := sectorApartUptoRow.holds Try.pinned (OpenSpec.upto sectorApartSpec)

/-- 'mailguardlaw07.SectorCounts', WHERE WHAT IT READS IS OF BULK AT MOST 1048576: true; the input reads as it did. -/
def sectorCountsUptoRow : OpenClaim := { program := "ytolkofnlihbncaa", sum := "44d17b78382fb380769ddb0247d2a1741435b09bfcd7f2f5af2de44c16d0a134", func := "mailguard/mailguardlaw07.SectorCounts", spec := "sectorCounts", inPlace := ["sync/atomic.AddInt64", "sync/atomic.LoadInt64"], apart := false, narrowed := true }
def SectorCountsUptoSaid : Prop := sectorCountsUptoRow.holds Try.pinned (OpenSpec.upto sectorCountsSpec)

/-- 'mailguardlaw07.SectorPlays', WHERE WHAT IT READS IS OF BULK AT MOST 1048576: true; the input reads as it did. -/
def sectorPlaysUptoRow : OpenClaim := { program := "ytolkofnlihbncaa", sum := "44d17b78382fb380769ddb0247d2a1741435b09bfcd7f2f5af2de44c16d0a134", func := "mailguard/mailguardlaw07.SectorPlays", spec := "sectorPlays", inPlace := ["sync/atomic.AddInt64", "sync/atomic.LoadInt64", "sync/atomic.StoreInt64"], apart := false, narrowed := true }
def SectorPlaysUptoSaid : Prop := sectorPlaysUptoRow.holds Try.pinned (OpenSpec.upto sectorPlaysSpec)

end Rows
end Go.Proofs.Ytolkofnlihbncaa
