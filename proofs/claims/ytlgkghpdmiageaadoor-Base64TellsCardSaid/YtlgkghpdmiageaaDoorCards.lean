/-
  DERIVED. GIVEN WITH THE SEED: THE CARDS: each row of YtlgkghpdmiageaaDoorRows.lean that lists a variable, with what it lists TIED to the program's text (the seventh form; the later family's looks); each row that meets fmt, with fmt's text TOLD by the authors' own Lean function (tested against real Go, not proved from fmt's source: count such statements apart). THE CARD IS WHAT COUNTS. Prove the row's statement (the work); the ties are given (YtlgkghpdmiageaaDoorTie.lean); close each card by the builder's one call (the guide's Derived/Test/ToyasCard.lean, 'card_holds'). Laid BY PROGRAM, IN A SANDBOX (cutbox-door.mjs). By AI agents, Wed Nov 11 2026. No macro, syntax, notation, axiom, sorry.
-/
import Derived.Test.YtlgkghpdmiageaaDoorRows
import GoSem.ClaimSeven
namespace Go.Proofs.YtlgkghpdmiageaaDoor
namespace Rows

/-- THE TIED CARD OF 'mailguardlaw03.Base64Tells'. -/
def base64TellsCard : Claim7 := { stood := { row := base64TellsRow, standIns := [], harness := (true, "19e92d3dc60ee17d939f7f24a62c871164b834b8b5a7ba9df71326f9b3f41f59"), looks := false }, kinds := [], alts := [], laidByText := true, laidKinds := [.data, .pinned], laidTests := true, laidLooks := .later }
def Base64TellsCardSaid : Prop := Claim7.holds Tryd.pinned (.plain (OpenSpec.ofChange base64TellsSpec)) base64TellsCard

/-- THE TIED CARD OF 'mailguardlaw03.Base64Back'. -/
def base64BackCard : Claim7 := { stood := { row := base64BackRow, standIns := [], harness := (true, "19e92d3dc60ee17d939f7f24a62c871164b834b8b5a7ba9df71326f9b3f41f59"), looks := false }, kinds := [], alts := [], laidByText := true, laidKinds := [.data, .pinned], laidTests := true, laidLooks := .later }
def Base64BackCardSaid : Prop := Claim7.holds Tryd.pinned (.plain (OpenSpec.ofChange base64BackSpec)) base64BackCard

/-- THE TIED CARD OF 'mailguardlaw03.Base64Parts'. -/
def base64PartsCard : Claim7 := { stood := { row := base64PartsRow, standIns := [], harness := (true, "19e92d3dc60ee17d939f7f24a62c871164b834b8b5a7ba9df71326f9b3f41f59"), looks := false }, kinds := [], alts := [], laidByText := true, laidKinds := [.data, .pinned], laidTests := true, laidLooks := .later }
def Base64PartsCardSaid : Prop := Claim7.holds Tryd.pinned (.plain (OpenSpec.ofChange base64PartsSpec)) base64PartsCard

/-- THE TIED CARD OF 'mailguardlaw03.Base64Counts'. -/
def base64CountsCard : Claim7 := { stood := { row := base64CountsRow, standIns := [], harness := (true, "19e92d3dc60ee17d939f7f24a62c871164b834b8b5a7ba9df71326f9b3f41f59"), looks := false }, kinds := [], alts := [], laidByText := true, laidKinds := [.data, .pinned], laidTests := true, laidLooks := .later }
def Base64CountsCardSaid : Prop := Claim7.holds Tryd.pinned (.plain (OpenSpec.ofChange base64CountsSpec)) base64CountsCard

/-- THE TIED CARD OF 'mailguardlaw03.Base64Lines'. -/
def base64LinesCard : Claim7 := { stood := { row := base64LinesRow, standIns := [], harness := (true, "19e92d3dc60ee17d939f7f24a62c871164b834b8b5a7ba9df71326f9b3f41f59"), looks := false }, kinds := [], alts := [], laidByText := true, laidKinds := [.data, .pinned], laidTests := true, laidLooks := .later }
def Base64LinesCardSaid : Prop := Claim7.holds Tryd.pinned (.plain (OpenSpec.ofChange base64LinesSpec)) base64LinesCard

/-- THE TIED CARD OF 'mailguardlaw03.Base64Wrong'. -/
def base64WrongCard : Claim7 := { stood := { row := base64WrongRow, standIns := [], harness := (true, "19e92d3dc60ee17d939f7f24a62c871164b834b8b5a7ba9df71326f9b3f41f59"), looks := false }, kinds := [], alts := [], laidByText := true, laidKinds := [.data, .pinned], laidTests := true, laidLooks := .later }
def Base64WrongCardSaid : Prop := Claim7.holds Tryd.pinned (.plain (OpenSpec.ofChange base64WrongSpec)) base64WrongCard

/-- THE SECOND FORM's CARD OF 'mailguardlaw03.Base64Tells'. -/
def base64TellsUptoCard : Claim7 := { stood := { row := base64TellsUptoRow, standIns := [], harness := (true, "19e92d3dc60ee17d939f7f24a62c871164b834b8b5a7ba9df71326f9b3f41f59"), looks := false }, kinds := [], alts := [], laidByText := true, laidKinds := [.data, .pinned], laidTests := true, laidLooks := .later }
def Base64TellsUptoCardSaid : Prop := Claim7.holds Tryd.pinned (.plain (OpenSpec.upto base64TellsSpec)) base64TellsUptoCard

/-- THE SECOND FORM's CARD OF 'mailguardlaw03.Base64Back'. -/
def base64BackUptoCard : Claim7 := { stood := { row := base64BackUptoRow, standIns := [], harness := (true, "19e92d3dc60ee17d939f7f24a62c871164b834b8b5a7ba9df71326f9b3f41f59"), looks := false }, kinds := [], alts := [], laidByText := true, laidKinds := [.data, .pinned], laidTests := true, laidLooks := .later }
def Base64BackUptoCardSaid : Prop := Claim7.holds Tryd.pinned (.plain (OpenSpec.upto base64BackSpec)) base64BackUptoCard

/-- THE SECOND FORM's CARD OF 'mailguardlaw03.Base64Parts'. -/
def base64PartsUptoCard : Claim7 := { stood := { row := base64PartsUptoRow, standIns := [], harness := (true, "19e92d3dc60ee17d939f7f24a62c871164b834b8b5a7ba9df71326f9b3f41f59"), looks := false }, kinds := [], alts := [], laidByText := true, laidKinds := [.data, .pinned], laidTests := true, laidLooks := .later }
def Base64PartsUptoCardSaid : Prop := Claim7.holds Tryd.pinned (.plain (OpenSpec.upto base64PartsSpec)) base64PartsUptoCard

/-- THE SECOND FORM's CARD OF 'mailguardlaw03.Base64Counts'. -/
def base64CountsUptoCard : Claim7 := { stood := { row := base64CountsUptoRow, standIns := [], harness := (true, "19e92d3dc60ee17d939f7f24a62c871164b834b8b5a7ba9df71326f9b3f41f59"), looks := false }, kinds := [], alts := [], laidByText := true, laidKinds := [.data, .pinned], laidTests := true, laidLooks := .later }
def Base64CountsUptoCardSaid : Prop := Claim7.holds Tryd.pinned (.plain (OpenSpec.upto base64CountsSpec)) base64CountsUptoCard

/-- THE SECOND FORM's CARD OF 'mailguardlaw03.Base64Lines'. -/
def base64LinesUptoCard : Claim7 := { stood := { row := base64LinesUptoRow, standIns := [], harness := (true, "19e92d3dc60ee17d939f7f24a62c871164b834b8b5a7ba9df71326f9b3f41f59"), looks := false }, kinds := [], alts := [], laidByText := true, laidKinds := [.data, .pinned], laidTests := true, laidLooks := .later }
def Base64LinesUptoCardSaid : Prop := Claim7.holds Tryd.pinned (.plain (OpenSpec.upto base64LinesSpec)) base64LinesUptoCard

/-- THE SECOND FORM's CARD OF 'mailguardlaw03.Base64Wrong'. -/
def base64WrongUptoCard : Claim7 := { stood := { row := base64WrongUptoRow, standIns := [], harness := (true, "19e92d3dc60ee17d939f7f24a62c871164b834b8b5a7ba9df71326f9b3f41f59"), looks := false }, kinds := [], alts := [], laidByText := true, laidKinds := [.data, .pinned], laidTests := true, laidLooks := .later }
def Base64WrongUptoCardSaid : Prop := Claim7.holds Tryd.pinned (.plain (OpenSpec.upto base64WrongSpec)) base64WrongUptoCard
end Rows
end Go.Proofs.YtlgkghpdmiageaaDoor
