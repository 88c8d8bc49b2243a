/- Lines of two texts, one behind the other. -/
import Derived.Test.YteiepgbdngamiaaDoorFrmK
set_option linter.unusedVariables false
set_option linter.unusedSimpArgs false
namespace Go.Proofs.YteiepgbdngamiaaDoor
theorem split_app (a b : List UInt8) : initL (a ++ b) = initL a ++ initL (restL a ++ b) ∧ restL (a ++ b) = restL (restL a ++ b) := by
  have hw := whole a
  have hI := IR.of a
  have hno : ∀ l ∈ initL a, noEnd l := fun l hl => lns_noEnd a l (by unfold IR at hI; rw [hI]; exact List.mem_append_left _ hl)
  have h1 : lns (a ++ b) = initL a ++ lns (restL a ++ b) := by
    conv => lhs; rw [hw]
    rw [List.append_assoc, lns_ended _ _ hno]
  have h2 := IR.of (restL a ++ b)
  unfold IR at h2
  rw [h2, ← List.append_assoc] at h1
  exact IR.eq (s := a ++ b) h1
/-- The lines of a text, and of what comes behind it. -/
def LL (s : List UInt8) : List LnV := (initL s).map mkLn
theorem LL_app (a b : List UInt8) : LL (a ++ b) = LL a ++ LL (restL a ++ b) := by
  unfold LL; rw [(split_app a b).1, List.map_append]
end Go.Proofs.YteiepgbdngamiaaDoor
