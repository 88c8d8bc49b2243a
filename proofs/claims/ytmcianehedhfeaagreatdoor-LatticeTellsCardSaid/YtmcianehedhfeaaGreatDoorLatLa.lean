/- Package lattice: Asked. -/
import Derived.Test.YtmcianehedhfeaaGreatDoorLatL
set_option linter.unusedVariables false
set_option linter.unusedSimpArgs false
namespace Go.Proofs.YtmcianehedhfeaaGreatDoor
open Go.RowKit
theorem asked_any (g : Nat) (lv cp : List ByteArray) (cnt : Int) (w : World) (h : NmAt w g lv cp cnt) :
    Calls Tryz.prog 22 #[.pointer (some ⟨g, 0, none⟩)] w fun e w' => e = .returned (.int .i64 cnt) ∧ w = w' := by
  have c1 := load_any ⟨g, 7, none⟩ cnt w h.cnt.1
  clear h
  go_enter Tryz.func22, Tryz.ntmps22
  go_wp2_with (go_at_call 34; refine c1.mono ?_; rintro e w' ⟨rfl, rfl⟩)
  go_ret
  exact ⟨rfl, rfl⟩
end Go.Proofs.YtmcianehedhfeaaGreatDoor
