/- Package lattice: Join. -/
import Derived.Test.YtmcianehedhfeaaGreatDoorLatD
set_option linter.unusedVariables false
set_option linter.unusedSimpArgs false
namespace Go.Proofs.YtmcianehedhfeaaGreatDoor
open Go.RowKit
theorem join_any (a b : Int) (m n : Nat) (hm : m < M64) (hn : n < M64) (w : World) :
    Calls Tryz.prog 16 #[labV a m, labV b n] w fun e w' => e = .returned (labV (max a b) (m ||| n)) ∧ Below w.heap.size w w' := by
  have h1 := u64_or_nat m n hm hn
  unfold labV
  go_enter Tryz.func16, Tryz.ntmps16
  go_wp2
  all_goals
    refine ret_lab1 rfl rfl (heap3_new _ _ _ _) rfl ⟨?_, below3 _ _ _ _⟩
    exact congrArg (fun x : Int => Ending.returned (labV x _)) (by omega)
end Go.Proofs.YtmcianehedhfeaaGreatDoor
