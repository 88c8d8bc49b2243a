/- The lattice laws of labels, as their rows ask for them. -/
import Derived.Test.YtmcianehedhfeaaDoorLatQ
import Derived.Test.YtmcianehedhfeaaDoorLatS
import Derived.Test.YtmcianehedhfeaaDoorLatU
import Derived.Test.YtmcianehedhfeaaDoorLatV
set_option linter.unusedVariables false
set_option linter.unusedSimpArgs false
namespace Go.Proofs.YtmcianehedhfeaaDoor
open Go.RowKit
theorem order_law (a : Int) (m : Nat) (b : Int) (n : Nat) (c : Int) (o : Nat) (w : World) (hmax : MaxAt w) (h0 : (Lit.int .i64 a).wf = true ∧ m < 18446744073709551616) (h1 : (Lit.int .i64 b).wf = true ∧ n < 18446744073709551616) (h2 : (Lit.int .i64 c).wf = true ∧ o < 18446744073709551616) :
    Calls Tryd.prog 3 #[labV a m, labV b n, labV c o] w fun e w' => e = .returned (.bool true) ∧ Below w.heap.size w w' := order_all a b c m n o w hmax h0.2 h1.2 h2.2
theorem bounds_law (a : Int) (m : Nat) (b : Int) (n : Nat) (c : Int) (o : Nat) (w : World) (hmax : MaxAt w) (h0 : (Lit.int .i64 a).wf = true ∧ m < 18446744073709551616) (h1 : (Lit.int .i64 b).wf = true ∧ n < 18446744073709551616) (h2 : (Lit.int .i64 c).wf = true ∧ o < 18446744073709551616) :
    Calls Tryd.prog 7 #[labV a m, labV b n, labV c o] w fun e w' => e = .returned (.bool true) ∧ Below w.heap.size w w' := bounds_all a b c m n o w hmax h0.2 h1.2 h2.2
theorem laws_law (a : Int) (m : Nat) (b : Int) (n : Nat) (c : Int) (o : Nat) (w : World) (hmax : MaxAt w) (h0 : (Lit.int .i64 a).wf = true ∧ m < 18446744073709551616) (h1 : (Lit.int .i64 b).wf = true ∧ n < 18446744073709551616) (h2 : (Lit.int .i64 c).wf = true ∧ o < 18446744073709551616) :
    Calls Tryd.prog 8 #[labV a m, labV b n, labV c o] w fun e w' => e = .returned (.bool true) ∧ Below w.heap.size w w' := laws_all a b c m n o w hmax h0.2 h1.2 h2.2
theorem steps_law (a : Int) (m : Nat) (u t : Int) (w : World) (hmax : MaxAt w) (h0 : (Lit.int .i64 a).wf = true ∧ m < 18446744073709551616) (h1 : (Lit.int .u8 u).wf = true) (h2 : (Lit.int .u8 t).wf = true) :
    Calls Tryd.prog 5 #[labV a m, .int .u8 u, .int .u8 t] w fun e w' => e = .returned (.bool true) ∧ Below w.heap.size w w' := by
  have b1 : 0 ≤ u ∧ u ≤ 255 := by simpa [Lit.wf, IntKind.min, IntKind.max, IntKind.signed, IntKind.bits] using h1
  have b2 : 0 ≤ t ∧ t ≤ 255 := by simpa [Lit.wf, IntKind.min, IntKind.max, IntKind.signed, IntKind.bits] using h2
  have := steps_all a m u.toNat t.toNat w hmax h0.1 h0.2 (by omega) (by omega)
  rwa [show ((u.toNat : Nat) : Int) = u by omega, show ((t.toNat : Nat) : Int) = t by omega] at this
end Go.Proofs.YtmcianehedhfeaaDoor
