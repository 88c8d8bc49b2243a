/- Package sector's law folder: SectorTorn's other way. -/
import Derived.Test.YtolkofnlihbncaaSectorJ
set_option linter.unusedVariables false
set_option linter.unusedSimpArgs false
namespace Go.Proofs.Ytolkofnlihbncaa
open Go.RowKit
set_option maxRecDepth 100000 in
set_option maxHeartbeats 1000000 in
theorem torn_all (A : Option Addr) (l c : Nat) (ys : List Act) (a t : Int) (w : World) (h1 : ActsAt w A l ys) (wc : (Lit.int .i64 a).wf = true ∧ (Lit.int .i64 t).wf = true) :
    Calls Try.prog 3 #[.slice A l c, .agg #[.int .i64 a, .int .i64 t]] w fun e w' => e = .returned (.bool true) ∧ Below w.heap.size w w' := by
  have bi : -9223372036854775808 ≤ t ∧ t ≤ 9223372036854775807 := by simpa [Lit.wf, IntKind.min, IntKind.max, IntKind.signed, IntKind.bits] using wc.2
  by_cases hf : Fewish ys
  · exact torn_law A l c ys a t w h1 hf bi
  · have H1 := Lib.hid h1
    have HF := Lib.hid hf
    clear h1 hf wc bi
    go_enter Try.func3, Try.ntmps3
    go_wp2_with fail
    refine (awake_any (w.alloc (.cells #[.int .i64 a, .int .i64 t] 24))).mono ?_
    rintro e w1 ⟨rfl, hb1⟩
    have HB : Hid (Below w.heap.size w w1) := ((Below.refl _ w).alloc (Nat.le_refl _) _).trans (hb1.mono (by simp))
    clear hb1
    go_wp2_with fail
    refine (few_false A l c ys w1 (H1.out.below HB.out) HF.out).mono ?_
    rintro e _ ⟨rfl, rfl⟩
    go_wp2_with fail
    go_ret
    exact ⟨rfl, HB.out⟩
end Go.Proofs.Ytolkofnlihbncaa
