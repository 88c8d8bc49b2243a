/- Package sector's law folder: SectorApart's other ways. -/
import Derived.Test.YtolkofnlihbncaaSectorG
set_option linter.unusedVariables false
set_option linter.unusedSimpArgs false
namespace Go.Proofs.Ytolkofnlihbncaa
open Go.RowKit
set_option maxRecDepth 100000 in
set_option maxHeartbeats 1000000 in
theorem apart_all (A : Option Addr) (l c : Nat) (ys : List Act) (a : Int) (d : ByteArray) (w : World) (h1 : ActsAt w A l ys) (wa : (Lit.int .i64 a).wf = true) (wd : d.size ≤ maxLen) :
    Calls Try.prog 4 #[.slice A l c, .int .i64 a, .string d] w fun e w' => e = .returned (.bool true) ∧ Below w.heap.size w w' := by
  have haw := awake_any w
  have bi : -9223372036854775808 ≤ a ∧ a ≤ 9223372036854775807 := by simpa [Lit.wf, IntKind.min, IntKind.max, IntKind.signed, IntKind.bits] using wa
  obtain ⟨bi1, bi2⟩ := bi
  unfold maxLen at wd
  clear wa
  by_cases hf : Fewish ys
  · by_cases hin : 0 ≤ a ∧ a ≤ 7 ∧ d.size ≤ 64
    · obtain ⟨j, rfl⟩ := Int.eq_ofNat_of_zero_le hin.1
      exact apart_law A l c ys j d w h1 hf (by omega) hin.2.2
    · have H1 := Lib.hid h1
      have HF := Lib.hid hf
      have c1 : ∀ w1, Below w.heap.size w w1 → _ := fun w1 hb => few_true A l c ys w1 (H1.out.below hb) HF.out
      rcases (show a < 0 ∨ (0 ≤ a ∧ 7 < a) ∨ (0 ≤ a ∧ a ≤ 7 ∧ 64 < d.size) by omega) with h | ⟨h, h'⟩ | ⟨h, h', h''⟩
      all_goals
        clear hin h1 hf
        go_enter Try.func4, Try.ntmps4
        go_wp2_with fail
        refine haw.mono ?_
        rintro e w1 ⟨rfl, hb1⟩
        have c2 := c1 w1 hb1
        clear c1
        go_wp2_with fail
        refine c2.mono ?_
        rintro e _ ⟨rfl, rfl⟩
        go_wp2_with fail
        go_ret
        exact ⟨rfl, hb1⟩
  · have H1 := Lib.hid h1
    have HF := Lib.hid hf
    clear h1 hf
    go_enter Try.func4, Try.ntmps4
    go_wp2_with fail
    refine haw.mono ?_
    rintro e w1 ⟨rfl, hb1⟩
    go_wp2_with fail
    refine (few_false A l c ys w1 (H1.out.below hb1) HF.out).mono ?_
    rintro e _ ⟨rfl, rfl⟩
    go_wp2_with fail
    go_ret
    exact ⟨rfl, hb1⟩
end Go.Proofs.Ytolkofnlihbncaa
