/- Package sector's law folder: SectorPlays' other ways. -/
import Derived.Test.YtolkofnlihbncaaSpG
set_option linter.unusedVariables false
set_option linter.unusedSimpArgs false
namespace Go.Proofs.Ytolkofnlihbncaa
open Go.RowKit
set_option maxRecDepth 100000 in
set_option maxHeartbeats 4000000 in
theorem plays_all (n : Int) (A : Option Addr) (l c : Nat) (ys : List Act) (w : World) (wn : (Lit.int .i64 n).wf = true) (h1 : ActsAt w A l ys) :
    Calls Try.prog 6 #[.int .i64 n, .slice A l c] w fun e w' => e = .returned (.bool true) ∧ Below w.heap.size w w' := by
  have haw := awake_any w
  by_cases hf : Fewish ys
  · by_cases hin : 1 ≤ n ∧ n ≤ 300
    · obtain ⟨N, rfl⟩ := Int.eq_ofNat_of_zero_le (show 0 ≤ n by omega)
      exact plays_law N A l c ys w h1 hf (by omega) (by omega)
    · have H1 := Lib.hid h1
      have HF := Lib.hid hf
      have c1 : ∀ w1, Below w.heap.size w w1 → _ := fun w1 hb => few_true A l c ys w1 (H1.out.below hb) HF.out
      rcases (show n < 1 ∨ (300 < n ∧ n ≤ 4096) ∨ 4096 < n by omega) with h | ⟨h, h'⟩ | h
      · have hno : ¬ 300 < n := by omega
        clear hin h1 hf
        go_enter Try.func6, Try.ntmps6
        go_wp2_with fail
        refine haw.mono ?_
        rintro e w1 ⟨rfl, hb1⟩
        have c2 := c1 w1 hb1
        clear c1
        go_wp2_with fail
        refine c2.mono ?_
        rintro e _ ⟨rfl, rfl⟩
        go_wp2_with fail
        refine (new_no n w1 (.inl h)).mono ?_
        rintro e _ ⟨rfl, rfl⟩
        go_wp2
        go_ret
        exact ⟨rfl, hb1⟩
      · clear hin h1 hf
        go_enter Try.func6, Try.ntmps6
        go_wp2_with fail
        refine haw.mono ?_
        rintro e w1 ⟨rfl, hb1⟩
        have c2 := c1 w1 hb1
        clear c1
        go_wp2_with fail
        refine c2.mono ?_
        rintro e _ ⟨rfl, rfl⟩
        go_wp2
        go_ret
        exact ⟨rfl, hb1⟩
      · have hno : ¬ n ≤ 4096 := by omega
        have hye : 300 < n := by omega
        have hge : ¬ n < 1 := by omega
        clear hin h1 hf
        go_enter Try.func6, Try.ntmps6
        go_wp2_with fail
        refine haw.mono ?_
        rintro e w1 ⟨rfl, hb1⟩
        have c2 := c1 w1 hb1
        clear c1
        go_wp2_with fail
        refine c2.mono ?_
        rintro e _ ⟨rfl, rfl⟩
        go_wp2_with fail
        refine (new_no n w1 (.inr h)).mono ?_
        rintro e _ ⟨rfl, rfl⟩
        go_wp2
        go_ret
        exact ⟨rfl, hb1⟩
  · have H1 := Lib.hid h1
    have HF := Lib.hid hf
    clear h1 hf
    go_enter Try.func6, Try.ntmps6
    go_wp2_with fail
    refine haw.mono ?_
    rintro e w1 ⟨rfl, hb1⟩
    go_wp2_with fail
    refine (few_false A l c ys w1 (H1.out.below hb1) HF.out).mono ?_
    rintro e _ ⟨rfl, rfl⟩
    go_wp2_with fail
    go_ret
    exact ⟨rfl, hb1⟩
end Go.Proofs.Ytolkofnlihbncaa
