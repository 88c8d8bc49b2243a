/- Package words' law folder: WordsTell. -/
import Derived.Test.YteklocejgbippaaDoorWrdG
import Derived.Test.YteklocejgbippaaDoorWrdR
set_option linter.unusedVariables false
set_option linter.unusedSimpArgs false
namespace Go.Proofs.YteklocejgbippaaDoor
open Go.RowKit
set_option maxRecDepth 100000 in
set_option maxHeartbeats 4000000 in
theorem tell_all (s t : ByteArray) (w : World) (hm : MaxAt w) (ws : s.size ≤ maxLen) (wt : t.size ≤ maxLen) :
    Calls Tryd.prog 3 #[.string s, .string t] w fun e w' => e = .returned (.bool true) ∧ Below w.heap.size w w' := by
  unfold maxLen at ws wt
  have c1 := awake_any w hm
  by_cases h1 : s.size ≤ 1000 ∧ t.size ≤ 2000
  · obtain ⟨hs, ht⟩ := h1
    have c2 := fun W hM => wdecode_any t W hM (by omega)
    have c3 := fun W => refwdec_any t W (by omega)
    have c4 := fun W hM => wencode_any s W hM (by omega)
    have c5 := fun W => refwenc_any s W (by omega)
    have c6 := fun W hM => plain_any s W hM (by omega)
    have c7 := fun W => refplain_any s W (by omega)
    generalize wdStr t.data.toList = X at *
    generalize wdCode t.data.toList = Y at *
    generalize (⟨(wEnc s.data.toList).toArray⟩ : ByteArray) = E at *
    generalize plainB s.data.toList = P at *
    have hsi : (s.size : Int) ≤ 1000 := by omega
    have hti : (t.size : Int) ≤ 2000 := by omega
    have HM := Lib.hid hm
    clear hm
    go_enter Tryd.func3, Tryd.ntmps3
    go_wp2_with fail
    refine c1.mono ?_
    rintro e w1 ⟨rfl, hb1⟩
    have H1 := Lib.hid hb1
    clear c1 hb1
    go_wp2_with fail
    refine (c2 w1 (HM.out.below (H1.out.mono (Nat.le_refl _)))).mono ?_
    rintro e w2 ⟨rfl, hb2⟩
    have H2 := Lib.hid (H1.out.trans (hb2.mono H1.out.size))
    clear c2 hb2
    go_wp2_with fail
    refine (c3 w2).mono ?_
    rintro e w3 ⟨rfl, hb3⟩
    have H3 := Lib.hid (H2.out.trans (hb3.mono H2.out.size))
    clear c3 hb3
    go_wp2_with fail
    refine (c4 w3 (HM.out.below (H3.out.mono (Nat.le_refl _)))).mono ?_
    rintro e w4 ⟨rfl, hb4⟩
    have H4 := Lib.hid (H3.out.trans (hb4.mono H3.out.size))
    clear c4 hb4
    go_wp2_with fail
    refine (c5 w4).mono ?_
    rintro e w5 ⟨rfl, hb5⟩
    have H5 := Lib.hid (H4.out.trans (hb5.mono H4.out.size))
    clear c5 hb5
    go_wp2_with fail
    refine (c6 w5 (HM.out.below (H5.out.mono (Nat.le_refl _)))).mono ?_
    rintro e w5 ⟨rfl, rfl⟩
    clear c6
    go_wp2_with fail
    refine (c7 w5).mono ?_
    rintro e w5 ⟨rfl, rfl⟩
    clear c7
    go_wp2
    go_ret
    exact ⟨rfl, H5.out⟩
  · rcases (show (1000 : Int) < s.size ∨ ((s.size : Int) ≤ 1000 ∧ (2000 : Int) < t.size) by omega) with h | ⟨h, h'⟩
    all_goals
      clear h1 hm
      go_enter Tryd.func3, Tryd.ntmps3
      go_wp2_with fail
      refine c1.mono ?_
      rintro e w1 ⟨rfl, hb1⟩
      go_wp2
      go_ret
      exact ⟨rfl, hb1⟩
end Go.Proofs.YteklocejgbippaaDoor
