/- Package base64's law folder: Base64Tells. -/
import Derived.Test.YtlgkghpdmiageaaDoorBasU
set_option linter.unusedVariables false
set_option linter.unusedSimpArgs false
namespace Go.Proofs.YtlgkghpdmiageaaDoor
open Go.RowKit
set_option maxRecDepth 100000 in
set_option maxHeartbeats 4000000 in
theorem tells_all (s t : ByteArray) (w : World) (hm : MaxAt w) (ws : s.size ≤ maxLen) (wt : t.size ≤ maxLen) :
    Calls Tryd.prog 3 #[.string s, .string t] w fun e w' => e = .returned (.bool true) ∧ Below w.heap.size w w' := by
  unfold maxLen at ws wt
  have c1 := awake_any w hm
  by_cases h1 : s.size ≤ 2000 ∧ t.size ≤ 2000
  · obtain ⟨hs, ht⟩ := h1
    have c2 := fun W => decode_any t W (by omega)
    have c3 := fun W => refdec_any t W (by omega)
    have c4 := fun W hm => unfold_any t W hm (by omega)
    have c5 := fun W => refunfold_any t W (by omega)
    have c6 := fun W => encode_any s W (by omega)
    have c7 := fun W => refenc_any s W (by omega)
    have c8 := fun W => fold_any s W (by omega)
    have c9 := fun W => reffold_any s W (by omega)
    rw [foldL_R] at c8
    generalize decStr t.data.toList = X at *
    generalize decCode t.data.toList = Y at *
    generalize unfStr t.data.toList = U at *
    generalize unfCode t.data.toList = V at *
    generalize (⟨(enc s.data.toList).toArray⟩ : ByteArray) = E at *
    generalize (⟨(foldR (enc s.data.toList)).toArray⟩ : ByteArray) = F at *
    have hsi : (s.size : Int) ≤ 2000 := by omega
    have hti : (t.size : Int) ≤ 2000 := by omega
    have HM := Lib.hid hm
    clear hm
    go_enter Tryd.func3, Tryd.ntmps3
    go_wp2_with fail
    refine c1.mono ?_
    rintro e w1 ⟨rfl, hb1⟩
    have H1 := Lib.hid hb1
    clear c1 hb1
    go_wp2_with fail
    refine (c2 w1).mono ?_
    rintro e w2 ⟨rfl, hb2⟩
    have H2 := Lib.hid (H1.out.trans (hb2.mono H1.out.size))
    clear c2 hb2
    go_wp2_with fail
    refine (c3 w2).mono ?_
    rintro e w3 ⟨rfl, hb3⟩
    have H3 := Lib.hid (H2.out.trans (hb3.mono H2.out.size))
    clear c3 hb3
    go_wp2_with fail
    refine (c4 w3 (HM.out.below (H3.out.mono (Nat.le_refl _)))).mono ?_
    rintro e w4 ⟨rfl, hb4⟩
    have H4 := Lib.hid (H3.out.trans (hb4.mono H3.out.size))
    clear c4 hb4
    go_wp2_with fail
    refine (c5 w4).mono ?_
    rintro e w5 ⟨rfl, hb5⟩
    have H5 := Lib.hid (H4.out.trans (hb5.mono H4.out.size))
    clear c5 hb5
    go_wp2_with fail
    refine (c6 w5).mono ?_
    rintro e w6 ⟨rfl, hb6⟩
    have H6 := Lib.hid (H5.out.trans (hb6.mono H5.out.size))
    clear c6 hb6
    go_wp2_with fail
    refine (c7 w6).mono ?_
    rintro e w7 ⟨rfl, hb7⟩
    have H7 := Lib.hid (H6.out.trans (hb7.mono H6.out.size))
    clear c7 hb7
    go_wp2_with fail
    refine (c8 w7).mono ?_
    rintro e w8 ⟨rfl, hb8⟩
    have H8 := Lib.hid (H7.out.trans (hb8.mono H7.out.size))
    clear c8 hb8
    go_wp2_with fail
    refine (c9 w8).mono ?_
    rintro e w9 ⟨rfl, hb9⟩
    have H9 := Lib.hid (H8.out.trans (hb9.mono H8.out.size))
    clear c9 hb9
    go_wp2
    go_ret
    exact ⟨rfl, H9.out⟩
  · rcases (show (2000 : Int) < s.size ∨ ((s.size : Int) ≤ 2000 ∧ (2000 : Int) < t.size) by omega) with h | ⟨h, h'⟩
    all_goals
      clear h1 hm
      go_enter Tryd.func3, Tryd.ntmps3
      go_wp2_with fail
      refine c1.mono ?_
      rintro e w1 ⟨rfl, hb1⟩
      go_wp2
      go_ret
      exact ⟨rfl, hb1⟩
end Go.Proofs.YtlgkghpdmiageaaDoor
