/- Package words' law folder: awake, WordsParts. -/
import Derived.Test.YteklocejgbippaaDoorWrdE
set_option linter.unusedVariables false
set_option linter.unusedSimpArgs false
namespace Go.Proofs.YteklocejgbippaaDoor
open Go.RowKit
def wt1 : List UInt8 := [61, 63, 85, 84, 70, 45, 56, 63, 66, 63, 119, 54, 107, 61, 63, 61]
def wt2 : List UInt8 := [61, 63, 85, 84, 70, 45, 56, 63, 66, 63, 89, 81, 61, 61, 63, 61]
theorem ww1 : wEnc [195, 169] = wt1 := by rw [wEnc_one (by decide) (by decide)]; decide +kernel
theorem ww2 : wDec wt2 = none := by
  unfold wDec
  rw [show plainB wt2 = false by decide +kernel, show unws (spl wt2) = some [97] by decide +kernel]
  simp [show plainB [97] = true from rfl]
theorem ww3 : wEnc [104, 101, 108, 108, 111] = [104, 101, 108, 108, 111] := by
  unfold wEnc; rw [if_pos (by decide)]
theorem ww4 : wdStr wt1 = ⟨#[195, 169]⟩ ∧ wdCode wt1 = 0 := wd_some ((wDec_iff _ _).2 ww1.symm)
theorem ww5 : wdStr wt2 = ⟨#[]⟩ ∧ wdCode wt2 = 2 := wd_none ww2
set_option maxRecDepth 100000 in
set_option maxHeartbeats 4000000 in
theorem awake_any (w : World) (hm : MaxAt w) : Calls Tryd.prog 7 #[] w fun e w' => e = .returned (.bool true) ∧ Below w.heap.size w w' := by
  have c1 := wdecode_any ⟨#[61, 63, 85, 84, 70, 45, 56, 63, 66, 63, 119, 54, 107, 61, 63, 61]⟩ w hm (by decide)
  change Calls _ _ _ _ (fun e w' => e = .returned (.tuple #[.string (wdStr wt1), .int .i64 (wdCode wt1)]) ∧ Below w.heap.size w w') at c1
  rw [ww4.1, ww4.2] at c1
  have c2 := fun W hM => wdecode_any ⟨#[61, 63, 85, 84, 70, 45, 56, 63, 66, 63, 89, 81, 61, 61, 63, 61]⟩ W hM (by decide)
  change ∀ W, MaxAt W → Calls _ _ _ _ (fun e w' => e = .returned (.tuple #[.string (wdStr wt2), .int .i64 (wdCode wt2)]) ∧ Below W.heap.size W w') at c2
  rw [ww5.1, ww5.2] at c2
  have c3 := fun W hM => wencode_any ⟨#[104, 101, 108, 108, 111]⟩ W hM (by decide)
  change ∀ W, MaxAt W → Calls _ _ _ _ (fun e w' => e = .returned (.string ⟨(wEnc [104, 101, 108, 108, 111]).toArray⟩) ∧ Below W.heap.size W w') at c3
  rw [ww3] at c3
  have c4 := fun W hM => wencode_any ⟨#[195, 169]⟩ W hM (by decide)
  change ∀ W, MaxAt W → Calls _ _ _ _ (fun e w' => e = .returned (.string ⟨(wEnc [195, 169]).toArray⟩) ∧ Below W.heap.size W w') at c4
  rw [ww1] at c4
  have c5 := fun W hM => plain_any ⟨#[97, 32, 98]⟩ W hM (by decide)
  change ∀ W, MaxAt W → Calls _ _ _ _ (fun e w' => e = .returned (.bool (plainB [97, 32, 98])) ∧ W = w') at c5
  rw [show plainB [97, 32, 98] = true from rfl] at c5
  have c6 := fun W hM => plain_any ⟨#[61, 63]⟩ W hM (by decide)
  change ∀ W, MaxAt W → Calls _ _ _ _ (fun e w' => e = .returned (.bool (plainB [61, 63])) ∧ W = w') at c6
  rw [show plainB [61, 63] = false from rfl] at c6
  have HM := Lib.hid hm
  clear hm
  go_enter Tryd.func7, Tryd.ntmps7
  go_wp2_with fail
  refine c1.mono ?_
  rintro e w1 ⟨rfl, hb1⟩
  have H1 := Lib.hid hb1
  clear c1 hb1
  go_wp2_with fail
  refine (c2 w1 (HM.out.below (H1.out.mono (Nat.le_refl _)))).mono ?_
  rintro e w2 ⟨rfl, hb2⟩
  have H2 := Lib.hid (H1.out.trans (hb2.mono H1.out.size))
  clear c2 hb2
  go_wp2_with fail
  refine (c3 w2 (HM.out.below (H2.out.mono (Nat.le_refl _)))).mono ?_
  rintro e w3 ⟨rfl, hb3⟩
  have H3 := Lib.hid (H2.out.trans (hb3.mono H2.out.size))
  clear c3 hb3
  go_wp2_with fail
  refine (c4 w3 (HM.out.below (H3.out.mono (Nat.le_refl _)))).mono ?_
  rintro e w4 ⟨rfl, hb4⟩
  have H4 := Lib.hid (H3.out.trans (hb4.mono H3.out.size))
  clear c4 hb4
  go_wp2_with fail
  refine (c5 w4 (HM.out.below (H4.out.mono (Nat.le_refl _)))).mono ?_
  rintro e w4 ⟨rfl, rfl⟩
  clear c5
  go_wp2_with fail
  refine (c6 w4 (HM.out.below (H4.out.mono (Nat.le_refl _)))).mono ?_
  rintro e w4 ⟨rfl, rfl⟩
  clear c6
  go_wp2
  go_ret
  exact ⟨rfl, H4.out⟩
set_option maxRecDepth 100000 in
set_option maxHeartbeats 4000000 in
theorem parts_all (s t : ByteArray) (w : World) (hm : MaxAt w) (ws : s.size ≤ maxLen) (wt : t.size ≤ maxLen) :
    Calls Tryd.prog 6 #[.string s, .string t] w fun e w' => e = .returned (.bool true) ∧ Below w.heap.size w w' := by
  unfold maxLen at ws wt
  have c1 := awake_any w hm
  by_cases h1 : s.size ≤ 900 ∧ t.size ≤ 900
  · obtain ⟨hs, ht⟩ := h1
    obtain ⟨n, hn⟩ : ∃ n : Nat, n = s.size / 45 * 45 := ⟨_, rfl⟩
    have hni : (s.size : Int) / 45 * 45 = (n : Int) := by omega
    have hnb : (n : Int) ≤ s.size := by omega
    have hn0 : (0 : Int) ≤ (n : Int) := by omega
    obtain ⟨a, ha⟩ : ∃ a : ByteArray, s.extract 0 n = a := ⟨_, rfl⟩
    have haz : a.size = n := by rw [← ha, ByteArray.size_extract]; omega
    have hal := bsize a
    have htl := bsize t
    have c2 := fun W hM => plain_any a W hM (by omega)
    have c3 := fun W hM => plain_any t W hM (by omega)
    have hsi : (s.size : Int) ≤ 900 := by omega
    have hti : (t.size : Int) ≤ 900 := by omega
    have HM := Lib.hid hm
    have HNN := Lib.hid (And.intro hn (And.intro haz (And.intro hal htl)))
    clear hm hn haz hal htl
    by_cases hpa : plainB a.data.toList = true
    · rw [hpa] at c2
      clear c3
      go_enter Tryd.func6, Tryd.ntmps6
      go_wp2_with fail
      refine c1.mono ?_
      rintro e w1 ⟨rfl, hb1⟩
      have H1 := Lib.hid hb1
      clear c1 hb1
      go_wp2_with fail
      refine (c2 w1 (HM.out.below (H1.out.mono (Nat.le_refl _)))).mono ?_
      rintro e w1 ⟨rfl, rfl⟩
      clear c2
      go_wp2
      go_ret
      exact ⟨rfl, H1.out⟩
    · have hpa2 : plainB a.data.toList = false := by simpa using hpa
      rw [hpa2] at c2
      by_cases hpt : plainB t.data.toList = true
      · rw [hpt] at c3
        clear hpa hpa2
        go_enter Tryd.func6, Tryd.ntmps6
        go_wp2_with fail
        refine c1.mono ?_
        rintro e w1 ⟨rfl, hb1⟩
        have H1 := Lib.hid hb1
        clear c1 hb1
        go_wp2_with fail
        refine (c2 w1 (HM.out.below (H1.out.mono (Nat.le_refl _)))).mono ?_
        rintro e w1 ⟨rfl, rfl⟩
        clear c2
        go_wp2_with fail
        refine (c3 w1 (HM.out.below (H1.out.mono (Nat.le_refl _)))).mono ?_
        rintro e w1 ⟨rfl, rfl⟩
        clear c3
        go_wp2
        go_ret
        exact ⟨rfl, H1.out⟩
      · have hpt2 : plainB t.data.toList = false := by simpa using hpt
        rw [hpt2] at c3
        obtain ⟨hn, haz, hal, htl⟩ := HNN.out
        have hea := wEnc_app hpa2 hpt2 (by omega)
        have hae : (a.toList == []) = false := by rw [Lib.toList_data]; exact beq_false_of_ne (not_plain_ne hpa2)
        have hte : (t.toList == []) = false := by rw [Lib.toList_data]; exact beq_false_of_ne (not_plain_ne hpt2)
        have hEa := wEnc_len a.data.toList
        have hEt := wEnc_len t.data.toList
        have c4 := fun W hM => wencode_any a W hM (by omega)
        have c5 := fun W hM => wencode_any t W hM (by omega)
        obtain ⟨L, hL⟩ : ∃ L : ByteArray, L = ⟨(wEnc (a.data.toList ++ t.data.toList)).toArray⟩ := ⟨_, rfl⟩
        have hLl : L.data.toList = wEnc (a.data.toList ++ t.data.toList) := by rw [hL]
        have hLz : L.size ≤ 50000 := by
          have hq := congrArg List.length hLl
          have hq2 := wEnc_len (a.data.toList ++ t.data.toList)
          rw [List.length_append] at hq2
          rw [bsize] at hq
          omega
        have hcat : (⟨(wEnc a.data.toList).toArray⟩ : ByteArray) ++ ⟨#[32]⟩ ++ ⟨(wEnc t.data.toList).toArray⟩ = L := by
          rw [hL, hea]; apply ByteArray.ext; simp
        have hds := wd_some (show wDec L.data.toList = some (a.data.toList ++ t.data.toList) by rw [hLl]; exact wDec_enc _)
        have c6 := fun W hM => wdecode_any L W hM hLz
        rw [hds.1, hds.2, cat_ba] at c6
        have c7 := fun W hM => wencode_any (a ++ t) W hM (by rw [ByteArray.size_append]; omega)
        rw [show (a ++ t).data.toList = a.data.toList ++ t.data.toList by simp, ← hL] at c7
        have hE1 : ((⟨(wEnc a.data.toList).toArray⟩ : ByteArray).size : Int) ≤ 100000 := by rw [lsize]; omega
        have hE2 : ((⟨(wEnc t.data.toList).toArray⟩ : ByteArray).size : Int) ≤ 100000 := by rw [lsize]; omega
        have hai : (a.size : Int) ≤ 900 := by omega
        generalize (⟨(wEnc a.data.toList).toArray⟩ : ByteArray) = EA at *
        generalize (⟨(wEnc t.data.toList).toArray⟩ : ByteArray) = ET at *
        obtain ⟨U, hU⟩ : ∃ U, a ++ t = U := ⟨_, rfl⟩
        rw [hU] at c6 c7
        clear hpa hpa2 hpt hpt2 hn haz hal htl hea hL hLl hLz hds hEa hEt
        go_enter Tryd.func6, Tryd.ntmps6
        go_wp2_with fail
        refine c1.mono ?_
        rintro e w1 ⟨rfl, hb1⟩
        have H1 := Lib.hid hb1
        clear c1 hb1
        go_wp2_with fail
        refine (c2 w1 (HM.out.below (H1.out.mono (Nat.le_refl _)))).mono ?_
        rintro e w1 ⟨rfl, rfl⟩
        clear c2
        go_wp2_with fail
        refine (c3 w1 (HM.out.below (H1.out.mono (Nat.le_refl _)))).mono ?_
        rintro e w1 ⟨rfl, rfl⟩
        clear c3
        go_wp2_with fail
        refine (c4 w1 (HM.out.below (H1.out.mono (Nat.le_refl _)))).mono ?_
        rintro e w2 ⟨rfl, hb2⟩
        have H2 := Lib.hid (H1.out.trans (hb2.mono H1.out.size))
        clear hb2
        go_wp2_with fail
        refine (c5 w2 (HM.out.below (H2.out.mono (Nat.le_refl _)))).mono ?_
        rintro e w3 ⟨rfl, hb3⟩
        have H3 := Lib.hid (H2.out.trans (hb3.mono H2.out.size))
        clear hb3
        go_wp2_with fail
        refine (c6 w3 (HM.out.below (H3.out.mono (Nat.le_refl _)))).mono ?_
        rintro e w4 ⟨rfl, hb4⟩
        have H4 := Lib.hid (H3.out.trans (hb4.mono H3.out.size))
        clear c6 hb4
        go_wp2_with fail
        refine (c7 w4 (HM.out.below (H4.out.mono (Nat.le_refl _)))).mono ?_
        rintro e w5 ⟨rfl, hb5⟩
        have H5 := Lib.hid (H4.out.trans (hb5.mono H4.out.size))
        clear c7 hb5
        go_wp2_with fail
        refine (c4 w5 (HM.out.below (H5.out.mono (Nat.le_refl _)))).mono ?_
        rintro e w6 ⟨rfl, hb6⟩
        have H6 := Lib.hid (H5.out.trans (hb6.mono H5.out.size))
        clear c4 hb6
        go_wp2_with fail
        refine (c5 w6 (HM.out.below (H6.out.mono (Nat.le_refl _)))).mono ?_
        rintro e w7 ⟨rfl, hb7⟩
        have H7 := Lib.hid (H6.out.trans (hb7.mono H6.out.size))
        clear c5 hb7
        go_wp2
        go_ret
        exact ⟨rfl, H7.out⟩
  · rcases (show (900 : Int) < s.size ∨ ((s.size : Int) ≤ 900 ∧ (900 : Int) < t.size) by omega) with h | ⟨h, h'⟩
    all_goals
      clear h1 hm
      go_enter Tryd.func6, Tryd.ntmps6
      go_wp2_with fail
      refine c1.mono ?_
      rintro e w1 ⟨rfl, hb1⟩
      go_wp2
      go_ret
      exact ⟨rfl, hb1⟩
end Go.Proofs.YteklocejgbippaaDoor
