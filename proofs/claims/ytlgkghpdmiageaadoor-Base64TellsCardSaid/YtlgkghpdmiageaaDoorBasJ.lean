/- Package base64's law folder: Base64Parts, Base64Back. -/
import Derived.Test.YtlgkghpdmiageaaDoorBasI
set_option linter.unusedVariables false
set_option linter.unusedSimpArgs false
namespace Go.Proofs.YtlgkghpdmiageaaDoor
open Go.RowKit
theorem decStr_some {s o : List UInt8} (h : dec s = some o) : decStr s = ⟨o.toArray⟩ ∧ decCode s = 0 ∧ decLen s = o.length := by unfold decStr decCode decLen; rw [h]; exact ⟨rfl, rfl, rfl⟩
theorem decStr_none {s : List UInt8} (h : dec s = none) : decStr s = ⟨#[]⟩ ∧ decCode s = 2 ∧ decLen s = 0 := by unfold decStr decCode decLen; rw [h]; exact ⟨rfl, rfl, rfl⟩
theorem cat_ba (a t : ByteArray) : (⟨(a.data.toList ++ t.data.toList).toArray⟩ : ByteArray) = a ++ t := by
  apply ByteArray.ext; simp
theorem cat_ll (a t : List UInt8) : (⟨a.toArray⟩ : ByteArray) ++ (⟨t.toArray⟩ : ByteArray) = ⟨(a ++ t).toArray⟩ := by
  apply ByteArray.ext; simp
set_option maxRecDepth 100000 in
set_option maxHeartbeats 4000000 in
theorem parts_all (s t : ByteArray) (w : World) (hm : MaxAt w) (ws : s.size ≤ maxLen) (wt : t.size ≤ maxLen) :
    Calls Tryd.prog 5 #[.string s, .string t] w fun e w' => e = .returned (.bool true) ∧ Below w.heap.size w w' := by
  unfold maxLen at ws wt
  have c1 := awake_any w hm
  clear hm
  by_cases h1 : s.size ≤ 2000 ∧ t.size ≤ 2000
  · obtain ⟨hs, ht⟩ := h1
    obtain ⟨n, hn⟩ : ∃ n : Nat, n = s.size / 3 * 3 := ⟨_, rfl⟩
    have hni : (s.size : Int) / 3 * 3 = (n : Int) := by omega
    have hnb : (n : Int) ≤ s.size := by omega
    have hn0 : (0 : Int) ≤ (n : Int) := by omega
    obtain ⟨a, ha⟩ : ∃ a : ByteArray, s.extract 0 n = a := ⟨_, rfl⟩
    have haz : a.size = n := by rw [← ha, ByteArray.size_extract]; omega
    have hal := bsize a
    have hea := enc_app a.data.toList t.data.toList (by omega)
    have c2 := fun W => encode_any a W (by omega)
    have c3 := fun W => encode_any t W (by omega)
    have hcat := cat_ll (enc a.data.toList) (enc t.data.toList)
    rw [← hea] at hcat
    obtain ⟨L, hL⟩ : ∃ L : ByteArray, L = ⟨(enc (a.data.toList ++ t.data.toList)).toArray⟩ := ⟨_, rfl⟩
    rw [← hL] at hcat
    have hLl : L.data.toList = enc (a.data.toList ++ t.data.toList) := by rw [hL]
    have hLz : L.size ≤ 1000000 := by
      have hq := congrArg List.length hLl
      have htz := bsize t
      rw [enc_len, List.length_append, bsize] at hq
      omega
    have hds := decStr_some (show dec L.data.toList = some (a.data.toList ++ t.data.toList) by rw [hLl]; exact dec_enc _)
    have c4 := fun W => decode_any L W hLz
    rw [hds.1, hds.2.1, cat_ba] at c4
    have c5 := fun W => encode_any (a ++ t) W (by rw [ByteArray.size_append]; omega)
    rw [show (a ++ t).data.toList = a.data.toList ++ t.data.toList by simp, ← hL] at c5
    have hsi : (s.size : Int) ≤ 2000 := by omega
    have hti : (t.size : Int) ≤ 2000 := by omega
    have hai : (a.size : Int) ≤ 2000 := by omega
    have hE1 : ((⟨(enc a.data.toList).toArray⟩ : ByteArray).size : Int) ≤ 1000000 := by rw [lsize, enc_len]; omega
    have hE2 : ((⟨(enc t.data.toList).toArray⟩ : ByteArray).size : Int) ≤ 1000000 := by rw [lsize, enc_len, bsize]; omega
    generalize (⟨(enc a.data.toList).toArray⟩ : ByteArray) = EA at *
    generalize (⟨(enc t.data.toList).toArray⟩ : ByteArray) = ET at *
    obtain ⟨U, hU⟩ : ∃ U, a ++ t = U := ⟨_, rfl⟩
    rw [hU] at c4 c5
    clear hn hea hL hLl hLz hds hal haz
    go_enter Tryd.func5, Tryd.ntmps5
    go_wp2_with fail
    refine c1.mono ?_
    rintro e w1 ⟨rfl, hb1⟩
    have H1 := Lib.hid hb1
    clear c1 hb1
    go_wp2_with fail
    refine (c2 w1).mono ?_
    rintro e w2 ⟨rfl, hb2⟩
    have H2 := Lib.hid (H1.out.trans (hb2.mono H1.out.size))
    clear c2 hb2
    go_wp2_with fail
    refine (c3 w2).mono ?_
    rintro e w3 ⟨rfl, hb3⟩
    have H3 := Lib.hid (H2.out.trans (hb3.mono H2.out.size))
    clear c3 hb3
    go_wp2_with fail
    refine (c4 w3).mono ?_
    rintro e w4 ⟨rfl, hb4⟩
    have H4 := Lib.hid (H3.out.trans (hb4.mono H3.out.size))
    clear c4 hb4
    go_wp2_with fail
    refine (c5 w4).mono ?_
    rintro e w5 ⟨rfl, hb5⟩
    have H5 := Lib.hid (H4.out.trans (hb5.mono H4.out.size))
    clear c5 hb5
    go_wp2
    go_ret
    exact ⟨rfl, H5.out⟩
  · rcases (show (2000 : Int) < s.size ∨ ((s.size : Int) ≤ 2000 ∧ (2000 : Int) < t.size) by omega) with h | ⟨h, h'⟩
    all_goals
      clear h1
      go_enter Tryd.func5, Tryd.ntmps5
      go_wp2_with fail
      refine c1.mono ?_
      rintro e w1 ⟨rfl, hb1⟩
      go_wp2
      go_ret
      exact ⟨rfl, hb1⟩
set_option maxRecDepth 100000 in
set_option maxHeartbeats 4000000 in
theorem back_all (s t : ByteArray) (w : World) (hm : MaxAt w) (ws : s.size ≤ maxLen) (wt : t.size ≤ maxLen) :
    Calls Tryd.prog 4 #[.string s, .string t] w fun e w' => e = .returned (.bool true) ∧ Below w.heap.size w w' := by
  unfold maxLen at ws wt
  have c1 := awake_any w hm
  by_cases h1 : s.size ≤ 3000 ∧ t.size ≤ 3000
  · obtain ⟨hs, ht⟩ := h1
    have hsz := bsize s
    have c2 := fun W => encode_any s W (by omega)
    have c3 := fun W => fold_any s W (by omega)
    rw [foldL_R] at c3
    obtain ⟨L, hL⟩ : ∃ L : ByteArray, L = ⟨(enc s.data.toList).toArray⟩ := ⟨_, rfl⟩
    obtain ⟨M, hM⟩ : ∃ M : ByteArray, M = ⟨(foldR (enc s.data.toList)).toArray⟩ := ⟨_, rfl⟩
    have hLl : L.data.toList = enc s.data.toList := by rw [hL]
    have hMl : M.data.toList = foldR (enc s.data.toList) := by rw [hM]
    obtain ⟨n, hn⟩ : ∃ n : Nat, n = (s.size + 2) / 3 * 4 := ⟨_, rfl⟩
    have hni : ((s.size : Int) + 2) / 3 * 4 = (n : Int) := by omega
    have hLz : L.size = n := by
      have hq := congrArg List.length hLl
      rw [enc_len, bsize, hsz] at hq; omega
    have hMz : M.size = n + 2 * ((n + 75) / 76) := by
      have hq := congrArg List.length hMl
      rw [foldR_len, enc_len, bsize, hsz, ← hn] at hq; exact hq
    have hnb : (n : Int) ≤ 4100 := by omega
    have hn0 : (0 : Int) ≤ (n : Int) := by omega
    have hMi : (M.size : Int) = (n : Int) + 2 * (((n : Int) + 75) / 76) := by omega
    have hLi : (L.size : Int) = (n : Int) := by omega
    have hds := decStr_some (show dec L.data.toList = some s.data.toList by rw [hLl]; exact dec_enc _)
    have c4 := fun W => decode_any L W (by omega)
    rw [hds.1, hds.2.1, show (⟨s.data.toList.toArray⟩ : ByteArray) = s from rfl] at c4
    have c5 := fun W hm => unfold_any M W hm (by omega)
    have hus : unfStr M.data.toList = s ∧ unfCode M.data.toList = 0 := by
      unfold unfStr unfCode; rw [hMl, unf_fold]; exact ⟨rfl, rfl⟩
    rw [hus.1, hus.2] at c5
    rw [← hL] at c2
    rw [← hM] at c3
    have c6 := fun W => decode_any t W (by omega)
    have hsi : (s.size : Int) ≤ 3000 := by omega
    have hti : (t.size : Int) ≤ 3000 := by omega
    have HM := Lib.hid hm
    have hd : (∃ o : ByteArray, dec t.data.toList = some o.data.toList ∧ o.size ≤ 1000000) ∨ dec t.data.toList = none := by
      cases hd : dec t.data.toList with
      | none => exact .inr rfl
      | some o =>
        left
        have h1 := (dec_iff _ _).1 hd
        have h2 := congrArg List.length h1
        rw [enc_len, bsize] at h2
        exact ⟨⟨o.toArray⟩, rfl, by rw [lsize]; omega⟩
    clear hn hLz hMz hL hM hLl hMl hds hus hm
    have HR := Lib.hid hd
    clear hd
    go_enter Tryd.func4, Tryd.ntmps4
    go_wp2_with fail
    refine c1.mono ?_
    rintro e w1 ⟨rfl, hb1⟩
    have H1 := Lib.hid hb1
    clear c1 hb1
    go_wp2_with fail
    refine (c2 w1).mono ?_
    rintro e w2 ⟨rfl, hb2⟩
    have H2 := Lib.hid (H1.out.trans (hb2.mono H1.out.size))
    clear hb2
    go_wp2_with fail
    refine (c3 w2).mono ?_
    rintro e w3 ⟨rfl, hb3⟩
    have H3 := Lib.hid (H2.out.trans (hb3.mono H2.out.size))
    clear c3 hb3 c2
    go_wp2_with fail
    refine (c4 w3).mono ?_
    rintro e w4 ⟨rfl, hb4⟩
    have H4 := Lib.hid (H3.out.trans (hb4.mono H3.out.size))
    clear c4 hb4
    go_wp2_with fail
    refine (c5 w4 (HM.out.below (H4.out.mono (Nat.le_refl _)))).mono ?_
    rintro e w5 ⟨rfl, hb5⟩
    have H5 := Lib.hid (H4.out.trans (hb5.mono H4.out.size))
    clear c5 hb5
    rcases HR.out with ⟨o, ho, hoz⟩ | ho
    · have ho2 := decStr_some ho
      rw [ho2.1, ho2.2.1, show (⟨o.data.toList.toArray⟩ : ByteArray) = o from rfl] at c6
      have c7 := fun W => encode_any o W hoz
      have hte : (⟨(enc o.data.toList).toArray⟩ : ByteArray) = t := by rw [← (dec_iff _ _).1 ho]
      rw [hte] at c7
      clear ho ho2 hte HR
      go_wp2_with fail
      refine (c6 w5).mono ?_
      rintro e w6 ⟨rfl, hb6⟩
      have H6 := Lib.hid (H5.out.trans (hb6.mono H5.out.size))
      clear c6 hb6
      go_wp2_with fail
      refine (c7 w6).mono ?_
      rintro e w7 ⟨rfl, hb7⟩
      have H7 := Lib.hid (H6.out.trans (hb7.mono H6.out.size))
      clear c7 hb7
      go_wp2
      go_ret
      exact ⟨rfl, H7.out⟩
    · have ho2 := decStr_none ho
      rw [ho2.1, ho2.2.1] at c6
      clear ho ho2 HR
      go_wp2_with fail
      refine (c6 w5).mono ?_
      rintro e w6 ⟨rfl, hb6⟩
      have H6 := Lib.hid (H5.out.trans (hb6.mono H5.out.size))
      clear c6 hb6
      go_wp2
      go_ret
      exact ⟨rfl, H6.out⟩
  · rcases (show (3000 : Int) < s.size ∨ ((s.size : Int) ≤ 3000 ∧ (3000 : Int) < t.size) by omega) with h | ⟨h, h'⟩
    all_goals
      clear h1 hm
      go_enter Tryd.func4, Tryd.ntmps4
      go_wp2_with fail
      refine c1.mono ?_
      rintro e w1 ⟨rfl, hb1⟩
      go_wp2
      go_ret
      exact ⟨rfl, hb1⟩
end Go.Proofs.YtlgkghpdmiageaaDoor
