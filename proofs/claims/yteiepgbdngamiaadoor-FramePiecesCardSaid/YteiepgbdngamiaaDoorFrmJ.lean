/- Package frame's law folder: FrameStuffs, FrameBack. -/
import Derived.Test.YteiepgbdngamiaaDoorFrmI
set_option linter.unusedVariables false
set_option linter.unusedSimpArgs false
namespace Go.Proofs.YteiepgbdngamiaaDoor
open Go.RowKit
theorem bytesL_inj {a b : List ByteArray} (h : bytesL a = bytesL b) : a = b := by
  unfold bytesL at h
  refine List.map_inj_right (fun x y e => ?_) |>.1 h
  apply ByteArray.ext; apply Array.ext'; exact e
set_option maxRecDepth 100000 in
set_option maxHeartbeats 2000000 in
theorem stuffs_all (s t : ByteArray) (w : World) (hm : MaxAt w) (ws : s.size ≤ maxLen) (wt : t.size ≤ maxLen) :
    Calls Tryd.prog 5 #[.string s, .string t] w fun e w' => e = .returned (.bool true) ∧ Below w.heap.size w w' := by
  unfold maxLen at ws wt
  have HM := Lib.hid hm
  have c1 := awake_any w hm
  clear hm
  by_cases h1 : s.size ≤ 3000 ∧ t.size ≤ 3000
  · obtain ⟨hs, ht⟩ := h1
    have c2 := fun W (h : MaxAt W) => lines_any s W (by omega) h
    have c3 := fun W => reflines_any s W (by omega)
    have c4 := fun W (h : MaxAt W) => stuff_any s W (by omega) h
    have c5 := fun W => refstuff_any s W (by omega)
    have c6 := fun W (h : MaxAt W) => unstuff_any t W (by omega) h
    have c7 := fun W => refunstuff_any t W (by omega)
    unfold StuffPost at c4 c5
    unfold UnPost at c6 c7
    generalize (⟨(stuffV s.data.toList).toArray⟩ : ByteArray) = sv at *
    generalize (⟨(unT t.data.toList).toArray⟩ : ByteArray) = ut at *
    generalize (⟨(unR t.data.toList).toArray⟩ : ByteArray) = ur at *
    generalize unC t.data.toList = uc at *
    go_enter Tryd.func5, Tryd.ntmps5
    go_wp2_with fail
    refine c1.mono ?_
    rintro e w1 ⟨rfl, hb1⟩
    go_wp2_with fail
    refine (c2 w1 (HM.out.up hb1)).mono ?_
    rintro e w2 ⟨v2, ls, rfl, hsv2, hls, hb2⟩
    replace hb2' := hb1.trans (hb2.mono hb1.size)
    obtain ⟨ao2, cap2, rfl, hc21, hc22⟩ := hsv2.shape
    clear hb1 c2 c1
    go_wp2_with fail
    refine (c3 w2).mono ?_
    rintro e w3 ⟨v3, ms, rfl, hsv3, hms, hb3⟩
    replace hb3' := hb2'.trans (hb3.mono hb2'.size)
    obtain ⟨ao3, cap3, rfl, hc31, hc32⟩ := hsv3.shape
    obtain rfl : ls = ms := bytesL_inj (hls.trans hms.symm)
    have hsv23 := hsv2.below hb3
    have hfew := lines_few hls
    have hsz := bsize s
    generalize linesC s.data.toList = lc at *
    clear hb2 hb3 hb2' hsv2 hls hms c3
    go_wp2_with fail
    refine (c4 w3 (HM.out.up hb3')).mono ?_
    rintro e w4 ⟨rfl, hb4⟩
    replace hsv23 := hsv23.below hb4
    replace hsv3 := hsv3.below hb4
    replace hb4 := hb3'.trans (hb4.mono hb3'.size)
    clear hb3' c4
    go_wp2_with fail
    refine (c5 w4).mono ?_
    rintro e w5 ⟨rfl, hb5⟩
    replace hsv23 := hsv23.below hb5
    replace hsv3 := hsv3.below hb5
    replace hb5 := hb4.trans (hb5.mono hb4.size)
    clear hb4 c5
    go_wp2_with fail
    refine (c6 w5 (HM.out.up hb5)).mono ?_
    rintro e w6 ⟨rfl, hb6⟩
    replace hsv23 := hsv23.below hb6
    replace hsv3 := hsv3.below hb6
    replace hb6 := hb5.trans (hb6.mono hb5.size)
    clear hb5 c6
    go_wp2_with fail
    refine (c7 w6).mono ?_
    rintro e w7 ⟨rfl, hb7⟩
    replace hsv23 := hsv23.below hb7
    replace hsv3 := hsv3.below hb7
    replace hb7 := hb6.trans (hb7.mono hb6.size)
    clear hb6 c7
    have HV := Lib.hid (And.intro hsv23 (And.intro hsv3 hb7))
    obtain ⟨N, hN⟩ : ∃ N, N = ls.length := ⟨_, rfl⟩
    rw [← hN] at hc21 hc31 hfew ⊢
    have HN := Lib.hid hN
    clear hsv23 hsv3 hb7 hN
    go_wp2
    go_loopw [19] (fun i wr => ∃ (k n : Nat), k ≤ N ∧ i = .int .i64 k ∧ wr = w7.drewN n) (fun i _ => N - (intOf i).toNat)
    case atStart => exact ⟨0, 0, Nat.zero_le _, rfl, rfl⟩
    case round =>
      obtain ⟨k, n, hk, rfl, rfl⟩ := hrel
      have hk0 : (0 : Int) ≤ k := by omega
      by_cases hlt : k < N
      · have hkl : k < ls.length := by rw [← HN.out]; exact hlt
        have hk1 : (k : Int) < N := by omega
        obtain ⟨g2, rfl, q2⟩ := HV.out.1.cell hkl
        obtain ⟨g3, rfl, q3⟩ := HV.out.2.1.cell hkl
        generalize ls[k] = x at *
        go_wp2
        go_quiet (fail)
        go_wp2
        go_roundw
        case rel => exact ⟨k + 1, n + nq, by omega, by go_num, by first | rfl | rw [World.drewN_drewN]⟩
        case measure => simp [intOf]; omega
      · obtain rfl : k = N := by omega
        go_wp2
        go_ret
        exact ⟨rfl, Below.drewN' HV.out.2.2 _⟩
  · rcases (show (3000 : Int) < s.size ∨ ((s.size : Int) ≤ 3000 ∧ (3000 : Int) < t.size) by omega) with h | ⟨h, h'⟩
    all_goals
      clear h1
      go_enter Tryd.func5, Tryd.ntmps5
      go_wp2_with fail
      refine c1.mono ?_
      rintro e w1 ⟨rfl, hb1⟩
      go_wp2
      go_ret
      exact ⟨rfl, hb1⟩
theorem back_dot {s : List UInt8} {ls : List ByteArray} (h : bytesL ls = (initL s).map dotB ++ [[46]]) {k : Nat} (hk : k < ls.length) : (k + 1 = ls.length ∧ ls[k].data.toList = [46]) ∨ (k + 1 < ls.length ∧ ls[k].data.toList ≠ [46]) := by
  have hl : ls.length = (initL s).length + 1 := by
    have := congrArg List.length h
    simpa [bytesL] using this
  have hg : ls[k].data.toList = ((initL s).map dotB ++ [[46]])[k]'(by simp; omega) := by
    have : (bytesL ls)[k]'(by simp [bytesL]; exact hk) = ls[k].data.toList := by simp only [bytesL, List.getElem_map]
    rw [← this]
    simp only [h]
  rcases (show k + 1 = ls.length ∨ k + 1 < ls.length by omega) with e | e
  · left
    refine ⟨e, ?_⟩
    rw [hg, List.getElem_append_right (by simp; omega)]
    simp
  · right
    refine ⟨e, ?_⟩
    rw [hg, List.getElem_append_left (by simp; omega), List.getElem_map]
    exact dotB_ne _
set_option maxRecDepth 100000 in
set_option maxHeartbeats 2000000 in
theorem back_all (s t : ByteArray) (w : World) (hm : MaxAt w) (ws : s.size ≤ maxLen) (wt : t.size ≤ maxLen) :
    Calls Tryd.prog 6 #[.string s, .string t] w fun e w' => e = .returned (.bool true) ∧ Below w.heap.size w w' := by
  unfold maxLen at ws wt
  have HM := Lib.hid hm
  have c1 := awake_any w hm
  clear hm
  by_cases h1 : s.size ≤ 3000 ∧ t.size ≤ 3000
  · obtain ⟨hs, ht⟩ := h1
    have c2 := fun W (h : MaxAt W) => stuff_any s W (by omega) h
    unfold StuffPost at c2
    by_cases hr : restL s.data.toList = []
    · rw [lc_yes hr] at c2
      have hsl := stuffV_len s.data.toList
      have hsz := bsize s
      have hxs : (⟨(stuffV s.data.toList).toArray⟩ : ByteArray).size ≤ 6003 := by rw [lsize]; omega
      have hxt : ((⟨(stuffV s.data.toList).toArray⟩ : ByteArray) ++ t).size ≤ 1000000 := by rw [ByteArray.size_append]; omega
      have hxd : ((⟨(stuffV s.data.toList).toArray⟩ : ByteArray) ++ t).data.toList = stuffV s.data.toList ++ t.data.toList := by simp
      have hun := back_un s.data.toList t.data.toList hr
      have hli := back_lines s.data.toList hr
      have c3 := fun W (h : MaxAt W) => unstuff_any ((⟨(stuffV s.data.toList).toArray⟩ : ByteArray) ++ t) W hxt h
      unfold UnPost at c3
      rw [hxd, hun.1, hun.2.1, hun.2.2] at c3
      have es : (⟨s.data.toList.toArray⟩ : ByteArray) = s := rfl
      have et : (⟨t.data.toList.toArray⟩ : ByteArray) = t := rfl
      rw [es, et] at c3
      have c4 := fun W (h : MaxAt W) => lines_any ⟨(stuffV s.data.toList).toArray⟩ W (by omega) h
      have hlp : ∀ W e W', LinesPost (⟨(stuffV s.data.toList).toArray⟩ : ByteArray).data.toList W e W' → ∃ v ls, e = .returned (.tuple #[v, .int .i64 0]) ∧ SV W' W.heap.size v ls ∧ bytesL ls = (initL s.data.toList).map dotB ++ [[46]] ∧ Below W.heap.size W W' := by
        rintro W e W' ⟨v, ls, h1, h2, h3, h4⟩
        rw [show (⟨(stuffV s.data.toList).toArray⟩ : ByteArray).data.toList = stuffV s.data.toList from rfl, hli.1] at h1
        rw [show (⟨(stuffV s.data.toList).toArray⟩ : ByteArray).data.toList = stuffV s.data.toList from rfl, hli.2] at h3
        exact ⟨v, ls, h1, h2, h3, h4⟩
      have c5 := fun W (h : MaxAt W) => (c4 W h).mono fun e W' hh => hlp W e W' hh
      have hnl : (initL s.data.toList).length ≤ 3001 := by
        have := (lns_sum s.data.toList).2
        unfold initL; simp; omega
      clear hsl hsz hxt hxd hun hli c4 hlp hr es et
      generalize (⟨(stuffV s.data.toList).toArray⟩ : ByteArray) = x at *
      go_enter Tryd.func6, Tryd.ntmps6
      go_wp2_with fail
      refine c1.mono ?_
      rintro e w1 ⟨rfl, hb1⟩
      go_wp2_with fail
      refine (c2 w1 (HM.out.up hb1)).mono ?_
      rintro e w2 ⟨rfl, hb2⟩
      replace hb2 := hb1.trans (hb2.mono hb1.size)
      clear hb1 c2 c1
      go_wp2_with fail
      refine (c3 w2 (HM.out.up hb2)).mono ?_
      rintro e w3 ⟨rfl, hb3⟩
      replace hb3 := hb2.trans (hb3.mono hb2.size)
      clear hb2 c3
      go_wp2_with fail
      refine (c5 w3 (HM.out.up hb3)).mono ?_
      rintro e w4 ⟨v4, ls, rfl, hsv, hls, hb4⟩
      replace hb4 := hb3.trans (hb4.mono hb3.size)
      obtain ⟨ao, cap, rfl, hc1, hc2⟩ := hsv.shape
      have hlen : ls.length = (initL s.data.toList).length + 1 := by
        have := congrArg List.length hls
        simpa [bytesL] using this
      have HBD : Hid (∀ k (hk : k < ls.length), (k + 1 = ls.length ∧ ls[k].data.toList = [46]) ∨ (k + 1 < ls.length ∧ ls[k].data.toList ≠ [46])) := fun k hk => back_dot hls hk
      have HSV := Lib.hid hsv
      have HB4 := Lib.hid hb4
      obtain ⟨N, hN⟩ : ∃ N, N = ls.length := ⟨_, rfl⟩
      rw [← hN] at hc1 hlen ⊢
      have HN := Lib.hid hN
      have hne : ((N : Int) == 0) = false := by rw [beq_eq_false_iff_ne]; omega
      have hNb : (N : Int) ≤ 3002 := by omega
      clear hb3 c5 hsv hls hb4 hN hlen hnl
      go_wp2
      go_loop [12] (fun i => ∃ k : Nat, k ≤ N ∧ i = .int .i64 k) (fun i => N - (intOf i).toNat)
      case atStart => exact ⟨0, Nat.zero_le _, rfl⟩
      case round =>
        obtain ⟨k, hk, rfl⟩ := hrel
        have hk0 : (0 : Int) ≤ k := by omega
        by_cases hlt : k < N
        · have hkl : k < ls.length := by rw [← HN.out]; exact hlt
          have hk1 : (k : Int) < N := by omega
          obtain ⟨g2, rfl, q2⟩ := HSV.out.cell hkl
          have hbd := HBD.out k hkl
          rw [← HN.out] at hbd
          generalize ls[k] = y at *
          rcases hbd with ⟨e1, e2⟩ | ⟨e1, e2⟩
          · have ha : (y.toList == [46]) = true := by rw [Lib.toList_data, e2]; rfl
            have hb : ((k : Int) == (N : Int) - 1) = true := beq_iff_eq.2 (by omega)
            clear e1 e2
            go_wp2
            go_round
            case rel => exact ⟨k + 1, by omega, by go_num⟩
            case measure => simp [intOf]; omega
          · have ha : (y.toList == [46]) = false := by rw [Lib.toList_data]; exact beq_false_of_ne e2
            have hb : ((k : Int) == (N : Int) - 1) = false := by rw [beq_eq_false_iff_ne]; omega
            clear e1 e2
            go_wp2
            go_round
            case rel => exact ⟨k + 1, by omega, by go_num⟩
            case measure => simp [intOf]; omega
        · obtain rfl : k = N := by omega
          go_wp2
          go_ret
          exact ⟨rfl, HB4.out⟩
    · rw [lc_no hr, stuff_no hr] at c2
      clear hr
      go_enter Tryd.func6, Tryd.ntmps6
      go_wp2_with fail
      refine c1.mono ?_
      rintro e w1 ⟨rfl, hb1⟩
      go_wp2_with fail
      refine (c2 w1 (HM.out.up hb1)).mono ?_
      rintro e w2 ⟨rfl, hb2⟩
      replace hb2 := hb1.trans (hb2.mono hb1.size)
      go_wp2
      go_ret
      exact ⟨rfl, hb2⟩
  · rcases (show (3000 : Int) < s.size ∨ ((s.size : Int) ≤ 3000 ∧ (3000 : Int) < t.size) by omega) with h | ⟨h, h'⟩
    all_goals
      clear h1
      go_enter Tryd.func6, Tryd.ntmps6
      go_wp2_with fail
      refine c1.mono ?_
      rintro e w1 ⟨rfl, hb1⟩
      go_wp2
      go_ret
      exact ⟨rfl, hb1⟩
end Go.Proofs.YteiepgbdngamiaaDoor
