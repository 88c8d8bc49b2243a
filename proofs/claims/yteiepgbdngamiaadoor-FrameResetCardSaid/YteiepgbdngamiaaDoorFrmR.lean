/- Package frame's law folder: FrameReset. -/
import Derived.Test.YteiepgbdngamiaaDoorFrmK
set_option linter.unusedVariables false
set_option linter.unusedSimpArgs false
namespace Go.Proofs.YteiepgbdngamiaaDoor
open Go.RowKit
set_option maxRecDepth 100000 in
set_option maxHeartbeats 20000000 in
theorem frReset_all (s t : ByteArray) (w : World) (hm : MaxAt w) (ws : s.size ≤ maxLen) (wt : t.size ≤ maxLen) :
    Calls Tryd.prog 7 #[.string s, .string t] w fun e w' => e = .returned (.bool true) ∧ Below w.heap.size w w' := by
  unfold maxLen at ws wt
  have HM := Lib.hid hm
  have c1 := awake_any w hm
  clear hm
  by_cases h1 : s.size ≤ 3000 ∧ t.size ≤ 3000
  · obtain ⟨hs, ht⟩ := h1
    have hsz := bsize s
    have htz := bsize t
    have hrl := rest_len t.data.toList
    have hil := init_few t.data.toList
    have c4 := fun W (h : MaxAt W) => lines_any t W (by omega) h
    go_enter Tryd.func7, Tryd.ntmps7
    go_wp2_with fail
    refine c1.mono ?_
    rintro e w1 ⟨rfl, hb1⟩
    have c2 := new_any w1
    have HW1 := Lib.hid hb1
    clear c1 hb1
    go_wp2_with fail
    refine c2.mono ?_
    rintro e w2 ⟨rfl, hf2, hb2⟩
    have c3 := new_any w2
    have HF2 := Lib.hid hf2
    have HB2 := Lib.hid hb2
    clear c2 hf2 hb2
    go_wp2_with fail
    refine c3.mono ?_
    rintro e w3 ⟨rfl, hf3, hb3⟩
    have HP := Lib.hid (Pair.new HW1.out HF2.out HB2.out hf3 hb3)
    generalize w1.heap.size = F at *
    generalize w2.heap.size = G at *
    clear c3 hf3 hb3 HF2 HB2 HW1
    have c5 := HP.out.feed s rfl (by omega) (by omega) (by simp) (by omega)
    go_wp2_with fail
    refine c5.mono ?_
    rintro e w4 ⟨vo, v1, rfl, -, hp, -⟩
    have c6 := hp.reset
    rw [hsz, Int.zero_add] at c6
    clear c5 HP hp
    go_wp2_with fail
    refine c6.mono ?_
    rintro e w5 ⟨rfl, hp⟩
    have c7 := hp.feed t rfl (by omega) (by omega) (by simp) (by omega)
    clear c6 hp
    go_wp2_with fail
    refine c7.mono ?_
    rintro e w6 ⟨vo1, v2, rfl, hlv1, hp, -⟩
    have c8 := hp.feed2 t rfl (by omega) (by omega) (by simp) (by omega)
    rw [List.nil_append] at hlv1
    obtain ⟨ao1, cap1, rfl, hc11, hc12⟩ := hlv1.shape
    have HL1 := Lib.hid hlv1
    clear c7 hp hlv1
    go_wp2_with fail
    refine c8.mono ?_
    rintro e w7 ⟨vo2, v3, rfl, hlv2, hp, hk⟩
    rw [List.nil_append] at hlv2
    obtain ⟨ao2, cap2, rfl, hc21, hc22⟩ := hlv2.shape
    replace HL1 := Lib.hid (hk _ _ _ HL1.out)
    have HL2 := Lib.hid hlv2
    rw [List.nil_append] at hp
    rw [htz] at hp
    have c9 := waiting_any _ _ _ _ _ w7 hp.f (by omega)
    have c10 := waiting_any _ _ _ _ _ w7 hp.g (by omega)
    have c11 := fed_any _ _ _ _ _ w7 hp.f
    have c12 := fed_any _ _ _ _ _ w7 hp.g
    rw [Int.zero_add] at c12
    have HP := Lib.hid hp
    rw [List.length_map] at hc11 hc21
    rw [List.length_map]
    clear c8 hp hlv2 hk
    go_wp2_with fail
    refine c9.mono ?_
    rintro e _ ⟨rfl, rfl⟩
    go_wp2_with fail
    refine c10.mono ?_
    rintro e _ ⟨rfl, rfl⟩
    go_wp2_with fail
    refine c11.mono ?_
    rintro e _ ⟨rfl, rfl⟩
    go_wp2_with fail
    refine c12.mono ?_
    rintro e _ ⟨rfl, rfl⟩
    go_wp2_with fail
    have c13 := c4 w7 (HM.out.up HP.out.bel)
    have hdr := rest_len t.data.toList
    by_cases hr : restL t.data.toList = []
    · have hl0 := lc_yes hr
      have hlv0 : linesV t.data.toList = initL t.data.toList := by unfold linesV; rw [if_pos hr]
      unfold LinesPost at c13
      rw [hl0, hlv0] at c13
      rw [hr] at c9
      clear c4 c10 c11 c12 hl0 hlv0
      refine c13.mono ?_
      rintro e w8 ⟨v8, ls, rfl, hsv, hls, hb8⟩
      obtain ⟨ao8, cap8, rfl, hc81, hc82⟩ := hsv.shape
      have hlen : ls.length = (initL t.data.toList).length := by
        have := congrArg List.length hls
        simpa [bytesL] using this
      rw [hlen]
      rw [hlen] at hc81
      have HX : Hid (LV w8 w5.heap.size (.slice ao1 ((initL t.data.toList).map mkLn).length cap1) ((initL t.data.toList).map mkLn) ∧ LV w8 w6.heap.size (.slice ao2 ((initL t.data.toList).map mkLn).length cap2) ((initL t.data.toList).map mkLn) ∧ SV w8 w7.heap.size (.slice ao8 ls.length cap8) ls ∧ Below w.heap.size w w8 ∧ FrAt w8 F F v2 [] (s.size + t.data.toList.length)) := by
        refine ⟨HL1.out.belowW hb8, HL2.out.belowW hb8, hsv, HP.out.bel.trans (hb8.mono HP.out.bel.size), ?_⟩
        have := HP.out.f.belowW hb8
        rwa [hr] at this
      have HLS : Hid (∀ k (h1 : k < (initL t.data.toList).length) (h2 : k < ls.length), ls[k].data.toList = (initL t.data.toList)[k]) := by
        intro k h1 h2
        have : (bytesL ls)[k]'(by simp [bytesL]; exact h2) = ls[k].data.toList := by simp only [bytesL, List.getElem_map]
        rw [← this]
        simp only [hls]
      have HXL := Lib.hid hlen
      obtain ⟨N, hN⟩ : ∃ N, N = (initL t.data.toList).length := ⟨_, rfl⟩
      rw [← hN] at hc11 hc21 hc81 hil hlen ⊢
      have HN := Lib.hid hN
      have c14 := fun n => waiting_any _ _ _ _ _ (w8.drewN n) (HX.out.2.2.2.2.belowW (Below.drewN' (Below.refl _ w8) n)) (by simp)
      rw [show min ([] : List UInt8).length 999 = 0 from rfl] at c14
      clear hls hsv hb8 HL1 HL2 HP c13 c9 hN hlen
      go_wp2
      go_loopw [11] (fun i wr => ∃ (k n : Nat), k ≤ N ∧ i = .int .i64 k ∧ wr = w8.drewN n) (fun i _ => N - (intOf i).toNat)
      case atStart => exact ⟨0, 0, Nat.zero_le _, rfl, rfl⟩
      case round =>
        obtain ⟨k, n, hk, rfl, rfl⟩ := hrel
        have hk0 : (0 : Int) ≤ k := by omega
        by_cases hlt : k < N
        · have hkl : k < (initL t.data.toList).length := by rw [← HN.out]; exact hlt
          have hk1 : (k : Int) < N := by omega
          have hk2 : k < ls.length := by rw [HXL.out]; exact hkl
          have hkm : k < ((initL t.data.toList).map mkLn).length := by rw [List.length_map]; exact hkl
          obtain ⟨g2, rfl, q2, q2'⟩ := HX.out.1.cell hkm
          obtain ⟨g3, rfl, q3, q3'⟩ := HX.out.2.1.cell hkm
          obtain ⟨g4, rfl, q4⟩ := HX.out.2.2.1.cell hk2
          have hx := HLS.out k hkl hk2
          have hz := bsize ls[k]
          rw [List.getElem_map] at q2 q2' q3 q3'
          have hge : decide (N ≤ k) = false := decide_eq_false (by omega)
          rcases mkLn_cases (initL t.data.toList)[k] with ⟨hl, he⟩ | ⟨hl, he⟩
          · obtain ⟨z, hz⟩ : ∃ z : ByteArray, z = ⟨#[]⟩ := ⟨_, rfl⟩
            rw [← hz] at he
            clear hz
            rw [he] at q2 q2' q3 q3'
            rw [← hx] at hl
            generalize ls[k] = y at *
            have hd : decide ((998 : Int) < (y.size : Int)) = true := decide_eq_true (by omega)
            have hd2 : (!decide ((998 : Int) < (y.size : Int))) = false := by rw [hd]; rfl
            have hd3 : (decide (N ≤ k) || !decide ((998 : Int) < (y.size : Int))) = false := by rw [hd, hge]; rfl
            clear hx he hl hkm hk2 hkl
            go_wp2
            go_quiet (fail)
            go_wp2
            go_roundw
            case rel => exact ⟨k + 1, n + nq, by omega, by go_num, by first | rfl | rw [World.drewN_drewN]⟩
            case measure => simp [intOf]; omega
          · have he2 : (⟨(initL t.data.toList)[k].toArray⟩ : ByteArray) = ls[k] := by
              rw [← hx]
            rw [he, he2] at q2 q2' q3 q3'
            rw [← hx] at hl
            generalize ls[k] = y at *
            have hd : decide ((998 : Int) < (y.size : Int)) = false := decide_eq_false (by omega)
            clear hx he hl hkm hk2 hkl he2
            go_wp2
            go_quiet (fail)
            go_wp2
            go_roundw
            case rel => exact ⟨k + 1, n + nq, by omega, by go_num, by first | rfl | rw [World.drewN_drewN]⟩
            case measure => simp [intOf]; omega
        · obtain rfl : k = N := by omega
          go_wp2_with fail
          refine (c14 n).mono ?_
          rintro e _ ⟨rfl, rfl⟩
          go_wp2
          go_ret
          exact ⟨rfl, Below.drewN' HX.out.2.2.2.1 _⟩
    · have hl0 := lc_no hr
      unfold LinesPost at c13
      rw [hl0] at c13
      have hfew := fun (ls : List ByteArray) (h : bytesL ls = linesV t.data.toList) => lines_few h
      clear c4 c10 c11 c12 hl0
      refine c13.mono ?_
      rintro e w8 ⟨v8, ls, rfl, hsv, hls, hb8⟩
      obtain ⟨ao8, cap8, rfl, hc81, hc82⟩ := hsv.shape
      have hls2 := hfew ls hls
      have HX : Hid (LV w8 w5.heap.size (.slice ao1 ((initL t.data.toList).map mkLn).length cap1) ((initL t.data.toList).map mkLn) ∧ LV w8 w6.heap.size (.slice ao2 ((initL t.data.toList).map mkLn).length cap2) ((initL t.data.toList).map mkLn) ∧ Below w.heap.size w w8) :=
        ⟨HL1.out.belowW hb8, HL2.out.belowW hb8, HP.out.bel.trans (hb8.mono HP.out.bel.size)⟩
      obtain ⟨N, hN⟩ : ∃ N, N = (initL t.data.toList).length := ⟨_, rfl⟩
      rw [← hN] at hc11 hc21 hil ⊢
      have HN := Lib.hid hN
      clear hls hsv hb8 HL1 HL2 HP c13 c9 hN hfew
      go_wp2
      go_loopw [11] (fun i wr => ∃ (k n : Nat), k ≤ N ∧ i = .int .i64 k ∧ wr = w8.drewN n) (fun i _ => N - (intOf i).toNat)
      case atStart => exact ⟨0, 0, Nat.zero_le _, rfl, rfl⟩
      case round =>
        obtain ⟨k, n, hk, rfl, rfl⟩ := hrel
        have hk0 : (0 : Int) ≤ k := by omega
        by_cases hlt : k < N
        · have hkl : k < (initL t.data.toList).length := by rw [← HN.out]; exact hlt
          have hk1 : (k : Int) < N := by omega
          have hkm : k < ((initL t.data.toList).map mkLn).length := by rw [List.length_map]; exact hkl
          obtain ⟨g2, rfl, q2, q2'⟩ := HX.out.1.cell hkm
          obtain ⟨g3, rfl, q3, q3'⟩ := HX.out.2.1.cell hkm
          generalize ((initL t.data.toList).map mkLn)[k] = x at *
          clear hkm hkl
          go_wp2
          go_quiet (fail)
          go_wp2
          go_roundw
          case rel => exact ⟨k + 1, n + nq, by omega, by go_num, by first | rfl | rw [World.drewN_drewN]⟩
          case measure => simp [intOf]; omega
        · obtain rfl : k = N := by omega
          go_wp2
          go_ret
          exact ⟨rfl, Below.drewN' HX.out.2.2 _⟩
  · rcases (show (3000 : Int) < s.size ∨ ((s.size : Int) ≤ 3000 ∧ (3000 : Int) < t.size) by omega) with h | ⟨h, h'⟩
    all_goals
      clear h1
      go_enter Tryd.func7, Tryd.ntmps7
      go_wp2_with fail
      refine c1.mono ?_
      rintro e w1 ⟨rfl, hb1⟩
      go_wp2
      go_ret
      exact ⟨rfl, hb1⟩
end Go.Proofs.YteiepgbdngamiaaDoor
