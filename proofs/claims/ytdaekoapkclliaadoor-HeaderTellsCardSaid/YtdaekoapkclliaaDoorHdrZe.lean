/- The document's Parse: the walk. -/
import Derived.Test.YtdaekoapkclliaaDoorHdrZd
import Derived.Deep.DeepCutAuto
import Derived.Deep.CutBlock
set_option linter.unusedVariables false
set_option linter.unusedSimpArgs false
namespace Go.Proofs.YtdaekoapkclliaaDoor
open Go.RowKit
def DnI (s : Bs) (o : List Bs) (f i : Nat) (dn : Bool) : Prop := (dn = true ∧ cutG [] s = some (o, s.drop f)) ∨ (dn = false ∧ CutI s o f i)
set_option maxRecDepth 100000 in
set_option maxHeartbeats 16000000 in
theorem rparse_any (s : ByteArray) (w : World) (hs : s.size ≤ 100000) :
    Calls Tryd.prog 14 #[.string s] w (ParseP s.data.toList w) := by
  have hs0 : (0 : Int) ≤ (s.size : Int) := by omega
  go_enter Tryd.func14, Tryd.ntmps14
  go_wp2
  go_loopw [5, 6, 7, 8] (fun L f i d wr => ∃ (o : List ByteArray) (fr k : Nat) (dn : Bool), f = .int .i64 fr ∧ i = .int .i64 k ∧ d = .bool dn ∧ SSo wr w.heap.size L o ∧ Below w.heap.size w wr ∧ fr ≤ k ∧ k ≤ s.size ∧ (ctL (bss o)).length ≤ fr ∧ Hid (DnI s.data.toList (bss o) fr k dn)) (fun _ _ i _ _ => s.size - (intOf i).toNat)
  case atStart => exact ⟨[], 0, 0, false, rfl, rfl, rfl, SSo.nil _ _, Below.refl _ _, Nat.le_refl _, Nat.zero_le _, by simp [bss, ctL], Lib.hid (.inr ⟨rfl, CutI.start _⟩)⟩
  case round =>
    obtain ⟨o, fr, k, dn, rfl, rfl, rfl, hown, hbl, hfk, hks, hct, hD⟩ := hrel
    have hk0 : (0 : Int) ≤ (k : Int) := by omega
    have hfr0 : (0 : Int) ≤ (fr : Int) := by omega
    have hfki : (fr : Int) ≤ (k : Int) := by omega
    have hksi : (k : Int) ≤ (s.size : Int) := by omega
    have hol : o.length + 1 ≤ 1000000000000 := by
      have := ctL_len (bss o)
      rw [bss_len] at this; omega
    have hwsz := hbl.size
    cases dn with
    | false =>
      have hC : CutI s.data.toList (bss o) fr k := by
        rcases hD.out with h | h
        · exact absurd h.1 (by decide)
        · exact h.2
      by_cases hlt : k + 1 < s.size
      · have hkl : k + 1 < s.data.toList.length := by rw [bsize]; exact hlt
        have hkk : k < s.size := by omega
        have hk1 : (k : Int) + 1 < s.size := by omega
        have HX := Lib.hid (And.intro hown (And.intro hbl hct))
        by_cases h13 : s[k] = 13
        · obtain ⟨t1, t1'⟩ := u8T (n := 13) h13 rfl
          by_cases h10 : s[k + 1] = 10
          · obtain ⟨t2, t2'⟩ := u8T (n := 10) h10 rfl
            by_cases hfe : fr = k
            · subst hfe
              have HN := Lib.hid (hC.stop hkl h13 h10)
              clear hC hD h13 h10 hown hbl hct
              go_wp2
              go_roundw
              case rel => exact ⟨o, fr + 2, fr + 2, true, by go_num, by go_num, rfl, HX.out.1, HX.out.2.1, Nat.le_refl _, by omega, by have := HX.out.2.2; omega, Lib.hid (.inl ⟨rfl, HN.out⟩)⟩
              case measure => simp [intOf]; omega
            · have hfei : ((k : Int) == (fr : Int)) = false := by rw [Bool.eq_false_iff]; intro e; have := beq_iff_eq.1 e; omega
              have hh := hC.hit (by omega) hkl h13 h10
              have hctl : (ctL (bss (o ++ [s.extract fr k]))).length ≤ k + 2 := by
                rw [bss_app, ctL_app, List.length_append]
                have : (ctL (bss [s.extract fr k])).length = (s.extract fr k).data.toList.length + 2 := by simp [bss, ctL]
                rw [this, bsize, ByteArray.size_extract]; omega
              rw [← ext_list s fr k] at hh
              have HN := Lib.hid (And.intro hh hctl)
              clear hC hD h13 h10 hown hbl hct hh hctl hfe
              go_wp2_with (at_builtin; refine wp_appstr rfl (.tmp 42) (.tmp 47) rfl w.heap.size _ o rfl (s.extract fr k) HX.out.1 rfl hol hwsz ?_)
              intro v' w' hown' hb'
              have HY := Lib.hid (And.intro hown' (HX.out.2.1.trans hb'))
              clear hown' hb'
              go_wp2
              go_roundw
              case rel => exact ⟨o ++ [s.extract fr k], k + 2, k + 2, false, by go_num, by go_num, rfl, HY.out.1, HY.out.2, Nat.le_refl _, by omega, HN.out.2, Lib.hid (.inr ⟨rfl, by rw [bss_app]; exact HN.out.1⟩)⟩
              case measure => simp [intOf]; omega
          · obtain ⟨t2, t2'⟩ := u8F (n := 10) h10 rfl
            have HN := Lib.hid (hC.miss hkl (fun h => h10 h.2))
            clear hC hD h13 h10 hown hbl hct
            go_wp2
            go_roundw
            case rel => exact ⟨o, fr, k + 1, false, rfl, by go_num, rfl, HX.out.1, HX.out.2.1, by omega, by omega, HX.out.2.2, Lib.hid (.inr ⟨rfl, HN.out⟩)⟩
            case measure => simp [intOf]; omega
        · obtain ⟨t1, t1'⟩ := u8F (n := 13) h13 rfl
          have HN := Lib.hid (hC.miss hkl (fun h => h13 h.1))
          clear hC hD h13 hown hbl hct
          go_wp2
          go_roundw
          case rel => exact ⟨o, fr, k + 1, false, rfl, by go_num, rfl, HX.out.1, HX.out.2.1, by omega, by omega, HX.out.2.2, Lib.hid (.inr ⟨rfl, HN.out⟩)⟩
          case measure => simp [intOf]; omega
      · have hk1 : ¬ (k : Int) + 1 < (s.size : Int) := by omega
        have HF := Lib.hid (ParseP.bad (pa_none (hC.none_ (by rw [bsize]; omega))) hbl)
        clear hC hD hown hbl hct
        go_wp2
        go_ret3
        exact HF.out
    | true =>
      have hcu : cutG [] s.data.toList = some (bss o, s.data.toList.drop fr) := by
        rcases hD.out with h | h
        · exact h.2
        · exact absurd h.1 (by decide)
      obtain ⟨ao, cap, rfl⟩ := hown.shape
      have hll := ctL_len (bss o)
      rw [bss_len] at hll
      obtain ⟨N, hN⟩ : ∃ N, N = o.length := ⟨_, rfl⟩
      rw [← hN] at hown ⊢
      have hNm : N ≤ 100000 := by omega
      have hN0 : (0 : Int) ≤ (N : Int) := by omega
      have hfsi : (fr : Int) ≤ (s.size : Int) := by omega
      have HC := Lib.hid (And.intro hcu (And.intro hN (And.intro hown (And.intro hbl (show (bss o).flatten.length ≤ 100000 by omega)))))
      clear hcu hN hown hbl hll hD hct hol
      obtain ⟨w1, rfl⟩ : ∃ w1 : World, w1 = wr := ⟨_, rfl⟩
      rcases (show (k : Int) + 1 < (s.size : Int) ∨ ¬ (k : Int) + 1 < (s.size : Int) by omega) with tk | tk
      all_goals
        go_wp2
        go_loopw [9] (fun i wr => ∃ m : Nat, m ≤ N ∧ i = .int .i64 m ∧ Hid (Fine ((bss o).take m)) ∧ Below w1.heap.size w1 wr) (fun i _ => N - (intOf i).toNat)
        case atStart => exact ⟨0, Nat.zero_le _, rfl, Lib.hid (fun x hx => by cases hx), Below.refl _ _⟩
        case round =>
          obtain ⟨m, hm, rfl, hfi, hbl⟩ := hrel
          have hm0 : (0 : Int) ≤ (m : Int) := by omega
          by_cases hlt : m < N
          · have hmi : (m : Int) < (N : Int) := by omega
            have hml : m < o.length := by rw [← HC.out.2.1]; exact hlt
            obtain ⟨g, rfl, ec⟩ := (HC.out.2.2.1.below hbl).cellAt hml
            have hxin : o[m].data.toList ∈ bss o := List.mem_map.2 ⟨_, List.getElem_mem hml, rfl⟩
            have htk : (bss o).take (m + 1) = (bss o).take m ++ [o[m].data.toList] := by
              rw [List.take_succ_eq_append_getElem (by rw [bss_len]; exact hml), bss_at hml]
            generalize o[m] = x at *
            have hx0 : (0 : Int) ≤ (x.size : Int) := by omega
            by_cases hbig : 998 < x.size
            · have hbi : (998 : Int) < (x.size : Int) := by omega
              have HF := Lib.hid (ParseP.bad (pa_long HC.out.1 hxin (by rw [bsize]; exact hbig)) (HC.out.2.2.2.1.trans (hbl.mono HC.out.2.2.2.1.size)))
              clear hfi hbl hxin htk hbig hml
              go_wp2
              go_ret3
              exact HF.out
            · have hbi : ¬ (998 : Int) < (x.size : Int) := by omega
              have hf2 : Fine ((bss o).take (m + 1)) := by
                rw [htk]
                exact hfi.out.app (fun y hy => by rw [List.mem_singleton.1 hy, bsize]; omega)
              have HF := Lib.hid (And.intro hf2 hbl)
              clear hfi hbl hxin htk hbig hml hf2
              go_wp2
              go_roundw
              case rel => exact ⟨m + 1, by omega, by go_num, Lib.hid HF.out.1, HF.out.2⟩
              case measure => simp [intOf]; omega
          · obtain rfl : m = N := by omega
            have hjE : ¬ (m : Int) < (m : Int) := by omega
            have hfine : Fine (bss o) := by
              have := hfi.out
              rw [HC.out.2.1, ← bss_len, List.take_length] at this
              exact this
            have HFI := Lib.hid hfine
            have HB := Lib.hid hbl
            clear hfi hbl hfine
            obtain ⟨wa, rfl⟩ : ∃ wa : World, wa = wr := ⟨_, rfl⟩
            go_wp2
            go_loopw [10, 11] (fun x i wr => ∃ (F : List Fld) (j : Nat), j ≤ m ∧ i = .int .i64 j ∧ FSo wr wa.heap.size x F ∧ Hid (RO (bss o) j (fds F) ∧ Small F ∧ F.length ≤ j) ∧ Below wa.heap.size wa wr) (fun _ i _ => m - (intOf i).toNat)
            case atStart => exact ⟨[], 0, Nat.zero_le _, rfl, FSo.nil _ _, Lib.hid ⟨RO.start _, (fun f hf => by cases hf), Nat.le_refl _⟩, Below.refl _ _⟩
            case round =>
              obtain ⟨F, j, hj, rfl, hF, hRO, hbl⟩ := hrel
              have hj0 : (0 : Int) ≤ (j : Int) := by omega
              obtain ⟨wo, rfl⟩ : ∃ wo : World, wo = wr := ⟨_, rfl⟩
              have hrow := (HC.out.2.2.1.below HB.out).below hbl
              have hbw : Below w.heap.size w wo := HC.out.2.2.2.1.trans ((HB.out.trans (hbl.mono HB.out.size)).mono HC.out.2.2.2.1.size)
              by_cases hlt3 : j < m
              · have hji : (j : Int) < (m : Int) := by omega
                have hjl : j < o.length := by rw [← HC.out.2.1]; exact hlt3
                have hjb : j < (bss o).length := by rw [bss_len]; exact hjl
                obtain ⟨g, hao, ec⟩ := hrow.cellAt hjl
                have hba := bss_at hjl
                have hxne : o[j].data.toList ≠ [] := cutG_ne _ _ _ _ HC.out.1 _ (List.mem_map.2 ⟨_, List.getElem_mem hjl, rfl⟩)
                have hx1 : 0 < o[j].size := by rw [← bsize]; exact List.length_pos_iff.2 hxne
                have hRN := RN.start hjb
                generalize o[j] = x at *
                have hx1i : (0 : Int) < (x.size : Int) := by omega
                have hh0 := head0 hx1
                have c1 := rblank_any x[0] wo
                rw [← hh0] at c1
                cases hb : isBl (x.data.toList.headD 0) with
                | true =>
                  rw [hb, hh0] at c1
                  have hno := hRO.out.1.blank hjb (by rw [hba]; exact hb)
                  have HF := Lib.hid (ParseP.bad (pa_unf HC.out.1 HFI.out hno) hbw)
                  subst hao
                  clear hno hba hxne hrow hb hh0 hRO hF hRN hjl hjb
                  go_wp2_with fail
                  refine c1.mono ?_
                  rintro e w3 ⟨rfl, rfl⟩
                  go_wp2
                  go_ret3
                  exact HF.out
                | false =>
                  rw [hb, hh0] at c1
                  have HRO := Lib.hid hRO.out
                  have HFF := Lib.hid (And.intro hF (And.intro hbl hbw))
                  have HRW := Lib.hid hrow
                  have HNB := Lib.hid (show isBl ((bss o)[j].headD 0) = false by rw [hba]; exact hb)
                  have HJB := Lib.hid hjb
                  rw [hba] at hRN
                  have HRN := Lib.hid hRN
                  have ec' := ec
                  subst hao
                  clear hba hxne hrow hb hh0 hRO hF hRN hbl hbw
                  go_wp2_with fail
                  refine c1.mono ?_
                  rintro e w3 ⟨rfl, rfl⟩
                  clear c1
                  go_upto_block 6 with fail
                  go_cut [11, 12] (fun i v wx => ∃ (mm : Nat) (W : ByteArray), mm ≤ m ∧ i = .int .i64 mm ∧ v = .string W ∧ Hid (RN (bss o) j mm W.data.toList ∧ ∀ hm : mm < (bss o).length, isBl ((bss o)[mm].headD 0) = false) ∧ wo = wx)
                  case first =>
                    go_wp2_with fail
                    go_loopw [11, 12] (fun i v wr => ∃ (mm : Nat) (W : ByteArray), mm ≤ m ∧ i = .int .i64 mm ∧ v = .string W ∧ Hid (RN (bss o) j mm W.data.toList) ∧ wo = wr) (fun i _ _ => m - (intOf i).toNat)
                    case atStart => exact ⟨j + 1, x, by omega, by go_num, rfl, HRN, rfl⟩
                    case round =>
                      obtain ⟨mm, W, hmm, rfl, rfl, hN, rfl⟩ := hrel
                      have hmm0 : (0 : Int) ≤ (mm : Int) := by omega
                      by_cases hlt4 : mm < m
                      · have hmi4 : (mm : Int) < (m : Int) := by omega
                        have hml : mm < o.length := by rw [← HC.out.2.1]; exact hlt4
                        have hmb : mm < (bss o).length := by rw [bss_len]; exact hml
                        obtain ⟨g4, hao4, ec4⟩ := HRW.out.cellAt hml
                        cases hao4
                        have hba4 := bss_at hml
                        have hyne : o[mm].data.toList ≠ [] := cutG_ne _ _ _ _ HC.out.1 _ (List.mem_map.2 ⟨_, List.getElem_mem hml, rfl⟩)
                        have hy1 : 0 < o[mm].size := by rw [← bsize]; exact List.length_pos_iff.2 hyne
                        have hmore := hN.out.more hmb
                        have hyl : W.size + o[mm].size ≤ 100000 := by
                          have h1 : (bss o)[mm].length ≤ ((bss o).drop mm).flatten.length := by
                            rw [List.drop_eq_getElem_cons hmb, List.flatten_cons, List.length_append]; omega
                          have h2 := hN.out.mid
                          have h3 := HC.out.2.2.2.2
                          rw [hba4, bsize] at h1
                          rw [bsize] at h2
                          omega
                        rw [hba4] at hmore
                        generalize o[mm] = y at *
                        have hy1i : (0 : Int) < (y.size : Int) := by omega
                        have hns : ¬ (9223372036854775807 < W.size + y.size) := by omega
                        have hh1 := head0 hy1
                        have c4 := rblank_any y[0] wo
                        rw [← hh1] at c4
                        cases hb4 : isBl (y.data.toList.headD 0) with
                        | true =>
                          rw [hb4, hh1] at c4
                          have HM := Lib.hid (hmore hb4)
                          clear hmore hba4 hyne hb4 hh1 hN hml hmb hyl
                          go_wp2_with fail
                          refine c4.mono ?_
                          rintro e w3 ⟨rfl, rfl⟩
                          clear c4
                          go_wp2
                          go_roundw
                          case rel => exact ⟨mm + 1, W ++ y, by omega, by go_num, rfl, Lib.hid (by simpa using HM.out), by first | exact rfl | trivial⟩
                          case measure => simp [intOf]; omega
                        | false =>
                          rw [hb4, hh1] at c4
                          have HE := Lib.hid (And.intro hN.out (show ∀ hm : mm < (bss o).length, isBl ((bss o)[mm].headD 0) = false from fun _ => by rw [hba4]; exact hb4))
                          clear hmore hba4 hyne hb4 hh1 hN hml hmb hyl
                          go_wp2_with fail
                          refine c4.mono ?_
                          rintro e w3 ⟨rfl, rfl⟩
                          clear c4
                          go_wp2
                          go_meet
                          exact ⟨mm, W, by omega, rfl, rfl, HE, rfl⟩
                      · obtain rfl : mm = m := by omega
                        have hjE4 : ¬ (mm : Int) < (mm : Int) := by omega
                        have HE := Lib.hid (And.intro hN.out (show ∀ hm : mm < (bss o).length, isBl ((bss o)[mm].headD 0) = false from fun hm => absurd hm (by rw [bss_len, ← HC.out.2.1]; omega)))
                        clear hN
                        go_wp2
                        go_meet
                        exact ⟨mm, W, by omega, rfl, rfl, HE, rfl⟩
                  case rest =>
                    obtain ⟨mm, W, hmm, rfl, rfl, hE, rfl⟩ := hcut
                    have hg := hE.out.1.done hE.out.2
                    have hWl : W.size ≤ 100000 := by
                      have h1 := hE.out.1.flat
                      have h2 := HC.out.2.2.2.2
                      rw [bsize] at h1; omega
                    have hW0 : (0 : Int) ≤ (W.size : Int) := by omega
                    have HGR := Lib.hid (And.intro hg (And.intro hE.out.1.lt hE.out.2))
                    clear hg hE HRN
                    go_wp2
                    go_loopw [13] (fun i wr => ∃ c : Nat, c ≤ W.size ∧ i = .int .i64 c ∧ Hid (∀ (q : Nat) (h : q < W.data.toList.length), q < c → W.data.toList[q] ≠ 58) ∧ wo = wr) (fun i _ => W.size - (intOf i).toNat)
                    case atStart => exact ⟨0, Nat.zero_le _, rfl, Lib.hid (fun q h h0 => absurd h0 (by omega)), by first | exact rfl | trivial⟩
                    case round =>
                      obtain ⟨c, hc, rfl, hI, rfl⟩ := hrel
                      have hc0 : (0 : Int) ≤ (c : Int) := by omega
                      by_cases hlt5 : c < W.size
                      · have hci : (c : Int) < (W.size : Int) := by omega
                        have hcl : c < W.data.toList.length := by rw [bsize]; exact hlt5
                        have hWe : W.data.toList[c] = W[c] := rfl
                        by_cases h58 : W[c] = 58
                        · obtain ⟨t1, t1'⟩ := u8T (n := 58) h58 rfl
                          have hcn : ((c : Int) == (W.size : Int)) = false := by rw [Bool.eq_false_iff]; intro e; have := beq_iff_eq.1 e; omega
                          have hcu := cut_here hcl hI.out (by rw [hWe]; exact h58)
                          have HCU := Lib.hid hcu
                          clear h58 hI hWe hcu
                          go_upto_block 10 with fail
                          go_cut [14] (fun i wx => ∃ a : Nat, c + 1 ≤ a ∧ a ≤ W.size ∧ i = .int .i64 a ∧ Hid ((∀ (q : Nat) (h : q < W.data.toList.length), c + 1 ≤ q → q < a → isBl W.data.toList[q] = true) ∧ ∀ h : a < W.data.toList.length, isBl W.data.toList[a] = false) ∧ wo = wx)
                          case first =>
                            go_wp2_with fail
                            go_loopw [14] (fun i wr => ∃ a : Nat, c + 1 ≤ a ∧ a ≤ W.size ∧ i = .int .i64 a ∧ Hid (∀ (q : Nat) (h : q < W.data.toList.length), c + 1 ≤ q → q < a → isBl W.data.toList[q] = true) ∧ wo = wr) (fun i _ => W.size - (intOf i).toNat)
                            case atStart => exact ⟨c + 1, Nat.le_refl _, hlt5, by go_num, Lib.hid (fun q h h1 h2 => absurd h2 (by omega)), by first | exact rfl | trivial⟩
                            case round =>
                              obtain ⟨a, ha1, ha2, rfl, hA, rfl⟩ := hrel
                              have ha0 : (0 : Int) ≤ (a : Int) := by omega
                              by_cases hlt6 : a < W.size
                              · have hai : (a : Int) < (W.size : Int) := by omega
                                have hal : a < W.data.toList.length := by rw [bsize]; exact hlt6
                                have hWa : W.data.toList[a] = W[a] := rfl
                                have c6 := rblank_any W[a] wo
                                cases hb6 : isBl W[a] with
                                | true =>
                                  rw [hb6] at c6
                                  have HA2 := Lib.hid (show ∀ (q : Nat) (h : q < W.data.toList.length), c + 1 ≤ q → q < a + 1 → isBl W.data.toList[q] = true from fun q h h0 hq => by
                                    rcases Nat.lt_or_ge q a with h1 | h1
                                    · exact hA.out q h h0 h1
                                    · obtain rfl : q = a := by omega
                                      exact hb6)
                                  clear hA hb6 hWa
                                  go_wp2_with fail
                                  refine c6.mono ?_
                                  rintro e w3 ⟨rfl, rfl⟩
                                  clear c6
                                  go_wp2
                                  go_roundw
                                  case rel => exact ⟨a + 1, by omega, by omega, by go_num, HA2, by first | exact rfl | trivial⟩
                                  case measure => simp [intOf]; omega
                                | false =>
                                  rw [hb6] at c6
                                  have HE := Lib.hid (And.intro hA.out (show ∀ h : a < W.data.toList.length, isBl W.data.toList[a] = false from fun _ => hb6))
                                  clear hA hb6 hWa
                                  go_wp2_with fail
                                  refine c6.mono ?_
                                  rintro e w3 ⟨rfl, rfl⟩
                                  clear c6
                                  go_wp2
                                  go_meet
                                  exact ⟨a, ha1, by omega, rfl, HE, by first | exact rfl | trivial⟩
                              · obtain rfl : a = W.size := by omega
                                have hjE6 : ¬ (W.size : Int) < (W.size : Int) := by omega
                                have HE := Lib.hid (And.intro hA.out (show ∀ h : W.size < W.data.toList.length, isBl W.data.toList[W.size] = false from fun h => absurd h (by rw [bsize]; omega)))
                                clear hA
                                go_wp2
                                go_meet
                                exact ⟨W.size, by omega, Nat.le_refl _, rfl, HE, by first | exact rfl | trivial⟩
                          case rest =>
                            obtain ⟨a, ha1, ha2, rfl, hA, rfl⟩ := hcut
                            have ha0 : (0 : Int) ≤ (a : Int) := by omega
                            go_upto_block 12 with fail
                            go_cut [15] (fun i wx => ∃ b : Nat, a ≤ b ∧ b ≤ W.size ∧ i = .int .i64 b ∧ Hid ((∀ (q : Nat) (h : q < W.data.toList.length), b ≤ q → isBl W.data.toList[q] = true) ∧ ∀ (q : Nat) (h : q < W.data.toList.length), q + 1 = b → a < b → isBl W.data.toList[q] = false) ∧ wo = wx)
                            case first =>
                              go_wp2_with fail
                              go_loopw [15] (fun i wr => ∃ b : Nat, a ≤ b ∧ b ≤ W.size ∧ i = .int .i64 b ∧ Hid (∀ (q : Nat) (h : q < W.data.toList.length), b ≤ q → isBl W.data.toList[q] = true) ∧ wo = wr) (fun i _ => (intOf i).toNat)
                              case atStart => exact ⟨W.size, ha2, Nat.le_refl _, rfl, Lib.hid (fun q h h1 => absurd h (by rw [bsize]; omega)), by first | exact rfl | trivial⟩
                              case round =>
                                obtain ⟨b, hb1, hb2, rfl, hB, rfl⟩ := hrel
                                have hb0 : (0 : Int) ≤ (b : Int) := by omega
                                by_cases hlt7 : a < b
                                · obtain ⟨b, rfl⟩ : ∃ b', b = b' + 1 := ⟨b - 1, by omega⟩
                                  have hai : (a : Int) < ((b + 1 : Nat) : Int) := by omega
                                  have hbz : ((b + 1 : Nat) : Int) = (b : Int) + 1 := by omega
                                  have hbb0 : (0 : Int) ≤ (b : Int) := by omega
                                  have hbbs : (b : Int) < (W.size : Int) := by omega
                                  have hbs : b < W.size := by omega
                                  have hWb : W.data.toList[b]'(by rw [bsize]; exact hbs) = W[b] := rfl
                                  rw [hbz] at hai
                                  have c7 := rblank_any W[b] wo
                                  cases hb7 : isBl W[b] with
                                  | true =>
                                    rw [hb7] at c7
                                    have HB2 := Lib.hid (show ∀ (q : Nat) (h : q < W.data.toList.length), b ≤ q → isBl W.data.toList[q] = true from fun q h hq => by
                                      rcases Nat.lt_or_ge b q with h1 | h1
                                      · exact hB.out q h h1
                                      · obtain rfl : q = b := by omega
                                        exact hb7)
                                    clear hB hb7 hWb
                                    go_wp2_with fail
                                    refine c7.mono ?_
                                    rintro e w3 ⟨rfl, rfl⟩
                                    clear c7
                                    go_wp2
                                    go_roundw
                                    case rel => exact ⟨b, by omega, by omega, by first | exact rfl | go_num, HB2, by first | exact rfl | trivial⟩
                                    case measure => simp [intOf]
                                  | false =>
                                    rw [hb7] at c7
                                    have HE := Lib.hid (And.intro hB.out (show ∀ (q : Nat) (h : q < W.data.toList.length), q + 1 = b + 1 → a < b + 1 → isBl W.data.toList[q] = false from fun q h hq _ => by
                                      obtain rfl : q = b := by omega
                                      exact hb7))
                                    clear hB hb7 hWb
                                    go_wp2_with fail
                                    refine c7.mono ?_
                                    rintro e w3 ⟨rfl, rfl⟩
                                    clear c7
                                    go_wp2
                                    go_meet
                                    exact ⟨b + 1, by omega, by omega, rfl, HE, by first | exact rfl | trivial⟩
                                · obtain rfl : a = b := by omega
                                  have hjE7 : ¬ (a : Int) < (a : Int) := by omega
                                  have HE := Lib.hid (And.intro hB.out (show ∀ (q : Nat) (h : q < W.data.toList.length), q + 1 = a → a < a → isBl W.data.toList[q] = false from fun q h _ h1 => absurd h1 (by omega)))
                                  clear hB
                                  go_wp2
                                  go_meet
                                  exact ⟨a, by omega, by omega, rfl, HE, by first | exact rfl | trivial⟩
                            case rest =>
                              obtain ⟨b, hb1, hb2, rfl, hB, rfl⟩ := hcut
                              have hb0 : (0 : Int) ≤ (b : Int) := by omega
                              have hai : (a : Int) ≤ (b : Int) := by omega
                              have hbi : (b : Int) ≤ (W.size : Int) := by omega
                              have hci2 : (c : Int) ≤ (W.size : Int) := by omega
                              have htr : trB (W.data.toList.drop (c + 1)) = (W.data.toList.drop a).take (b - a) := by
                                have h0 := trB_ab (v := W.data.toList.drop (c + 1)) (a := a - (c + 1)) (b := b - (c + 1)) (by omega) (by rw [List.length_drop, bsize]; omega)
                                  (fun q h hq => by rw [List.getElem_drop]; exact hA.out.1 _ _ (by omega) (by omega))
                                  (fun q h hq => by rw [List.getElem_drop]; exact hB.out.1 _ _ (by omega))
                                  (fun h => ⟨by
                                    rw [List.getElem_drop]
                                    have hz : c + 1 + (a - (c + 1)) = a := by omega
                                    simp only [hz]
                                    exact hA.out.2 (by rw [bsize]; omega), by
                                    rw [List.getElem_drop]
                                    have hz : c + 1 + (b - (c + 1) - 1) = b - 1 := by omega
                                    simp only [hz]
                                    exact hB.out.2 _ _ (by omega) (by omega)⟩)
                                rw [h0, List.drop_drop]
                                congr 1
                                · omega
                                · congr 1; omega
                              obtain ⟨nm, hnm⟩ : ∃ nm : ByteArray, nm = W.extract 0 c := ⟨_, rfl⟩
                              obtain ⟨bd, hbd⟩ : ∃ bd : ByteArray, bd = W.extract a b := ⟨_, rfl⟩
                              have hnd : nm.data.toList = W.data.toList.take c := by rw [hnm, ext_list]; simp
                              have hbdd : bd.data.toList = trB (W.data.toList.drop (c + 1)) := by rw [hbd, ext_list, htr]
                              have hns1 : nm.size ≤ 100000 := by rw [hnm, ByteArray.size_extract]; omega
                              have hbs1 : bd.size ≤ 100000 := by rw [hbd, ByteArray.size_extract]; omega
                              clear hA hB htr
                              go_wp2
                              go_region
                              rw [← hnm, ← hbd]
                              have hwb := HFF.out.2.1.size
                              have hww := HFF.out.2.2.size
                              have hF6 : FSo (wo.alloc (.cells #[.string nm, .string bd] 38 (0, 0))).drew wa.heap.size u10 F := World.ownsRow.alloc HFF.out.1 _
                              have hg6 : (wo.alloc (.cells #[.string nm, .string bd] 38 (0, 0))).drew.heap[wo.heap.size]? = some (.cells #[.string nm, .string bd] 38 (0, 0)) := heap_alloc_new wo _
                              have hb7 : Below wa.heap.size wa (wo.alloc (.cells #[.string nm, .string bd] 38 (0, 0))).drew := (HFF.out.2.1.alloc hwb _).drew
                              have hbw7 : Below w.heap.size w (wo.alloc (.cells #[.string nm, .string bd] 38 (0, 0))).drew := (HFF.out.2.2.alloc hww _).drew
                              have q0 : (wo.alloc (.cells #[.string nm, .string bd] 38 (0, 0))).drew.cell? ⟨wo.heap.size, 0, none⟩ = some (.string nm) := by rw [cell_of_row _ _ _ _ _ _ hg6]; rfl
                              have q1 : (wo.alloc (.cells #[.string nm, .string bd] 38 (0, 0))).drew.cell? ⟨wo.heap.size, 1, none⟩ = some (.string bd) := by rw [cell_of_row _ _ _ _ _ _ hg6]; rfl
                              generalize (wo.alloc (.cells #[.string nm, .string bd] 38 (0, 0))).drew = w5 at *
                              have c4 := fun W' => rright_any nm bd W' (by omega) (by omega)
                              rw [hnd, hbdd] at c4
                              have hjm := HGR.out.2.1
                              cases hr : rtF (W.data.toList.take c) (trB (W.data.toList.drop (c + 1))) with
                              | false =>
                                rw [hr] at c4
                                have hbad := HRO.out.1.bad HGR.out.1 (fieldOf_bad (by rw [HCU.out]; exact hr))
                                have HF := Lib.hid (And.intro (pa_fds HC.out.1 HFI.out (unf_grp (HRO.out.1.first_ HJB.out HNB.out)) hbad) hbw7)
                                clear hbad hr hnd hbdd hnm hbd hF6 hg6 hb7 hbw7
                                go_wp2_with fail
                                refine (c4 _).mono ?_
                                rintro e w6 ⟨rfl, hb6⟩
                                have HG := Lib.hid (ParseP.bad HF.out.1 (HF.out.2.trans (hb6.mono HF.out.2.size)))
                                clear c4 hb6
                                go_wp2
                                go_ret3
                                exact HG.out
                              | true =>
                                rw [hr] at c4
                                have hok := fieldOf_ok (w := W.data.toList) (by rw [HCU.out]) (by rw [HCU.out]; exact hr)
                                rw [HCU.out] at hok
                                have hnx := HRO.out.1.next HJB.out HNB.out HGR.out.1 (f := fdb (nm, bd)) (by rw [hok]; unfold fdb; rw [hnd, hbdd]) HGR.out.2.1 HGR.out.2.2
                                have hfd : fds (F ++ [(nm, bd)]) = fds F ++ [fdb (nm, bd)] := List.map_append ..
                                rw [← hfd] at hnx
                                have hsm2 : Small (F ++ [(nm, bd)]) := fun f hf => by
                                  rcases List.mem_append.1 hf with h | h
                                  · exact HRO.out.2.1 f h
                                  · rw [List.mem_singleton.1 h]; exact ⟨hns1, hbs1⟩
                                have hFn : F.length + 1 ≤ mm := by have := HRO.out.2.2; omega
                                have hFm : F.length + 1 ≤ 1000000000 := by omega
                                have HNX := Lib.hid (And.intro hnx (And.intro hsm2 (show (F ++ [(nm, bd)]).length ≤ mm by rw [List.length_append]; exact hFn)))
                                have HF := Lib.hid (And.intro hF6 (And.intro hg6 hb7))
                                clear hok hnx hfd hsm2 hr hnd hbdd hnm hbd hF6 hg6 hb7 hbw7
                                go_wp2_with fail
                                refine (c4 _).mono ?_
                                rintro e w6 ⟨rfl, hb6⟩
                                have hg7 := (hb6.block _ (lt_of_block HF.out.2.1)).trans HF.out.2.1
                                have p0 : w6.cell? ⟨wo.heap.size, 0, none⟩ = some (.string nm) := by rw [cell_of_row _ _ _ _ _ _ hg7]; rfl
                                have p1 : w6.cell? ⟨wo.heap.size, 1, none⟩ = some (.string bd) := by rw [cell_of_row _ _ _ _ _ _ hg7]; rfl
                                have hF7 := HF.out.1.below hb6
                                have hb8 := HF.out.2.2.trans (hb6.mono HF.out.2.2.size)
                                have hw8 := hb8.size
                                have HH := Lib.hid (And.intro hF7 hb8)
                                clear c4 hb6 hg7 hF7 hb8 q0 q1
                                go_wp2_with (at_builtin; refine wp_appfld rfl (.tmp 153) (.tmp 155) rfl wa.heap.size _ F rfl nm bd HH.out.1 rfl hFm hw8 ?_)
                                intro v' w7 hF8 _ hb9
                                have HZ := Lib.hid (And.intro hF8 (HH.out.2.trans hb9))
                                clear hF8 hb9
                                go_wp2
                                go_roundw
                                case rel => exact ⟨F ++ [(nm, bd)], mm, by omega, rfl, HZ.out.1, HNX, HZ.out.2⟩
                                case measure => simp [intOf]; omega
                        · obtain ⟨t1, t1'⟩ := u8F (n := 58) h58 rfl
                          have HI2 := Lib.hid (show ∀ (q : Nat) (h : q < W.data.toList.length), q < c + 1 → W.data.toList[q] ≠ 58 from fun q h hq => by
                            rcases Nat.lt_or_ge q c with h1 | h1
                            · exact hI.out q h h1
                            · obtain rfl : q = c := by omega
                              exact h58)
                          clear h58 hI hWe
                          go_wp2
                          go_roundw
                          case rel => exact ⟨c + 1, by omega, by go_num, HI2, by first | exact rfl | trivial⟩
                          case measure => simp [intOf]; omega
                      · obtain rfl : c = W.size := by omega
                        have hjE5 : ¬ (W.size : Int) < (W.size : Int) := by omega
                        have hno := cut_none (w := W.data.toList) (fun z hz => by
                          obtain ⟨q, hq, rfl⟩ := List.mem_iff_getElem.1 hz
                          exact hI.out q hq (by rw [← bsize]; exact hq))
                        have hbad := HRO.out.1.bad HGR.out.1 (fieldOf_no hno)
                        have HF := Lib.hid (ParseP.bad (pa_fds HC.out.1 HFI.out (unf_grp (HRO.out.1.first_ HJB.out HNB.out)) hbad) HFF.out.2.2)
                        clear hno hbad hI
                        go_wp2
                        go_ret3
                        exact HF.out
              · obtain rfl : j = m := by omega
                have hjE3 : ¬ (j : Int) < (j : Int) := by omega
                have hdn := hRO.out.1
                rw [HC.out.2.1, ← bss_len] at hdn
                obtain ⟨d1, d2⟩ := hdn.done
                have hpa := pa_end HC.out.1 HFI.out d1 d2
                rw [fds_len] at hpa
                have hsm := hRO.out.2.1
                obtain ⟨ao3, cap3, rfl⟩ := hF.shape
                obtain ⟨L, hL⟩ : ∃ L, L = F.length := ⟨_, rfl⟩
                have hLj : L ≤ j := by rw [hL]; exact hRO.out.2.2
                rw [← hL] at hpa hF ⊢
                have hL0 : (0 : Int) ≤ (L : Int) := by omega
                have hrest : (⟨(s.data.toList.drop fr).toArray⟩ : ByteArray) = s.extract fr s.size := by
                  apply eq_data.2
                  rw [ext_list, List.take_of_length_le (by rw [List.length_drop, bsize]; exact Nat.le_refl _)]
                by_cases h64 : 64 < L
                · have h64i : (64 : Int) < (L : Int) := by omega
                  rw [if_pos h64] at hpa
                  have HG := Lib.hid (ParseP.bad hpa hbw)
                  clear hdn d1 d2 hpa hF hbw hRO hbl h64 hrest hrow
                  go_wp2
                  go_ret3
                  exact HG.out
                · have h64i : ¬ (64 : Int) < (L : Int) := by omega
                  rw [if_neg h64] at hpa
                  have hfin : ∀ nd, ParseP s.data.toList w (.returned (.tuple #[.slice ao3 L cap3, .string (s.extract fr s.size), .int .i64 0])) (wo.drewN nd) := fun nd =>
                    ⟨F, ao3, L, cap3, by rw [hpa], (FSo.in_ hF).below (Below.drewN' (Below.refl _ _) nd), hsm, by omega, by rw [hpa, ← hrest], Below.drewN' hbw nd⟩
                  have HG := Lib.hid hfin
                  clear hdn d1 d2 hpa hF hbw hRO hbl h64 hrest hrow hfin hL
                  go_upto_region 46 with fail
                  go_quiet (fail)
                  go_wp2
                  go_ret3
                  exact HG.out _
end Go.Proofs.YtdaekoapkclliaaDoor
