/- The document's quoted: Encode. -/
import Derived.Test.YtjkonhpmfolcoaaDoorQuotE
import Derived.StillTailTactics
set_option linter.unusedVariables false
set_option linter.unusedSimpArgs false
namespace Go.Proofs.YtjkonhpmfolcoaaDoor
open Go.RowKit
theorem new2 (w : World) (a b : UInt8) (i : Nat) (hi : i < [a, b].length) : (w.alloc (.cells #[.int .u8 a.toNat, .int .u8 b.toNat] 5 (0, 0))).cell? ((⟨w.heap.size, 0, none⟩ : Addr).add i) = some (.int .u8 [a, b][i].toNat) := by
  have h1 := heap_alloc_new w (.cells #[.int .u8 a.toNat, .int .u8 b.toNat] 5 (0, 0))
  rw [Go.WideShapes.add_plain, Nat.zero_add, cell_of_row _ _ _ _ _ _ h1]
  match i, hi with
  | 0, _ => rfl
  | 1, _ => rfl
theorem new3 (w : World) (a b c : UInt8) (i : Nat) (hi : i < [a, b, c].length) : (w.alloc (.cells #[.int .u8 a.toNat, .int .u8 b.toNat, .int .u8 c.toNat] 5 (0, 0))).cell? ((⟨w.heap.size, 0, none⟩ : Addr).add i) = some (.int .u8 [a, b, c][i].toNat) := by
  have h1 := heap_alloc_new w (.cells #[.int .u8 a.toNat, .int .u8 b.toNat, .int .u8 c.toNat] 5 (0, 0))
  rw [Go.WideShapes.add_plain, Nat.zero_add, cell_of_row _ _ _ _ _ _ h1]
  match i, hi with
  | 0, _ => rfl
  | 1, _ => rfl
  | 2, _ => rfl
/-- Between the rounds of the document's Encode. -/
structure FI (w wr : World) (g cap : Nat) (ls : List ByteArray) (v : Value) (o : List UInt8) : Prop where
  own : BS wr w.heap.size v o
  row : StrsAt wr g cap ls
  below : Below w.heap.size w wr
theorem FI.app {w wr w' : World} {g cap : Nat} {ls : List ByteArray} {v v' : Value} {o o' : List UInt8} (h : FI w wr g cap ls v o) (h1 : BS w' w.heap.size v' o') (h2 : Chg w.heap.size (fun _ => False) wr w') : FI w w' g cap ls v' o' :=
  ⟨h1, h.row.chg h2 id, h.below.trans h2.below⟩
theorem FI.call {w wr w' : World} {g cap : Nat} {ls : List ByteArray} {v : Value} {o : List UInt8} (h : FI w wr g cap ls v o) (hb : Below wr.heap.size wr w') : FI w w' g cap ls v o :=
  ⟨h.own.below hb, h.row.chg (Chg.of_below hb (Nat.le_refl _) (fun _ => False)) id, h.below.trans (hb.mono h.below.size)⟩
set_option maxRecDepth 100000 in
set_option maxHeartbeats 4000000 in
theorem refencode_any (s : ByteArray) (w : World) (hs : s.size ≤ 1000000) :
    Calls Tryd.prog 13 #[.string s] w fun e w' => e = .returned (.string ⟨(enc s.data.toList).toArray⟩) ∧ Below w.heap.size w w' := by
  have hsz := bsize s
  have hsum := lns_sum s.data.toList
  have HS := Lib.hid (And.intro hsz hsum)
  have c1 := reflines_any s w hs
  clear hsum
  go_enter Tryd.func13, Tryd.ntmps13
  go_wp2_with fail
  refine c1.mono ?_
  rintro e w1 ⟨g, cap, ls, rfl, hg, hst, hls, hb1⟩
  have hll : (lns s.data.toList).length = ls.length := by rw [← hls, List.length_map]
  have hat : ∀ k (h : k < ls.length), (lns s.data.toList).getD k [] = ls[k].data.toList := fun k h => by
    rw [← hls]; simp [List.getD_eq_getElem?_getD, List.getElem?_eq_getElem h]
  have hN : ls.length ≤ 1000001 := by have := HS.out.2.2; omega
  have hF0 : FI w w1 g cap ls (.slice none 0 0) [] := ⟨BS.nil _ _, hst, hb1⟩
  have hcap1 := hst.room
  have hcap2 := hst.max
  unfold maxLen at hcap2
  have HF0 := Lib.hid hF0
  have HAT := Lib.hid hat
  have HLL := Lib.hid hll
  obtain ⟨N, hN'⟩ : ∃ N, N = ls.length := ⟨_, rfl⟩
  rw [← hN'] at hN hcap1 ⊢
  have HNN := Lib.hid hN'
  clear hN' hF0 hat hll hls hst hb1 c1 hg
  go_wp2
  go_loopw [4, 5] (fun v i wr => ∃ k : Nat, k ≤ N ∧ i = .int .i64 k ∧ FI w wr g cap ls v (encK (lns s.data.toList) k)) (fun _ i _ => N - (intOf i).toNat)
  case atStart => exact ⟨0, Nat.zero_le _, rfl, HF0.out⟩
  case round =>
    clear HF0
    obtain ⟨k, hk, rfl, hfi⟩ := hrel
    obtain ⟨wo, rfl⟩ : ∃ wo : World, wo = wr := ⟨_, rfl⟩
    have hk0 : (0 : Int) ≤ k := by omega
    by_cases hlt : k < N
    · have hkp : k < ls.length := by have := HNN.out; omega
      have hx := HAT.out k hkp
      have hxl : ((lns s.data.toList).getD k []).length ≤ s.data.toList.length := by
        refine HS.out.2.1 _ ?_
        rw [List.getD_eq_getElem?_getD, List.getElem?_eq_getElem (by rw [HLL.out]; exact hkp)]
        exact List.getElem_mem _
      have hol := encK_len s.data.toList k (by rw [HLL.out]; omega)
      rw [hsz] at hol hxl
      have HK : Hid (∀ o', o' = (if k = 0 then [] else encK (lns s.data.toList) k ++ [13, 10]) → encK (lns s.data.toList) (k + 1) = o' ++ (lineSt ((lns s.data.toList).getD k []) ((lns s.data.toList).getD k []).length).1) := fun o' h => by rw [h]; rfl
      rw [hx] at hxl
      rw [hx] at HK
      have hxs := bsize ls[k]
      rw [hxs] at hxl
      obtain ⟨x, hxx⟩ : ∃ x, x = ls[k] := ⟨_, rfl⟩
      have HCELL : Hid (∀ W, StrsAt W g cap ls → W.cell? ⟨g, k, none⟩ = some (.string x)) := fun W h => by rw [hxx]; exact h.cell k hkp
      rw [← hxx] at HK hxl hxs
      rw [hxs] at HK
      have HXS := Lib.hid hxs
      clear hx hxs hxx hkp
      have HFI := Lib.hid hfi
      have hwsz := hfi.below.size
      have hk1 : (k : Int) < (N : Int) := by omega
      clear hfi
      rcases (show k = 0 ∨ 0 < k by omega) with hk0' | hk0'
      · have hkz : (k : Int) ≤ 0 := by omega
        obtain ⟨o3, ho3⟩ : ∃ o3 : List UInt8, o3 = [] := ⟨_, rfl⟩
        have HO : Hid (o3 = (if k = 0 then [] else encK (lns s.data.toList) k ++ [13, 10])) := by unfold Hid; rw [if_pos hk0', ho3]
        have hol0 : o3.length ≤ 6 * s.size + 2 := by simp [ho3]
        have HFI3 : Hid (FI w wo g cap ls u4 o3) := by have h := HFI.out; rw [hk0'] at h; rw [ho3]; exact h
        clear hk0' HFI ho3
        go_wp2
        generalize decide (0 < k) = dk
        have hx2 : x.size ≤ 1000000 := by omega
        have HI0 : Hid (FI w wo g cap ls u4 (o3 ++ (lineSt x.data.toList 0).1)) := by
          unfold Hid
          simpa [lineSt] using HFI3.out
        clear HFI3
        go_loopw [4, 6, 7] (fun v n i wr => ∃ j : Nat, j ≤ x.size ∧ n = .int .i64 (lineSt x.data.toList j).2 ∧ i = .int .i64 j ∧ FI w wr g cap ls v (o3 ++ (lineSt x.data.toList j).1)) (fun _ _ i _ => x.size - (intOf i).toNat)
        case atStart => exact ⟨0, Nat.zero_le _, rfl, rfl, HI0.out⟩
        case round =>
          clear HI0
          obtain ⟨j, hj, rfl, rfl, hfi⟩ := hrel
          have hlw := lineSt_w x.data.toList j
          have hll := lineSt_len x.data.toList j
          have hj0 : (0 : Int) ≤ (j : Int) := by omega
          have hn0 : (0 : Int) ≤ ((lineSt x.data.toList j).2 : Int) := by omega
          have hcell := HCELL.out wr hfi.row
          by_cases hjl : j < x.size
          · have hjx : j < x.data.toList.length := by have := HXS.out; omega
            have hg : x.data.toList.getD j 0 = x[j] := by
              rw [List.getD_eq_getElem?_getD, List.getElem?_eq_getElem hjx]; rfl
            have hlb : (((j : Int) == (x.size : Int) - 1)) = decide (j + 1 = x.data.toList.length) := by
              have := HXS.out
              rw [Bool.eq_iff_iff]; simp; omega
            have hst : lineSt x.data.toList (j + 1) = putS (lineSt x.data.toList j) (signL x[j] (decide (j + 1 = x.data.toList.length))) := by rw [lineSt, hg]
            generalize decide (j + 1 = x.data.toList.length) = lb at hlb hst
            have hsl := signL_len x[j] lb
            have HST := Lib.hid hst
            have HFI4 := Lib.hid hfi
            have hwsz := hfi.below.size
            have c1 := refsign_any x[j] lb wr.drew
            have hj1 : (j : Int) < (x.size : Int) := by omega
            clear hg hst hfi
            go_wp2
            go_still_tail 14, (by kernel_rfl)
            change wpList _ _ _ _ _ wr.drew
            go_wp2_with fail
            rw [hlb]
            refine c1.mono ?_
            rintro e w5 ⟨rfl, hb5⟩
            have HFI5 := Lib.hid (HFI4.out.call (w' := w5) (below_undrew hb5))
            have hwsz5 := HFI5.out.below.size
            have hsz5 : (⟨(signL x[j] lb).toArray⟩ : ByteArray).size = (signL x[j] lb).length := lsize _
            have hto5 : (⟨(signL x[j] lb).toArray⟩ : ByteArray).data.toList = signL x[j] lb := rfl
            have HTO := Lib.hid hto5
            generalize (⟨(signL x[j] lb).toArray⟩ : ByteArray) = sg at *
            have h3 : sg.size ≤ 3 := by omega
            clear c1 hb5 hwsz HFI4 hcell hto5
            by_cases h75 : 75 < (lineSt x.data.toList j).2 + sg.size
            · have hi75 : (75 : Int) < ((lineSt x.data.toList j).2 : Int) + sg.size := by omega
              have H75 : Hid (lineSt x.data.toList (j + 1) = ((lineSt x.data.toList j).1 ++ [61, 13, 10] ++ signL x[j] lb, sg.size)) := by
                unfold Hid; rw [HST.out]; unfold putS; rw [if_pos (by omega), hsz5]
              clear h75 HST hsz5
              go_wp2_with (at_builtin; refine wp_app rfl (.tmp 51) (.tmp 52) rfl w.heap.size _ (o3 ++ (lineSt x.data.toList j).1) rfl (HFI5.out.own.alloc _) ⟨w5.heap.size, 0, none⟩ 3 3 [61, 13, 10] rfl rfl ?_ (by simp; omega) (by simp; omega) ?_)
              · intro i hi
                exact new3 w5 _ _ _ i hi
              intro v6 w6 hown6 hc6
              have HFI6 := Lib.hid (HFI5.out.app hown6 (((Chg.refl _ _ _).alloc hwsz5 _).trans hc6))
              have hwsz6 := HFI6.out.below.size
              clear hown6 hc6 HFI5 hwsz5
              go_wp2_with (at_builtin; refine wp_apps rfl (.tmp 54) (.tmp 55) rfl w.heap.size _ _ rfl HFI6.out.own sg rfl (by simp; omega) hwsz6 ?_)
              intro v7 w7 hown7 hc7
              have HFI7 : Hid (FI w w7 g cap ls v7 (o3 ++ (lineSt x.data.toList (j + 1)).1)) := by
                have h := HFI6.out.app hown7 hc7
                unfold Hid
                rw [H75.out]
                rw [HTO.out] at h
                simpa using h
              have HN7 : Hid ((lineSt x.data.toList (j + 1)).2 = sg.size) := by unfold Hid; rw [H75.out]
              clear hown7 hc7 HFI6 hwsz6 H75 hsl hlw hll hlb
              go_wp2
              go_roundw
              case rel => exact ⟨j + 1, by omega, by rw [HN7.out], by go_num, HFI7.out⟩
              case measure => simp [intOf]; omega
            · have hi75 : ((lineSt x.data.toList j).2 : Int) + sg.size ≤ 75 := by omega
              have H75 : Hid (lineSt x.data.toList (j + 1) = ((lineSt x.data.toList j).1 ++ signL x[j] lb, (lineSt x.data.toList j).2 + sg.size)) := by
                unfold Hid; rw [HST.out]; unfold putS; rw [if_neg (by omega), hsz5]
              clear h75 HST hsz5
              go_wp2_with (at_builtin; refine wp_apps rfl (.tmp 54) (.tmp 55) rfl w.heap.size _ (o3 ++ (lineSt x.data.toList j).1) rfl HFI5.out.own sg rfl (by simp; omega) hwsz5 ?_)
              intro v7 w7 hown7 hc7
              have HFI7 : Hid (FI w w7 g cap ls v7 (o3 ++ (lineSt x.data.toList (j + 1)).1)) := by
                have h := HFI5.out.app hown7 hc7
                unfold Hid
                rw [H75.out]
                rw [HTO.out] at h
                simpa using h
              have HN7 : Hid ((lineSt x.data.toList (j + 1)).2 = (lineSt x.data.toList j).2 + sg.size) := by unfold Hid; rw [H75.out]
              clear hown7 hc7 HFI5 hwsz5 H75 hsl hlw hll hlb
              go_wp2
              go_roundw
              case rel => exact ⟨j + 1, by omega, by rw [HN7.out]; go_num, by go_num, HFI7.out⟩
              case measure => simp [intOf]; omega
          · obtain rfl : j = x.size := by omega
            have HF : Hid (FI w wr g cap ls u4 (encK (lns s.data.toList) (k + 1))) := by
              unfold Hid
              rw [HK.out _ HO.out]
              exact hfi
            clear hfi hlw hll
            go_wp2
            go_roundw
            case rel => exact ⟨k + 1, by omega, by go_num, HF.out⟩
            case measure => simp [intOf]; omega
      · obtain ⟨o3, ho3⟩ : ∃ o3 : List UInt8, o3 = encK (lns s.data.toList) k ++ [13, 10] := ⟨_, rfl⟩
        have HO : Hid (o3 = (if k = 0 then [] else encK (lns s.data.toList) k ++ [13, 10])) := by unfold Hid; rw [if_neg (by omega), ho3]
        have hol0 : o3.length ≤ 6 * s.size + 2 := by rw [ho3]; simp; omega
        have hkz : (0 : Int) < (k : Int) := by omega
        have HO3 := Lib.hid ho3
        clear hk0' ho3
        go_wp2_with (at_builtin; refine wp_app rfl (.tmp 19) (.tmp 20) rfl w.heap.size _ (encK (lns s.data.toList) k) rfl (HFI.out.own.alloc _) ⟨wo.heap.size, 0, none⟩ 2 2 [13, 10] rfl rfl ?_ (by omega) (by simp; omega) ?_)
        · intro i hi
          exact new2 wo _ _ i hi
        intro v3 w3 hown3 hc3
        have HFI3 : Hid (FI w w3 g cap ls v3 o3) := by
          have h := HFI.out.app hown3 (((Chg.refl _ _ _).alloc hwsz _).trans hc3)
          rw [← HO3.out] at h
          exact h
        clear hown3 hc3 HFI hwsz HO3
        go_wp2
        have hx2 : x.size ≤ 1000000 := by omega
        have HI0 : Hid (FI w w3 g cap ls v3 (o3 ++ (lineSt x.data.toList 0).1)) := by
          unfold Hid
          simpa [lineSt] using HFI3.out
        clear HFI3
        go_loopw [4, 6, 7] (fun v n i wr => ∃ j : Nat, j ≤ x.size ∧ n = .int .i64 (lineSt x.data.toList j).2 ∧ i = .int .i64 j ∧ FI w wr g cap ls v (o3 ++ (lineSt x.data.toList j).1)) (fun _ _ i _ => x.size - (intOf i).toNat)
        case atStart => exact ⟨0, Nat.zero_le _, rfl, rfl, HI0.out⟩
        case round =>
          clear HI0
          obtain ⟨j, hj, rfl, rfl, hfi⟩ := hrel
          have hlw := lineSt_w x.data.toList j
          have hll := lineSt_len x.data.toList j
          have hj0 : (0 : Int) ≤ (j : Int) := by omega
          have hn0 : (0 : Int) ≤ ((lineSt x.data.toList j).2 : Int) := by omega
          have hcell := HCELL.out wr hfi.row
          by_cases hjl : j < x.size
          · have hjx : j < x.data.toList.length := by have := HXS.out; omega
            have hg : x.data.toList.getD j 0 = x[j] := by
              rw [List.getD_eq_getElem?_getD, List.getElem?_eq_getElem hjx]; rfl
            have hlb : (((j : Int) == (x.size : Int) - 1)) = decide (j + 1 = x.data.toList.length) := by
              have := HXS.out
              rw [Bool.eq_iff_iff]; simp; omega
            have hst : lineSt x.data.toList (j + 1) = putS (lineSt x.data.toList j) (signL x[j] (decide (j + 1 = x.data.toList.length))) := by rw [lineSt, hg]
            generalize decide (j + 1 = x.data.toList.length) = lb at hlb hst
            have hsl := signL_len x[j] lb
            have HST := Lib.hid hst
            have HFI4 := Lib.hid hfi
            have hwsz := hfi.below.size
            have c1 := refsign_any x[j] lb wr.drew
            have hj1 : (j : Int) < (x.size : Int) := by omega
            clear hg hst hfi
            go_wp2
            go_still_tail 14, (by kernel_rfl)
            change wpList _ _ _ _ _ wr.drew
            go_wp2_with fail
            rw [hlb]
            refine c1.mono ?_
            rintro e w5 ⟨rfl, hb5⟩
            have HFI5 := Lib.hid (HFI4.out.call (w' := w5) (below_undrew hb5))
            have hwsz5 := HFI5.out.below.size
            have hsz5 : (⟨(signL x[j] lb).toArray⟩ : ByteArray).size = (signL x[j] lb).length := lsize _
            have hto5 : (⟨(signL x[j] lb).toArray⟩ : ByteArray).data.toList = signL x[j] lb := rfl
            have HTO := Lib.hid hto5
            generalize (⟨(signL x[j] lb).toArray⟩ : ByteArray) = sg at *
            have h3 : sg.size ≤ 3 := by omega
            clear c1 hb5 hwsz HFI4 hcell hto5
            by_cases h75 : 75 < (lineSt x.data.toList j).2 + sg.size
            · have hi75 : (75 : Int) < ((lineSt x.data.toList j).2 : Int) + sg.size := by omega
              have H75 : Hid (lineSt x.data.toList (j + 1) = ((lineSt x.data.toList j).1 ++ [61, 13, 10] ++ signL x[j] lb, sg.size)) := by
                unfold Hid; rw [HST.out]; unfold putS; rw [if_pos (by omega), hsz5]
              clear h75 HST hsz5
              go_wp2_with (at_builtin; refine wp_app rfl (.tmp 51) (.tmp 52) rfl w.heap.size _ (o3 ++ (lineSt x.data.toList j).1) rfl (HFI5.out.own.alloc _) ⟨w5.heap.size, 0, none⟩ 3 3 [61, 13, 10] rfl rfl ?_ (by simp; omega) (by simp; omega) ?_)
              · intro i hi
                exact new3 w5 _ _ _ i hi
              intro v6 w6 hown6 hc6
              have HFI6 := Lib.hid (HFI5.out.app hown6 (((Chg.refl _ _ _).alloc hwsz5 _).trans hc6))
              have hwsz6 := HFI6.out.below.size
              clear hown6 hc6 HFI5 hwsz5
              go_wp2_with (at_builtin; refine wp_apps rfl (.tmp 54) (.tmp 55) rfl w.heap.size _ _ rfl HFI6.out.own sg rfl (by simp; omega) hwsz6 ?_)
              intro v7 w7 hown7 hc7
              have HFI7 : Hid (FI w w7 g cap ls v7 (o3 ++ (lineSt x.data.toList (j + 1)).1)) := by
                have h := HFI6.out.app hown7 hc7
                unfold Hid
                rw [H75.out]
                rw [HTO.out] at h
                simpa using h
              have HN7 : Hid ((lineSt x.data.toList (j + 1)).2 = sg.size) := by unfold Hid; rw [H75.out]
              clear hown7 hc7 HFI6 hwsz6 H75 hsl hlw hll hlb
              go_wp2
              go_roundw
              case rel => exact ⟨j + 1, by omega, by rw [HN7.out], by go_num, HFI7.out⟩
              case measure => simp [intOf]; omega
            · have hi75 : ((lineSt x.data.toList j).2 : Int) + sg.size ≤ 75 := by omega
              have H75 : Hid (lineSt x.data.toList (j + 1) = ((lineSt x.data.toList j).1 ++ signL x[j] lb, (lineSt x.data.toList j).2 + sg.size)) := by
                unfold Hid; rw [HST.out]; unfold putS; rw [if_neg (by omega), hsz5]
              clear h75 HST hsz5
              go_wp2_with (at_builtin; refine wp_apps rfl (.tmp 54) (.tmp 55) rfl w.heap.size _ (o3 ++ (lineSt x.data.toList j).1) rfl HFI5.out.own sg rfl (by simp; omega) hwsz5 ?_)
              intro v7 w7 hown7 hc7
              have HFI7 : Hid (FI w w7 g cap ls v7 (o3 ++ (lineSt x.data.toList (j + 1)).1)) := by
                have h := HFI5.out.app hown7 hc7
                unfold Hid
                rw [H75.out]
                rw [HTO.out] at h
                simpa using h
              have HN7 : Hid ((lineSt x.data.toList (j + 1)).2 = (lineSt x.data.toList j).2 + sg.size) := by unfold Hid; rw [H75.out]
              clear hown7 hc7 HFI5 hwsz5 H75 hsl hlw hll hlb
              go_wp2
              go_roundw
              case rel => exact ⟨j + 1, by omega, by rw [HN7.out]; go_num, by go_num, HFI7.out⟩
              case measure => simp [intOf]; omega
          · obtain rfl : j = x.size := by omega
            have HF : Hid (FI w wr g cap ls u4 (encK (lns s.data.toList) (k + 1))) := by
              unfold Hid
              rw [HK.out _ HO.out]
              exact hfi
            clear hfi hlw hll
            go_wp2
            go_roundw
            case rel => exact ⟨k + 1, by omega, by go_num, HF.out⟩
            case measure => simp [intOf]; omega
    · obtain rfl : k = N := by omega
      have hcv := hfi.own.conv
      have HB := Lib.hid hfi.below
      have HE : Hid (encK (lns s.data.toList) k = enc s.data.toList) := by unfold Hid enc; rw [HNN.out, HLL.out]
      rw [HE.out] at hcv
      clear hfi HE
      go_wp2
      go_ret
      exact ⟨rfl, HB.out⟩
end Go.Proofs.YtjkonhpmfolcoaaDoor
