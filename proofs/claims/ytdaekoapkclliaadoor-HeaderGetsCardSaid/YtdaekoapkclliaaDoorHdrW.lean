/- HeaderGets. -/
import Derived.Test.YtdaekoapkclliaaDoorHdrV
set_option linter.unusedVariables false
set_option linter.unusedSimpArgs false
namespace Go.Proofs.YtdaekoapkclliaaDoor
open Go.RowKit
set_option maxRecDepth 100000 in
set_option maxHeartbeats 16000000 in
theorem hgets_law (A : Option Addr) (n c : Nat) (xs : List Fld) (nm : ByteArray) (mn mb : ByteArray) (w : World) (hm : MaxAt w) (h1 : FldsIn w A n xs) (hs : nm.size ≤ maxLen) (hz : mn.size ≤ 9223372036854775807 ∧ mb.size ≤ 9223372036854775807) :
    Calls Tryd.prog 6 #[.slice A n c, .string nm, .agg #[.string mn, .string mb]] w fun e w' => e = .returned (.bool true) ∧ Below w.heap.size w w' := by
  have hgn := heap_alloc_new w (.cells #[.string mn, .string mb] 38 (0, 0))
  have hbn : Below w.heap.size w (w.alloc (.cells #[.string mn, .string mb] 38 (0, 0))) := (Below.refl _ w).alloc (Nat.le_refl _) _
  have c0 := awake_any (w.alloc (.cells #[.string mn, .string mb] 38 (0, 0))) (hm.below hbn)
  have H := Lib.hid (And.intro hm h1)
  have H0 := Lib.hid (And.intro hgn hbn)
  have hs0 : (0 : Int) ≤ (nm.size : Int) := by omega
  have hn0 : (0 : Int) ≤ (mn.size : Int) := by omega
  have hb0 : (0 : Int) ≤ (mb.size : Int) := by omega
  unfold maxLen at hs
  clear hm h1 hgn hbn
  go_enter Tryd.func6, Tryd.ntmps6
  go_wp2_with fail
  refine c0.mono ?_
  rintro e w1 ⟨rfl, hb1⟩
  have H1 := Lib.hid (And.intro ((hb1.block _ (lt_of_block H0.out.1)).trans H0.out.1) (H0.out.2.trans (hb1.mono H0.out.2.size)))
  have c1 := few_any A n c xs w1 (H.out.2.below H1.out.2)
  clear hb1 c0
  go_wp2_with fail
  refine c1.mono ?_
  rintro e w2 ⟨⟨f1, rfl, hf1⟩, hb2⟩
  have H2 := Lib.hid (And.intro ((hb2.block _ (lt_of_block H1.out.1)).trans H1.out.1) (H1.out.2.trans (hb2.mono H1.out.2.size)))
  have k0 : w2.cell? ⟨w.heap.size, 0, none⟩ = some (.string mn) := by rw [cell_of_row _ _ _ _ _ _ H2.out.1]; rfl
  have k1 : w2.cell? ⟨w.heap.size, 1, none⟩ = some (.string mb) := by rw [cell_of_row _ _ _ _ _ _ H2.out.1]; rfl
  clear c1 hb2
  cases f1 with
  | false =>
    clear hf1
    go_wp2
    go_ret
    exact ⟨rfl, H2.out.2⟩
  | true =>
    have HF := Lib.hid (hf1 rfl)
    clear hf1
    by_cases i1 : (200 : Int) < (nm.size : Int)
    · go_wp2
      go_ret
      exact ⟨rfl, H2.out.2⟩
    · by_cases i2 : (200 : Int) < (mn.size : Int)
      · go_wp2
        go_ret
        exact ⟨rfl, H2.out.2⟩
      · by_cases i3 : (1000 : Int) < (mb.size : Int)
        · go_wp2
          go_ret
          exact ⟨rfl, H2.out.2⟩
        · have cG := fun W A' n' c' ys (nm' : ByteArray) (hin : FldsIn W A' n' ys) (hsm : Small ys) (hz : nm'.size ≤ 100000) => get_any A' n' c' ys nm' W hin hsm hz
          have c3 := cG w2 A n c xs nm (H.out.2.below H2.out.2) HF.out.small (by omega)
          have hup := getB_up xs nm.data.toList
          have happ := getB_app xs (mn, mb) nm.data.toList
          have hcons : getB ((mn, mb) :: xs) nm.data.toList = if sameF mn.data.toList nm.data.toList = true then (mb, true) else getB xs nm.data.toList := rfl
          have hnone := getB_none (xs := xs) (nm := nm.data.toList)
          have cS := fun W => same_any mn nm W (by omega) (by omega)
          generalize sameF mn.data.toList nm.data.toList = sm at *
          generalize hgx : getB xs nm.data.toList = g at *
          obtain ⟨v, ok⟩ := g
          have hsm1 : Small (xs ++ [(mn, mb)]) := fun f hf => by
            rcases List.mem_append.1 hf with h | h
            · exact HF.out.small f h
            · rw [List.mem_singleton.1 h]; exact ⟨by show mn.size ≤ _; omega, by show mb.size ≤ _; omega⟩
          have hsm2 : Small ((mn, mb) :: xs) := fun f hf => by
            rcases List.mem_cons.1 hf with h | h
            · rw [h]; exact ⟨by show mn.size ≤ _; omega, by show mb.size ≤ _; omega⟩
            · exact HF.out.small f h
          have hnmz : nm.size ≤ 200 := by omega
          have hnl : n ≤ 100 := by rw [← H.out.2.len]; exact HF.out.2
          have HP := Lib.hid (And.intro hup (And.intro happ (And.intro hcons (And.intro hnone (And.intro hsm1 (And.intro hsm2 hgx))))))
          clear hup happ hcons hnone hsm1 hsm2 hgx
          go_wp2_with fail
          refine c3.mono ?_
          rintro e w3 ⟨rfl, hb3⟩
          have H3 := Lib.hid (And.intro ((hb3.block _ (lt_of_block H2.out.1)).trans H2.out.1) (H2.out.2.trans (hb3.mono H2.out.2.size)))
          clear c3 hb3 k0 k1
          -- the name in other letters
          have hcv := Lib.run_convert_string_bytes (P := Tryd.prog) w3 9 42 5 nm Tryd.underlying9 Tryd.underlying42 Tryd.underlying5
          obtain ⟨cap, hcap⟩ : ∃ cap, cap = grownCap w3 nm.size 0 5 := ⟨_, rfl⟩
          have hcaps : nm.size ≤ cap := by rw [hcap]; exact grownCap_ge w3 nm.size 0 _
          rw [← hcap] at hcv
          have hb4 : Below w3.heap.size w3 (Lib.bytesWorld w3 5 nm) := ⟨rfl, rfl, rfl, by rw [Lib.bytesWorld_size]; omega, fun k hk => Lib.bytesWorld_at_old w3 _ nm k hk⟩
          have hg4 : ∃ R z z', (Lib.bytesWorld w3 5 nm).heap[w3.heap.size]? = some (.cells (bcells nm.data.toList ++ R).toArray 5 (z, z')) ∧ nm.size ≤ z := by
            refine ⟨List.replicate (grownCap w3 nm.size 0 5 - nm.size) (.int .u8 0), (Lib.bytesCells w3 5 nm).size, (Lib.bytesCells w3 5 nm).size + 1, ?_, ?_⟩
            · rw [Lib.bytesWorld_at_new]
              congr 2
              unfold Lib.bytesCells
              apply Array.ext'
              simp [bcells]
            · unfold Lib.bytesCells
              rw [Array.size_append, Array.size_map]
              show nm.data.size ≤ _
              omega
          obtain ⟨R, z, z', hg4, hz4⟩ := hg4
          have hsl := bsize nm
          have hsc : (nm.size : Int) ≤ (cap : Int) := by omega
          generalize Lib.bytesWorld w3 5 nm = w4 at *
          obtain ⟨G, hG⟩ : ∃ G, G = w3.heap.size := ⟨_, rfl⟩
          have H4 := Lib.hid (And.intro (hb4.mono (Nat.le_refl _)) (And.intro hg4 (And.intro hsl (And.intro hz4 hG))))
          clear hcap hb4 hg4 hsl hz4 hcaps
          go_wp2
          clear hcv
          go_loopw [10] (fun i wr => ∃ k : Nat, k ≤ nm.size ∧ i = .int .i64 k ∧ wr.heap[w3.heap.size]? = some (.cells (bcells (upK nm.data.toList k) ++ R).toArray 5 (z, z')) ∧ Below w3.heap.size w3 wr) (fun i _ => nm.size - (intOf i).toNat)
          case atStart => exact ⟨0, Nat.zero_le _, rfl, by have := H4.out.2.1; simpa [upK] using this, H4.out.1⟩
          case round =>
            obtain ⟨k, hk, rfl, hg, hbl⟩ := hrel
            have hk0 : (0 : Int) ≤ (k : Int) := by omega
            by_cases hlt : k < nm.size
            · have hki : (k : Int) < (nm.size : Int) := by omega
              have hl : k < nm.data.toList.length := by rw [H4.out.2.2.1]; exact hlt
              have hlk : k < (upK nm.data.toList k).length := by rw [upK_len]; exact hl
              obtain ⟨cc, hc⟩ : ∃ c, c = nm.data.toList[k] := ⟨_, rfl⟩
              obtain ⟨x, hx⟩ : ∃ x : Int, x = (cc.toNat : Int) := ⟨_, rfl⟩
              have hcell : wr.cell? ⟨w3.heap.size, k, none⟩ = some (.int .u8 x) := by
                rw [cell_of_row _ _ _ _ _ _ hg, List.getElem?_toArray, List.getElem?_append_left (by rw [bcells_length]; exact hlk), bcells_get hlk, upK_at hl, hx, hc]
              have hfr : wr.frozen? ⟨w3.heap.size, k, none⟩ = false := frozen_mark hg (by have := H4.out.2.2.2.1; omega)
              have hx0 : 0 ≤ x := by omega
              have hnx := upK_next hl
              rw [← hc] at hnx
              have hst : ∀ v : Int, v = ((upB cc).toNat : Int) → (wr.setCell ⟨w3.heap.size, k, none⟩ (.int .u8 v)).heap[w3.heap.size]? = some (.cells (bcells (upK nm.data.toList (k + 1)) ++ R).toArray 5 (z, z')) := fun v hv => by
                rw [setCell_heap hg, bcells_set _ _ (upB cc) _ hlk v hv, hnx]
              by_cases h97 : 97 ≤ x ∧ x ≤ 122
              · obtain ⟨h1, h2⟩ := h97
                have hup := upB_up hx h1 h2
                have hw1 : IntKind.u8.wrap (x - 32) = x - 32 := IntWalk.u8_in _ (by omega)
                have HS := Lib.hid (And.intro (hst (x - 32) hup.symm) ((hbl.setCell (p := ⟨w3.heap.size, k, none⟩) (Nat.le_refl _) (.int .u8 (x - 32)))))
                clear hg hbl hl hlk hc hx hnx hst hup
                go_wp2
                go_roundw
                case rel => exact ⟨k + 1, by omega, by go_num, HS.out.1, HS.out.2⟩
                case measure => simp [intOf]; omega
              · have hno := upB_no hx h97
                have hgk : wr.heap[w3.heap.size]? = some (.cells (bcells (upK nm.data.toList (k + 1)) ++ R).toArray 5 (z, z')) := by
                  rw [hnx, hno, hc, ← upK_at hl, set_self hlk]; exact hg
                have HS := Lib.hid (And.intro hgk hbl)
                clear hg hbl hl hlk hc hx hnx hst hno hgk
                rcases (show ¬ 97 ≤ x ∨ (97 ≤ x ∧ ¬ x ≤ 122) by omega) with h1 | ⟨h1, h2⟩
                all_goals
                  clear h97
                  go_wp2
                  go_roundw
                  case rel => exact ⟨k + 1, by omega, by go_num, HS.out.1, HS.out.2⟩
                  case measure => simp [intOf]; omega
            · obtain rfl : k = nm.size := by omega
              have hjE : ¬ (nm.size : Int) < (nm.size : Int) := by omega
              obtain ⟨RR, hRR⟩ : ∃ RR : ByteArray, RR = ⟨(upS nm.data.toList).toArray⟩ := ⟨_, rfl⟩
              have hcv2 : (convert 42 9 (.slice (some ⟨w3.heap.size, 0, none⟩) nm.size cap)).run Tryd.prog wr = .ok (.string RR) wr := by
                rw [hRR]
                refine conv_new (R := R) (T := 5) (fz := (z, z')) (l := upS nm.data.toList) ?_ (by unfold upS; rw [List.length_map]; exact H4.out.2.2.1)
                rw [hg]
                unfold upK upS
                rw [List.take_of_length_le (by rw [H4.out.2.2.1]; exact Nat.le_refl _), List.drop_of_length_le (by rw [H4.out.2.2.1]; exact Nat.le_refl _), List.append_nil]
              have hRd : RR.data.toList = upS nm.data.toList := by rw [hRR]
              have hRz : RR.size = nm.size := by rw [← bsize, hRd]; unfold upS; rw [List.length_map]; exact bsize nm
              have H5 := Lib.hid (And.intro ((hbl.block _ (lt_of_block H3.out.1)).trans H3.out.1) (H3.out.2.trans (hbl.mono H3.out.2.size)))
              have c4 := cG wr A n c xs RR (H.out.2.below H5.out.2) HF.out.small (by omega)
              rw [hRd, HP.out.1] at c4
              clear hg hbl hRR hRd hRz
              go_wp2_with fail
              refine c4.mono ?_
              rintro e w6 ⟨rfl, hb6⟩
              have H6 := Lib.hid (And.intro ((hb6.block _ (lt_of_block H5.out.1)).trans H5.out.1) (H5.out.2.trans (hb6.mono H5.out.2.size)))
              clear c4 hb6 hcv2
              obtain ⟨g2, hg2⟩ : ∃ g2 : ByteArray × Bool, g2 = if ok = true then (v, ok) else if sm = true then (mb, true) else (⟨#[]⟩, false) := ⟨_, rfl⟩
              have c5 := fun W A' c' (hin : FldsIn W A' (xs.length + 1) (xs ++ [(mn, mb)])) => cG W A' _ c' _ nm hin HP.out.2.2.2.2.1 (by omega)
              rw [HP.out.2.1, ← hg2] at c5
              obtain ⟨U, uo⟩ := g2
              obtain ⟨C, hCd⟩ : ∃ C : World → Prop, C = fun W => Hid (Below w6.heap.size w6 W) := ⟨_, rfl⟩
              have key : ∀ W, C W → W.cell? ⟨w.heap.size, 0, none⟩ = some (.string mn) ∧ W.cell? ⟨w.heap.size, 1, none⟩ = some (.string mb) ∧ C W := by
                intro W h
                have hb := h
                rw [hCd] at hb
                have hg := (hb.out.block _ (lt_of_block H6.out.1)).trans H6.out.1
                exact ⟨by rw [cell_of_row _ _ _ _ _ _ hg]; rfl, by rw [cell_of_row _ _ _ _ _ _ hg]; rfl, h⟩
              have hCs : ∀ W, C W → C W.drew := fun W h => by rw [hCd] at h ⊢; exact Lib.hid h.out.drew
              have hC2 : C w6 := by rw [hCd]; exact Lib.hid (Below.refl _ _)
              have hCk : ∀ W o, C W → C (W.alloc o) := fun W o h => by rw [hCd] at h ⊢; exact Lib.hid (h.out.alloc h.out.size o)
              have hCb : ∀ W W', C W → Below w6.heap.size W W' → C W' := fun W W' h h' => by rw [hCd] at h ⊢; exact Lib.hid (h.out.trans h')
              have hCz : ∀ W, C W → w6.heap.size ≤ W.heap.size ∧ Below w.heap.size w W := fun W h => by rw [hCd] at h; exact ⟨h.out.size, H6.out.2.trans (h.out.mono H6.out.2.size)⟩
              have hI : ∀ W, (W.cell? ⟨w.heap.size, 0, none⟩ = some (.string mn) ∧ W.cell? ⟨w.heap.size, 1, none⟩ = some (.string mb) ∧ C W) → FldsIn W A n xs ∧ w6.heap.size ≤ W.heap.size := fun W h => ⟨H.out.2.below (hCz W h.2.2).2, (hCz W h.2.2).1⟩
              have HLL := Lib.hid (And.intro (show ([] : List Fld).length + n ≤ 1000000 by simp; omega) (show xs.length + 1 ≤ 1000000 by rw [H.out.2.len]; omega))
              have KY := Lib.hid key
              have HCS := Lib.hid hCs
              have HCK := Lib.hid hCk
              have HCB := Lib.hid hCb
              have HCZ := Lib.hid hCz
              have HI := Lib.hid hI
              have HC5 := Lib.hid c5
              have HG2 := Lib.hid hg2
              clear key hCs hCk hCb hCz hI hCd c5 hg2
              go_upto_region 13 with fail
              go_cut [13, 14] (fun a b wx => a = .string U ∧ b = .bool uo ∧ C wx)
              case first =>
                obtain ⟨m0, m1, mC⟩ := KY.out _ hC2
                have m0a : ∀ o, (w6.alloc o).cell? ⟨w.heap.size, 0, none⟩ = some (.string mn) := fun o => (KY.out _ (HCK.out _ o hC2)).1
                have m1a : ∀ o, (w6.alloc o).cell? ⟨w.heap.size, 1, none⟩ = some (.string mb) := fun o => (KY.out _ (HCK.out _ o hC2)).2.1
                go_region_law (first
                    | (refine step_appFs rfl (.tmp 81) (.tmp 82) rfl w6.heap.size _ [] rfl ?_ A n c xs rfl (HI.out _ (KY.out _ ?_)).1 HLL.out.1 (HI.out _ (KY.out _ ?_)).2 ?_
                       · repeat (first | with_reducible refine FSo.drew1 ?_ | exact FSo.empty1 (by simp) (by simp) | with_reducible refine FSo.alloc1 ?_ _)
                       · repeat (first | exact hC2 | refine HCS.out _ ?_ | refine HCK.out _ _ ?_)
                       · repeat (first | exact hC2 | refine HCS.out _ ?_ | refine HCK.out _ _ ?_)
                       intro v5 w5 ho5 hb5 hg5
                       rw [List.nil_append] at ho5
                       obtain ⟨m05, m15, mC5⟩ := KY.out _ (HCB.out _ _ (by repeat (first | exact hC2 | refine HCS.out _ ?_ | refine HCK.out _ _ ?_)) hb5))
                    | (refine step_appFs rfl (.tmp 83) (.tmp 85) rfl w6.heap.size _ xs rfl ?_ (some ⟨_, 0, none⟩) 1 1 [(mn, mb)] rfl ?_ HLL.out.2 (HI.out _ (KY.out _ ?_)).2 ?_
                       · repeat (first | exact ho5 | with_reducible refine FSo.drew1 ?_ | with_reducible refine FSo.alloc1 ?_ _)
                       · repeat (first | with_reducible refine FldsIn.drew1 ?_ | exact FldsIn.one1 (by simp) | with_reducible refine FldsIn.alloc1 ?_ _ | (refine FldsIn.grown ?_ hg5 (by simp [Value.ownBlock, go_sem]) (by decide)))
                       · repeat (first | exact mC5 | refine HCS.out _ ?_ | refine HCK.out _ _ ?_)
                       intro v7 w7 ho7 hb7 hg7
                       obtain ⟨A7, c7, rfl⟩ := ho7.shape
                       have hi7 : FldsIn w7 A7 (xs.length + 1) (xs ++ [(mn, mb)]) := by have h9 := FSo.in_ ho7; rw [List.length_append] at h9; exact h9
                       have mC7 := HCB.out _ _ (by repeat (first | exact mC5 | refine HCS.out _ ?_ | refine HCK.out _ _ ?_)) hb7)
                    | (go_simp; go_at_call 15; (with_reducible refine (HC5.out _ _ _ hi7).mono ?_); rintro e w8 ⟨rfl, hb8⟩))
                all_goals
                  go_wp2
                  go_meet
                  exact ⟨rfl, rfl, HCB.out _ _ mC7 (hb8.mono (HCZ.out _ mC7).1)⟩
              case rest =>
                obtain ⟨rfl, rfl, hCw⟩ := hcut
                obtain ⟨m0, m1, mC⟩ := KY.out _ hCw
                have hbw := (HCZ.out _ hCw).2
                have hz6 := (HCZ.out _ hCw).1
                obtain ⟨g3, hg3⟩ : ∃ g3 : ByteArray × Bool, g3 = if sm = true then (mb, true) else (v, ok) := ⟨_, rfl⟩
                have c6 := fun W A' c' (hin : FldsIn W A' (xs.length + 1) ((mn, mb) :: xs)) => cG W A' _ c' _ nm hin HP.out.2.2.2.2.2.1 (by omega)
                rw [HP.out.2.2.1, ← hg3] at c6
                obtain ⟨X, xo⟩ := g3
                have HB := Lib.hid (And.intro hbw (And.intro hz6 hCw))
                have HG3 := Lib.hid hg3
                have ho0 := FSo.one wc wc.heap.size (Nat.le_refl _) mn mb
                have hi0 := (H.out.2.below hbw).alloc1 (.cells #[.string mn, .string mb] 38 (0, 0))
                have hsz0 : wc.heap.size ≤ (wc.alloc (.cells #[.string mn, .string mb] 38 (0, 0))).heap.size := by rw [size_alloc]; omega
                have HO := Lib.hid (And.intro ho0 hi0)
                have hl1 : [(mn, mb)].length + n ≤ 1000000 := by show 1 + n ≤ _; omega
                clear hbw hz6 hg3 hCw ho0 hi0 mC HC5 HCS HCK HCB HI HLL
                go_wp2_with (at_builtin; refine wp_appFs rfl (.tmp 93) (.tmp 94) rfl wc.heap.size _ [(mn, mb)] rfl HO.out.1 A n c xs rfl HO.out.2 hl1 hsz0 ?_)
                intro v7 w7 ho7 hb7
                obtain ⟨A7, c7, rfl⟩ := ho7.shape
                have hi7 : FldsIn w7 A7 (xs.length + 1) ((mn, mb) :: xs) := FSo.in_ ho7
                have c8 := c6 w7 A7 c7 hi7
                have H7 := Lib.hid ((HB.out.1.alloc HB.out.1.size (.cells #[.string mn, .string mb] 38 (0, 0))).trans (hb7.mono HB.out.1.size))
                have hg7 := (hb7.block w.heap.size (by have := lt_of_block H6.out.1; have := HB.out.2.1; omega))
                have hk7 : w7.cell? ⟨w.heap.size, 0, none⟩ = some (.string mn) ∧ w7.cell? ⟨w.heap.size, 1, none⟩ = some (.string mb) := by
                  have hlt6 := lt_of_block H6.out.1
                  have e : w7.heap[w.heap.size]? = wc.heap[w.heap.size]? := hg7.trans (Below.heap_alloc _ _ _ (by have := HB.out.2.1; omega))
                  constructor
                  · rw [← m0]; unfold World.cell?; simp only [e]
                  · rw [← m1]; unfold World.cell?; simp only [e]
                clear ho7 hb7 hi7 c6 hsz0 hl1 hg7 m0 m1
                obtain ⟨k0, k1⟩ := hk7
                go_wp2_with fail
                refine c8.mono ?_
                rintro e w8 ⟨rfl, hb8⟩
                have q0 := (hb8.cell (p := ⟨w.heap.size, 0, none⟩) (World.block_lt_of_cell? _ _ k0)).trans k0
                have q1 := (hb8.cell (p := ⟨w.heap.size, 1, none⟩) (World.block_lt_of_cell? _ _ k1)).trans k1
                have H8 := Lib.hid (H7.out.trans (hb8.mono H7.out.size))
                have hp := HP.out.2.2.2.1
                have hg2 := HG2.out
                have hg3 := HG3.out
                clear k0 k1 hb8 c8 HP HG2 HG3 H7
                cases ok <;> cases sm
                all_goals
                  simp only [Bool.false_eq_true, if_false, if_true, Prod.mk.injEq] at hg2 hg3
                  obtain ⟨rfl, rfl⟩ := hg2
                  obtain ⟨rfl, rfl⟩ := hg3
                  try
                    have hv0 := hp rfl
                    subst hv0
                  clear hp
                  go_wp2_with fail
                  refine (cS _).mono ?_
                  rintro e w9 ⟨rfl, hb9⟩
                  have q2 := (hb9.cell (p := ⟨w.heap.size, 0, none⟩) (World.block_lt_of_cell? _ _ q0)).trans q0
                  have q3 := (hb9.cell (p := ⟨w.heap.size, 1, none⟩) (World.block_lt_of_cell? _ _ q1)).trans q1
                  have H9 := Lib.hid (H8.out.trans (hb9.mono H8.out.size))
                  clear q0 q1 hb9
                  go_wp2
                  go_ret
                  exact ⟨rfl, H9.out⟩
end Go.Proofs.YtdaekoapkclliaaDoor
