/- The document's lattice: Join, Meet. -/
import Derived.Test.YtmcianehedhfeaaGreatDoorRfC
import Derived.Test.YtmcianehedhfeaaGreatDoorLatO
set_option linter.unusedVariables false
set_option linter.unusedSimpArgs false
namespace Go.Proofs.YtmcianehedhfeaaGreatDoor
open Go.RowKit
theorem or_next (m n i : Nat) : (m ||| n) % 2 ^ (i + 1) = if hasB m i = true ∨ hasB n i = true then (m ||| n) % 2 ^ i + 2 ^ i else (m ||| n) % 2 ^ i := by
  rw [mod_next]
  by_cases h : (m ||| n) / 2 ^ i % 2 = 1
  · rw [if_pos h, if_pos (by rw [hasB_true, hasB_true]; exact (or_bit m n i).1 h)]
  · rw [if_neg h, if_neg (by rw [hasB_true, hasB_true]; exact fun x => h ((or_bit m n i).2 x))]; omega
theorem and_next (m n i : Nat) : (m &&& n) % 2 ^ (i + 1) = if hasB m i = true ∧ hasB n i = true then (m &&& n) % 2 ^ i + 2 ^ i else (m &&& n) % 2 ^ i := by
  rw [mod_next]
  by_cases h : (m &&& n) / 2 ^ i % 2 = 1
  · rw [if_pos h, if_pos (by rw [hasB_true, hasB_true]; exact (and_bit m n i).1 h)]
  · rw [if_neg h, if_neg (by rw [hasB_true, hasB_true]; exact fun x => h ((and_bit m n i).2 x))]; omega
set_option maxRecDepth 100000 in
set_option maxHeartbeats 8000000 in
theorem rjoin_any (a b : Int) (m n : Nat) (hm : m < M64) (hn : n < M64) (w : World) :
    Calls Tryz.prog 17 #[labV a m, labV b n] w fun e w' => e = .returned (labV (max a b) (m ||| n)) ∧ Below w.heap.size w w' := by
  unfold labV
  have hML : (m ||| n) < M64 := or_lt hm hn
  obtain ⟨V, hV⟩ : ∃ V : Int, V = max a b := ⟨_, rfl⟩
  rw [← hV]
  have HML := Lib.hid hML
  have HM := Lib.hid (And.intro hm hn)
  clear hML
  have hbx := box3 w (.cells #[.int .i64 a, .int .u64 (m : Int)] 27 (0, 0)) (.cells #[.int .i64 b, .int .u64 (n : Int)] 27 (0, 0)) (.cells #[.int .i64 0, .int .u64 0] 27 (0, 0))
  have hb3 := below3 w (.cells #[.int .i64 a, .int .u64 (m : Int)] 27 (0, 0)) (.cells #[.int .i64 b, .int .u64 (n : Int)] 27 (0, 0)) (.cells #[.int .i64 0, .int .u64 0] 27 (0, 0))
  have hsz : (((w.alloc (.cells #[.int .i64 a, .int .u64 (m : Int)] 27 (0, 0))).alloc (.cells #[.int .i64 b, .int .u64 (n : Int)] 27 (0, 0))).alloc (.cells #[.int .i64 0, .int .u64 0] 27 (0, 0))).heap.size = w.heap.size + 1 + 1 + 1 := by simp only [size_alloc]
  by_cases hab : a < b
  · obtain rfl : b = V := by omega
    clear hV
    go_enter Tryz.func17, Tryz.ntmps17
    go_wp2_with fail
    generalize (((w.alloc (.cells #[.int .i64 a, .int .u64 (m : Int)] 27 (0, 0))).alloc (.cells #[.int .i64 b, .int .u64 (n : Int)] 27 (0, 0))).alloc (.cells #[.int .i64 0, .int .u64 0] 27 (0, 0))) = w1 at *
    obtain ⟨C, hCd⟩ : ∃ C : World → Prop, C = fun w3 => Hid (Below w1.heap.size w1 w3) := ⟨_, rfl⟩
    have key2 : ∀ w3, C w3 → w3.cell? ⟨w.heap.size, 0, none⟩ = some (.int .i64 a) ∧ w3.cell? ⟨w.heap.size, 1, none⟩ = some (.int .u64 (m : Int)) ∧ w3.cell? ⟨w.heap.size + 1, 0, none⟩ = some (.int .i64 b) ∧ w3.cell? ⟨w.heap.size + 1, 1, none⟩ = some (.int .u64 (n : Int)) ∧ w3.cell? ⟨w.heap.size + 1 + 1, 0, none⟩ = some (.int .i64 0) ∧ w3.cell? ⟨w.heap.size + 1 + 1, 1, none⟩ = some (.int .u64 0) ∧ C w3 := by
      intro w3 h
      have hb := h
      rw [hCd] at hb
      obtain ⟨x0, y0⟩ := agg_keep hbx.1 hb.out
      obtain ⟨x1, y1⟩ := agg_keep hbx.2.1 hb.out
      obtain ⟨x2, y2⟩ := agg_keep hbx.2.2 hb.out
      exact ⟨x0, y0, x1, y1, x2, y2, h⟩
    have hCs : ∀ w3, C w3 → C w3.drew := fun w3 h => by rw [hCd] at h ⊢; exact Lib.hid h.out.drew
    have hC2 : C w1 := by rw [hCd]; exact Lib.hid (Below.refl _ _)
    have hCb : ∀ w3, C w3 → Below w.heap.size w w3 := fun w3 h => by rw [hCd] at h; exact hb3.trans (h.out.mono hb3.size)
    have hCn : ∀ W W', C W → Below W.heap.size W W' → C W' := fun W W' h h' => by rw [hCd] at h ⊢; exact Lib.hid (h.out.trans (h'.mono h.out.size))
    have hCk : ∀ W o, C W → C (W.alloc o) := fun W o h => hCn W _ h ((Below.refl _ W).alloc (Nat.le_refl _) o)
    have HCK := Lib.hid hCk
    have HCB := Lib.hid hCb
    have HCN := Lib.hid hCn
    have HCS := Lib.hid hCs
    have HKY := Lib.hid key2
    have hrb : ∀ W, C W → W.heap[w.heap.size + 1 + 1]? = some (.cells #[.int .i64 0, .int .u64 0] 27 (0, 0)) := fun W h => by rw [hCd] at h; exact (h.out.block _ (lt_of_block hbx.2.2)).trans hbx.2.2
    have hst : ∀ W g i v, C W → w1.heap.size ≤ g → C (W.setCell ⟨g, i, none⟩ v) := fun W g i v h hg => by rw [hCd] at h ⊢; exact Lib.hid (h.out.setCell (p := ⟨g, i, none⟩) hg v)
    have HRB := Lib.hid hrb
    have HST := Lib.hid hst
    clear hrb hst
    clear hCb hCn hCs hCk key2 hbx hb3 hCd
    have cA := fun (i : Nat) (hi : i < 64) W => has_any a m i HM.out.1 hi W
    have cB := fun (i : Nat) (hi : i < 64) W => has_any b n i HM.out.2 hi W
    clear hm hn
    unfold labV at cA cB
    have gN := heap_alloc_new w1 (.cells #[.int .i64 b, .int .u64 0] 27 (0, 0))
    have hCN := HCK.out w1 (.cells #[.int .i64 b, .int .u64 0] 27 (0, 0)) hC2
    rw [hsz] at gN
    clear hC2
    go_loopw [6] (fun i wr => ∃ j : Nat, j ≤ 64 ∧ i = .int .i64 j ∧ wr.heap[w.heap.size + 1 + 1 + 1]? = some (.cells #[.int .i64 b, .int .u64 (((m ||| n) % 2 ^ j : Nat) : Int)] 27 (0, 0)) ∧ C wr) (fun i _ => 64 - (intOf i).toNat)
    case atStart => exact ⟨0, by decide, rfl, by rw [Nat.pow_zero, Nat.mod_one]; exact gN, hCN⟩
    case round =>
      clear gN hCN
      obtain ⟨j, hj, rfl, hlab, hCr⟩ := hrel
      have hj0 : (0 : Int) ≤ (j : Int) := by omega
      obtain ⟨r0, r1, r2, r3, r4, r5, rC⟩ := HKY.out _ hCr
      by_cases hlt : j < 64
      · have hji : (j : Int) < 64 := by omega
        have c1 := cA j hlt wr
        have hnx := or_next m n j
        have hmod : (m ||| n) % 2 ^ j < 2 ^ j := Nat.mod_lt _ (Nat.two_pow_pos j)
        have hwr0 : IntKind.u64.wrap ((((m ||| n) % 2 ^ j : Nat) : Int) + ((2 ^ j : Nat) : Int)) = (((m ||| n) % 2 ^ j + 2 ^ j : Nat) : Int) := by
          have hp := rpow_in hlt
          have hp2 : 2 ^ j + 2 ^ j ≤ 18446744073709551616 := by
            have : 2 ^ (j + 1) ≤ 2 ^ 64 := Nat.pow_le_pow_right (by decide) (by omega)
            rw [Nat.pow_succ] at this; omega
          generalize (m ||| n) % 2 ^ j = z at *
          generalize 2 ^ j = p at *
          rw [IntWalk.u64_in _ (by omega)]; omega
        clear hmod
        cases hba : hasB m j with
        | true =>
          rw [hba] at c1
          go_wp2_with fail
          refine c1.mono ?_
          rintro e wb ⟨rfl, hbb⟩
          have hCb := HCN.out _ _ hCr hbb
          have hlab2 := (hbb.block _ (lt_of_block hlab)).trans hlab
          clear c1 hbb hlab r0 r1 r2 r3 r4 r5 rC
          rw [hba] at hnx
          have HN := Lib.hid (hnx.trans (if_pos (by simp)))
          clear hnx hba
          obtain ⟨b0, b1, b2, b3, b4, b5, bC⟩ := HKY.out _ hCb
          have c1 : wb.cell? ⟨w.heap.size + 1 + 1 + 1, 1, none⟩ = some (.int .u64 (((m ||| n) % 2 ^ j : Nat) : Int)) := by rw [cell_of_row _ _ _ _ _ _ hlab2]; rfl
          have f1 : wb.frozen? ⟨w.heap.size + 1 + 1 + 1, 1, none⟩ = false := frozen_of_row _ _ _ _ _ hlab2
          have hstc := HST.out wb (w.heap.size + 1 + 1 + 1) 1 (.int .u64 (((m ||| n) % 2 ^ j + 2 ^ j : Nat) : Int)) hCb (by omega)
          have hsth := setCell_heap hlab2 1 (.int .u64 (((m ||| n) % 2 ^ j + 2 ^ j : Nat) : Int))
          have HSH := Lib.hid (And.intro hstc hsth)
          have cb := fun W => bit_any j hlt W
          have hwr := hwr0
          clear hstc hsth hlab2
          generalize hpj : ((2 ^ j : Nat) : Int) = pj at *
          generalize hqj : (((m ||| n) % 2 ^ j + 2 ^ j : Nat) : Int) = qj at *
          generalize (((m ||| n) % 2 ^ j : Nat) : Int) = rj at *
          have HQ := Lib.hid hqj
          clear hpj hqj
          go_wp2_with fail
          refine wp_region_still_tail 6 (by kernel_rfl) (by kernel_rfl) ?_
          simp only [List.take_succ_cons, List.take_zero, List.drop_succ_cons, List.drop_zero]
          still_step
          still_step
          still_step
          still_call ((cb _).mono fun _ _ h => ⟨h.1, h.2.symm⟩)
          still_step
          still_step
          refine wpStill_nil ?_
          change wpList _ _ _ _ _ wb.drew
          go_wp2
          go_roundw
          case rel => exact ⟨j + 1, by omega, by go_num, by rw [HN.out, HQ.out]; exact HSH.out.2, HCS.out _ HSH.out.1⟩
          case measure => simp [intOf]; omega
        | false =>
          rw [hba] at c1
          go_wp2_with fail
          refine c1.mono ?_
          rintro e wb ⟨rfl, hbb⟩
          have hCb := HCN.out _ _ hCr hbb
          have hlab2 := (hbb.block _ (lt_of_block hlab)).trans hlab
          clear c1 hbb hlab r0 r1 r2 r3 r4 r5 rC
          cases hbn : hasB n j with
          | true =>
            have c2 := cB j hlt wb
            rw [hbn] at c2
            rw [hba, hbn] at hnx
            have HN := Lib.hid (hnx.trans (if_pos (by simp)))
            clear hnx hba hbn
            obtain ⟨b0, b1, b2, b3, b4, b5, bC⟩ := HKY.out _ hCb
            have hlb := hlab2
            go_wp2_with fail
            refine c2.mono ?_
            rintro e wc ⟨rfl, hbc⟩
            have hCc := HCN.out _ _ hCb hbc
            have hlc := (hbc.block _ (lt_of_block hlb)).trans hlb
            clear c2 hlb hbc hlab2
            clear b0 b1 b2 b3 b4 b5 bC
            obtain ⟨c0, c1, c2, c3, c4, c5, cC⟩ := HKY.out _ hCc
            have c1 : wc.cell? ⟨w.heap.size + 1 + 1 + 1, 1, none⟩ = some (.int .u64 (((m ||| n) % 2 ^ j : Nat) : Int)) := by rw [cell_of_row _ _ _ _ _ _ hlc]; rfl
            have f1 : wc.frozen? ⟨w.heap.size + 1 + 1 + 1, 1, none⟩ = false := frozen_of_row _ _ _ _ _ hlc
            have hstc := HST.out wc (w.heap.size + 1 + 1 + 1) 1 (.int .u64 (((m ||| n) % 2 ^ j + 2 ^ j : Nat) : Int)) hCc (by omega)
            have hsth := setCell_heap hlc 1 (.int .u64 (((m ||| n) % 2 ^ j + 2 ^ j : Nat) : Int))
            have HSH := Lib.hid (And.intro hstc hsth)
            have cb := fun W => bit_any j hlt W
            have hwr := hwr0
            clear hstc hsth hlc
            generalize hpj : ((2 ^ j : Nat) : Int) = pj at *
            generalize hqj : (((m ||| n) % 2 ^ j + 2 ^ j : Nat) : Int) = qj at *
            generalize (((m ||| n) % 2 ^ j : Nat) : Int) = rj at *
            have HQ := Lib.hid hqj
            clear hpj hqj
            go_wp2_with fail
            refine wp_region_still_tail 6 (by kernel_rfl) (by kernel_rfl) ?_
            simp only [List.take_succ_cons, List.take_zero, List.drop_succ_cons, List.drop_zero]
            still_step
            still_step
            still_step
            still_call ((cb _).mono fun _ _ h => ⟨h.1, h.2.symm⟩)
            still_step
            still_step
            refine wpStill_nil ?_
            change wpList _ _ _ _ _ wc.drew
            go_wp2
            go_roundw
            case rel => exact ⟨j + 1, by omega, by go_num, by rw [HN.out, HQ.out]; exact HSH.out.2, HCS.out _ HSH.out.1⟩
            case measure => simp [intOf]; omega
          | false =>
            have c2 := cB j hlt wb
            rw [hbn] at c2
            rw [hba, hbn] at hnx
            have HN := Lib.hid (hnx.trans (if_neg (by simp)))
            clear hnx hba hbn
            obtain ⟨b0, b1, b2, b3, b4, b5, bC⟩ := HKY.out _ hCb
            have hlb := hlab2
            go_wp2_with fail
            refine c2.mono ?_
            rintro e wc ⟨rfl, hbc⟩
            have hCc := HCN.out _ _ hCb hbc
            have hlc := (hbc.block _ (lt_of_block hlb)).trans hlb
            clear c2 hlb hbc hlab2
            clear b0 b1 b2 b3 b4 b5 bC
            clear hwr0
            go_wp2
            go_roundw
            case rel => exact ⟨j + 1, by omega, by go_num, by rw [HN.out]; exact hlc, hCc⟩
            case measure => simp [intOf]; omega
      · obtain rfl : j = 64 := by omega
        rw [mod64 HML.out] at hlab
        have z0 : wr.frozen? ⟨w.heap.size + 1 + 1, 0, none⟩ = false := frozen_of_row _ _ _ _ _ (HRB.out _ hCr)
        have z1 : wr.frozen? ⟨w.heap.size + 1 + 1, 1, none⟩ = false := frozen_of_row _ _ _ _ _ (HRB.out _ hCr)
        have q0 : wr.cell? ⟨w.heap.size + 1 + 1 + 1, 0, none⟩ = some (.int .i64 b) := by rw [cell_of_row _ _ _ _ _ _ hlab]; rfl
        have q1 : wr.cell? ⟨w.heap.size + 1 + 1 + 1, 1, none⟩ = some (.int .u64 (((m ||| n) : Nat) : Int)) := by rw [cell_of_row _ _ _ _ _ _ hlab]; rfl
        have HL := Lib.hid hlab
        clear hlab
        go_wp2
        have hst := store_lab (HRB.out _ hCr) (.int .i64 b) (.int .u64 (((m ||| n) : Nat) : Int))
        exact ret_lab1 rfl rfl hst.1 rfl ⟨rfl, Eff.below (HCB.out _ hCr) hst.2 (HCB.out _ hCr).size (fun k hk => by have : k = w.heap.size + 1 + 1 := hk; omega)⟩
  · obtain rfl : a = V := by omega
    clear hV
    go_enter Tryz.func17, Tryz.ntmps17
    go_wp2_with fail
    generalize (((w.alloc (.cells #[.int .i64 a, .int .u64 (m : Int)] 27 (0, 0))).alloc (.cells #[.int .i64 b, .int .u64 (n : Int)] 27 (0, 0))).alloc (.cells #[.int .i64 0, .int .u64 0] 27 (0, 0))) = w1 at *
    obtain ⟨C, hCd⟩ : ∃ C : World → Prop, C = fun w3 => Hid (Below w1.heap.size w1 w3) := ⟨_, rfl⟩
    have key2 : ∀ w3, C w3 → w3.cell? ⟨w.heap.size, 0, none⟩ = some (.int .i64 a) ∧ w3.cell? ⟨w.heap.size, 1, none⟩ = some (.int .u64 (m : Int)) ∧ w3.cell? ⟨w.heap.size + 1, 0, none⟩ = some (.int .i64 b) ∧ w3.cell? ⟨w.heap.size + 1, 1, none⟩ = some (.int .u64 (n : Int)) ∧ w3.cell? ⟨w.heap.size + 1 + 1, 0, none⟩ = some (.int .i64 0) ∧ w3.cell? ⟨w.heap.size + 1 + 1, 1, none⟩ = some (.int .u64 0) ∧ C w3 := by
      intro w3 h
      have hb := h
      rw [hCd] at hb
      obtain ⟨x0, y0⟩ := agg_keep hbx.1 hb.out
      obtain ⟨x1, y1⟩ := agg_keep hbx.2.1 hb.out
      obtain ⟨x2, y2⟩ := agg_keep hbx.2.2 hb.out
      exact ⟨x0, y0, x1, y1, x2, y2, h⟩
    have hCs : ∀ w3, C w3 → C w3.drew := fun w3 h => by rw [hCd] at h ⊢; exact Lib.hid h.out.drew
    have hC2 : C w1 := by rw [hCd]; exact Lib.hid (Below.refl _ _)
    have hCb : ∀ w3, C w3 → Below w.heap.size w w3 := fun w3 h => by rw [hCd] at h; exact hb3.trans (h.out.mono hb3.size)
    have hCn : ∀ W W', C W → Below W.heap.size W W' → C W' := fun W W' h h' => by rw [hCd] at h ⊢; exact Lib.hid (h.out.trans (h'.mono h.out.size))
    have hCk : ∀ W o, C W → C (W.alloc o) := fun W o h => hCn W _ h ((Below.refl _ W).alloc (Nat.le_refl _) o)
    have HCK := Lib.hid hCk
    have HCB := Lib.hid hCb
    have HCN := Lib.hid hCn
    have HCS := Lib.hid hCs
    have HKY := Lib.hid key2
    have hrb : ∀ W, C W → W.heap[w.heap.size + 1 + 1]? = some (.cells #[.int .i64 0, .int .u64 0] 27 (0, 0)) := fun W h => by rw [hCd] at h; exact (h.out.block _ (lt_of_block hbx.2.2)).trans hbx.2.2
    have hst : ∀ W g i v, C W → w1.heap.size ≤ g → C (W.setCell ⟨g, i, none⟩ v) := fun W g i v h hg => by rw [hCd] at h ⊢; exact Lib.hid (h.out.setCell (p := ⟨g, i, none⟩) hg v)
    have HRB := Lib.hid hrb
    have HST := Lib.hid hst
    clear hrb hst
    clear hCb hCn hCs hCk key2 hbx hb3 hCd
    have cA := fun (i : Nat) (hi : i < 64) W => has_any a m i HM.out.1 hi W
    have cB := fun (i : Nat) (hi : i < 64) W => has_any b n i HM.out.2 hi W
    clear hm hn
    unfold labV at cA cB
    have gN := heap_alloc_new w1 (.cells #[.int .i64 a, .int .u64 0] 27 (0, 0))
    have hCN := HCK.out w1 (.cells #[.int .i64 a, .int .u64 0] 27 (0, 0)) hC2
    rw [hsz] at gN
    clear hC2
    go_loopw [6] (fun i wr => ∃ j : Nat, j ≤ 64 ∧ i = .int .i64 j ∧ wr.heap[w.heap.size + 1 + 1 + 1]? = some (.cells #[.int .i64 a, .int .u64 (((m ||| n) % 2 ^ j : Nat) : Int)] 27 (0, 0)) ∧ C wr) (fun i _ => 64 - (intOf i).toNat)
    case atStart => exact ⟨0, by decide, rfl, by rw [Nat.pow_zero, Nat.mod_one]; exact gN, hCN⟩
    case round =>
      clear gN hCN
      obtain ⟨j, hj, rfl, hlab, hCr⟩ := hrel
      have hj0 : (0 : Int) ≤ (j : Int) := by omega
      obtain ⟨r0, r1, r2, r3, r4, r5, rC⟩ := HKY.out _ hCr
      by_cases hlt : j < 64
      · have hji : (j : Int) < 64 := by omega
        have c1 := cA j hlt wr
        have hnx := or_next m n j
        have hmod : (m ||| n) % 2 ^ j < 2 ^ j := Nat.mod_lt _ (Nat.two_pow_pos j)
        have hwr0 : IntKind.u64.wrap ((((m ||| n) % 2 ^ j : Nat) : Int) + ((2 ^ j : Nat) : Int)) = (((m ||| n) % 2 ^ j + 2 ^ j : Nat) : Int) := by
          have hp := rpow_in hlt
          have hp2 : 2 ^ j + 2 ^ j ≤ 18446744073709551616 := by
            have : 2 ^ (j + 1) ≤ 2 ^ 64 := Nat.pow_le_pow_right (by decide) (by omega)
            rw [Nat.pow_succ] at this; omega
          generalize (m ||| n) % 2 ^ j = z at *
          generalize 2 ^ j = p at *
          rw [IntWalk.u64_in _ (by omega)]; omega
        clear hmod
        cases hba : hasB m j with
        | true =>
          rw [hba] at c1
          go_wp2_with fail
          refine c1.mono ?_
          rintro e wb ⟨rfl, hbb⟩
          have hCb := HCN.out _ _ hCr hbb
          have hlab2 := (hbb.block _ (lt_of_block hlab)).trans hlab
          clear c1 hbb hlab r0 r1 r2 r3 r4 r5 rC
          rw [hba] at hnx
          have HN := Lib.hid (hnx.trans (if_pos (by simp)))
          clear hnx hba
          obtain ⟨b0, b1, b2, b3, b4, b5, bC⟩ := HKY.out _ hCb
          have c1 : wb.cell? ⟨w.heap.size + 1 + 1 + 1, 1, none⟩ = some (.int .u64 (((m ||| n) % 2 ^ j : Nat) : Int)) := by rw [cell_of_row _ _ _ _ _ _ hlab2]; rfl
          have f1 : wb.frozen? ⟨w.heap.size + 1 + 1 + 1, 1, none⟩ = false := frozen_of_row _ _ _ _ _ hlab2
          have hstc := HST.out wb (w.heap.size + 1 + 1 + 1) 1 (.int .u64 (((m ||| n) % 2 ^ j + 2 ^ j : Nat) : Int)) hCb (by omega)
          have hsth := setCell_heap hlab2 1 (.int .u64 (((m ||| n) % 2 ^ j + 2 ^ j : Nat) : Int))
          have HSH := Lib.hid (And.intro hstc hsth)
          have cb := fun W => bit_any j hlt W
          have hwr := hwr0
          clear hstc hsth hlab2
          generalize hpj : ((2 ^ j : Nat) : Int) = pj at *
          generalize hqj : (((m ||| n) % 2 ^ j + 2 ^ j : Nat) : Int) = qj at *
          generalize (((m ||| n) % 2 ^ j : Nat) : Int) = rj at *
          have HQ := Lib.hid hqj
          clear hpj hqj
          go_wp2_with fail
          refine wp_region_still_tail 6 (by kernel_rfl) (by kernel_rfl) ?_
          simp only [List.take_succ_cons, List.take_zero, List.drop_succ_cons, List.drop_zero]
          still_step
          still_step
          still_step
          still_call ((cb _).mono fun _ _ h => ⟨h.1, h.2.symm⟩)
          still_step
          still_step
          refine wpStill_nil ?_
          change wpList _ _ _ _ _ wb.drew
          go_wp2
          go_roundw
          case rel => exact ⟨j + 1, by omega, by go_num, by rw [HN.out, HQ.out]; exact HSH.out.2, HCS.out _ HSH.out.1⟩
          case measure => simp [intOf]; omega
        | false =>
          rw [hba] at c1
          go_wp2_with fail
          refine c1.mono ?_
          rintro e wb ⟨rfl, hbb⟩
          have hCb := HCN.out _ _ hCr hbb
          have hlab2 := (hbb.block _ (lt_of_block hlab)).trans hlab
          clear c1 hbb hlab r0 r1 r2 r3 r4 r5 rC
          cases hbn : hasB n j with
          | true =>
            have c2 := cB j hlt wb
            rw [hbn] at c2
            rw [hba, hbn] at hnx
            have HN := Lib.hid (hnx.trans (if_pos (by simp)))
            clear hnx hba hbn
            obtain ⟨b0, b1, b2, b3, b4, b5, bC⟩ := HKY.out _ hCb
            have hlb := hlab2
            go_wp2_with fail
            refine c2.mono ?_
            rintro e wc ⟨rfl, hbc⟩
            have hCc := HCN.out _ _ hCb hbc
            have hlc := (hbc.block _ (lt_of_block hlb)).trans hlb
            clear c2 hlb hbc hlab2
            clear b0 b1 b2 b3 b4 b5 bC
            obtain ⟨c0, c1, c2, c3, c4, c5, cC⟩ := HKY.out _ hCc
            have c1 : wc.cell? ⟨w.heap.size + 1 + 1 + 1, 1, none⟩ = some (.int .u64 (((m ||| n) % 2 ^ j : Nat) : Int)) := by rw [cell_of_row _ _ _ _ _ _ hlc]; rfl
            have f1 : wc.frozen? ⟨w.heap.size + 1 + 1 + 1, 1, none⟩ = false := frozen_of_row _ _ _ _ _ hlc
            have hstc := HST.out wc (w.heap.size + 1 + 1 + 1) 1 (.int .u64 (((m ||| n) % 2 ^ j + 2 ^ j : Nat) : Int)) hCc (by omega)
            have hsth := setCell_heap hlc 1 (.int .u64 (((m ||| n) % 2 ^ j + 2 ^ j : Nat) : Int))
            have HSH := Lib.hid (And.intro hstc hsth)
            have cb := fun W => bit_any j hlt W
            have hwr := hwr0
            clear hstc hsth hlc
            generalize hpj : ((2 ^ j : Nat) : Int) = pj at *
            generalize hqj : (((m ||| n) % 2 ^ j + 2 ^ j : Nat) : Int) = qj at *
            generalize (((m ||| n) % 2 ^ j : Nat) : Int) = rj at *
            have HQ := Lib.hid hqj
            clear hpj hqj
            go_wp2_with fail
            refine wp_region_still_tail 6 (by kernel_rfl) (by kernel_rfl) ?_
            simp only [List.take_succ_cons, List.take_zero, List.drop_succ_cons, List.drop_zero]
            still_step
            still_step
            still_step
            still_call ((cb _).mono fun _ _ h => ⟨h.1, h.2.symm⟩)
            still_step
            still_step
            refine wpStill_nil ?_
            change wpList _ _ _ _ _ wc.drew
            go_wp2
            go_roundw
            case rel => exact ⟨j + 1, by omega, by go_num, by rw [HN.out, HQ.out]; exact HSH.out.2, HCS.out _ HSH.out.1⟩
            case measure => simp [intOf]; omega
          | false =>
            have c2 := cB j hlt wb
            rw [hbn] at c2
            rw [hba, hbn] at hnx
            have HN := Lib.hid (hnx.trans (if_neg (by simp)))
            clear hnx hba hbn
            obtain ⟨b0, b1, b2, b3, b4, b5, bC⟩ := HKY.out _ hCb
            have hlb := hlab2
            go_wp2_with fail
            refine c2.mono ?_
            rintro e wc ⟨rfl, hbc⟩
            have hCc := HCN.out _ _ hCb hbc
            have hlc := (hbc.block _ (lt_of_block hlb)).trans hlb
            clear c2 hlb hbc hlab2
            clear b0 b1 b2 b3 b4 b5 bC
            clear hwr0
            go_wp2
            go_roundw
            case rel => exact ⟨j + 1, by omega, by go_num, by rw [HN.out]; exact hlc, hCc⟩
            case measure => simp [intOf]; omega
      · obtain rfl : j = 64 := by omega
        rw [mod64 HML.out] at hlab
        have z0 : wr.frozen? ⟨w.heap.size + 1 + 1, 0, none⟩ = false := frozen_of_row _ _ _ _ _ (HRB.out _ hCr)
        have z1 : wr.frozen? ⟨w.heap.size + 1 + 1, 1, none⟩ = false := frozen_of_row _ _ _ _ _ (HRB.out _ hCr)
        have q0 : wr.cell? ⟨w.heap.size + 1 + 1 + 1, 0, none⟩ = some (.int .i64 a) := by rw [cell_of_row _ _ _ _ _ _ hlab]; rfl
        have q1 : wr.cell? ⟨w.heap.size + 1 + 1 + 1, 1, none⟩ = some (.int .u64 (((m ||| n) : Nat) : Int)) := by rw [cell_of_row _ _ _ _ _ _ hlab]; rfl
        have HL := Lib.hid hlab
        clear hlab
        go_wp2
        have hst := store_lab (HRB.out _ hCr) (.int .i64 a) (.int .u64 (((m ||| n) : Nat) : Int))
        exact ret_lab1 rfl rfl hst.1 rfl ⟨rfl, Eff.below (HCB.out _ hCr) hst.2 (HCB.out _ hCr).size (fun k hk => by have : k = w.heap.size + 1 + 1 := hk; omega)⟩
set_option maxRecDepth 100000 in
set_option maxHeartbeats 8000000 in
theorem rmeet_any (a b : Int) (m n : Nat) (hm : m < M64) (hn : n < M64) (w : World) :
    Calls Tryz.prog 19 #[labV a m, labV b n] w fun e w' => e = .returned (labV (min a b) (m &&& n)) ∧ Below w.heap.size w w' := by
  unfold labV
  have hML : (m &&& n) < M64 := and_lt hm
  obtain ⟨V, hV⟩ : ∃ V : Int, V = min a b := ⟨_, rfl⟩
  rw [← hV]
  have HML := Lib.hid hML
  have HM := Lib.hid (And.intro hm hn)
  clear hML
  have hbx := box3 w (.cells #[.int .i64 a, .int .u64 (m : Int)] 27 (0, 0)) (.cells #[.int .i64 b, .int .u64 (n : Int)] 27 (0, 0)) (.cells #[.int .i64 0, .int .u64 0] 27 (0, 0))
  have hb3 := below3 w (.cells #[.int .i64 a, .int .u64 (m : Int)] 27 (0, 0)) (.cells #[.int .i64 b, .int .u64 (n : Int)] 27 (0, 0)) (.cells #[.int .i64 0, .int .u64 0] 27 (0, 0))
  have hsz : (((w.alloc (.cells #[.int .i64 a, .int .u64 (m : Int)] 27 (0, 0))).alloc (.cells #[.int .i64 b, .int .u64 (n : Int)] 27 (0, 0))).alloc (.cells #[.int .i64 0, .int .u64 0] 27 (0, 0))).heap.size = w.heap.size + 1 + 1 + 1 := by simp only [size_alloc]
  by_cases hab : b < a
  · obtain rfl : b = V := by omega
    clear hV
    go_enter Tryz.func19, Tryz.ntmps19
    go_wp2_with fail
    generalize (((w.alloc (.cells #[.int .i64 a, .int .u64 (m : Int)] 27 (0, 0))).alloc (.cells #[.int .i64 b, .int .u64 (n : Int)] 27 (0, 0))).alloc (.cells #[.int .i64 0, .int .u64 0] 27 (0, 0))) = w1 at *
    obtain ⟨C, hCd⟩ : ∃ C : World → Prop, C = fun w3 => Hid (Below w1.heap.size w1 w3) := ⟨_, rfl⟩
    have key2 : ∀ w3, C w3 → w3.cell? ⟨w.heap.size, 0, none⟩ = some (.int .i64 a) ∧ w3.cell? ⟨w.heap.size, 1, none⟩ = some (.int .u64 (m : Int)) ∧ w3.cell? ⟨w.heap.size + 1, 0, none⟩ = some (.int .i64 b) ∧ w3.cell? ⟨w.heap.size + 1, 1, none⟩ = some (.int .u64 (n : Int)) ∧ w3.cell? ⟨w.heap.size + 1 + 1, 0, none⟩ = some (.int .i64 0) ∧ w3.cell? ⟨w.heap.size + 1 + 1, 1, none⟩ = some (.int .u64 0) ∧ C w3 := by
      intro w3 h
      have hb := h
      rw [hCd] at hb
      obtain ⟨x0, y0⟩ := agg_keep hbx.1 hb.out
      obtain ⟨x1, y1⟩ := agg_keep hbx.2.1 hb.out
      obtain ⟨x2, y2⟩ := agg_keep hbx.2.2 hb.out
      exact ⟨x0, y0, x1, y1, x2, y2, h⟩
    have hCs : ∀ w3, C w3 → C w3.drew := fun w3 h => by rw [hCd] at h ⊢; exact Lib.hid h.out.drew
    have hC2 : C w1 := by rw [hCd]; exact Lib.hid (Below.refl _ _)
    have hCb : ∀ w3, C w3 → Below w.heap.size w w3 := fun w3 h => by rw [hCd] at h; exact hb3.trans (h.out.mono hb3.size)
    have hCn : ∀ W W', C W → Below W.heap.size W W' → C W' := fun W W' h h' => by rw [hCd] at h ⊢; exact Lib.hid (h.out.trans (h'.mono h.out.size))
    have hCk : ∀ W o, C W → C (W.alloc o) := fun W o h => hCn W _ h ((Below.refl _ W).alloc (Nat.le_refl _) o)
    have HCK := Lib.hid hCk
    have HCB := Lib.hid hCb
    have HCN := Lib.hid hCn
    have HCS := Lib.hid hCs
    have HKY := Lib.hid key2
    have hrb : ∀ W, C W → W.heap[w.heap.size + 1 + 1]? = some (.cells #[.int .i64 0, .int .u64 0] 27 (0, 0)) := fun W h => by rw [hCd] at h; exact (h.out.block _ (lt_of_block hbx.2.2)).trans hbx.2.2
    have hst : ∀ W g i v, C W → w1.heap.size ≤ g → C (W.setCell ⟨g, i, none⟩ v) := fun W g i v h hg => by rw [hCd] at h ⊢; exact Lib.hid (h.out.setCell (p := ⟨g, i, none⟩) hg v)
    have HRB := Lib.hid hrb
    have HST := Lib.hid hst
    clear hrb hst
    clear hCb hCn hCs hCk key2 hbx hb3 hCd
    have cA := fun (i : Nat) (hi : i < 64) W => has_any a m i HM.out.1 hi W
    have cB := fun (i : Nat) (hi : i < 64) W => has_any b n i HM.out.2 hi W
    clear hm hn
    unfold labV at cA cB
    have gN := heap_alloc_new w1 (.cells #[.int .i64 b, .int .u64 0] 27 (0, 0))
    have hCN := HCK.out w1 (.cells #[.int .i64 b, .int .u64 0] 27 (0, 0)) hC2
    rw [hsz] at gN
    clear hC2
    go_loopw [6] (fun i wr => ∃ j : Nat, j ≤ 64 ∧ i = .int .i64 j ∧ wr.heap[w.heap.size + 1 + 1 + 1]? = some (.cells #[.int .i64 b, .int .u64 (((m &&& n) % 2 ^ j : Nat) : Int)] 27 (0, 0)) ∧ C wr) (fun i _ => 64 - (intOf i).toNat)
    case atStart => exact ⟨0, by decide, rfl, by rw [Nat.pow_zero, Nat.mod_one]; exact gN, hCN⟩
    case round =>
      clear gN hCN
      obtain ⟨j, hj, rfl, hlab, hCr⟩ := hrel
      have hj0 : (0 : Int) ≤ (j : Int) := by omega
      obtain ⟨r0, r1, r2, r3, r4, r5, rC⟩ := HKY.out _ hCr
      by_cases hlt : j < 64
      · have hji : (j : Int) < 64 := by omega
        have c1 := cA j hlt wr
        have hnx := and_next m n j
        have hmod : (m &&& n) % 2 ^ j < 2 ^ j := Nat.mod_lt _ (Nat.two_pow_pos j)
        have hwr0 : IntKind.u64.wrap ((((m &&& n) % 2 ^ j : Nat) : Int) + ((2 ^ j : Nat) : Int)) = (((m &&& n) % 2 ^ j + 2 ^ j : Nat) : Int) := by
          have hp := rpow_in hlt
          have hp2 : 2 ^ j + 2 ^ j ≤ 18446744073709551616 := by
            have : 2 ^ (j + 1) ≤ 2 ^ 64 := Nat.pow_le_pow_right (by decide) (by omega)
            rw [Nat.pow_succ] at this; omega
          generalize (m &&& n) % 2 ^ j = z at *
          generalize 2 ^ j = p at *
          rw [IntWalk.u64_in _ (by omega)]; omega
        clear hmod
        cases hba : hasB m j with
        | true =>
          rw [hba] at c1
          go_wp2_with fail
          refine c1.mono ?_
          rintro e wb ⟨rfl, hbb⟩
          have hCb := HCN.out _ _ hCr hbb
          have hlab2 := (hbb.block _ (lt_of_block hlab)).trans hlab
          clear c1 hbb hlab r0 r1 r2 r3 r4 r5 rC
          cases hbn : hasB n j with
          | true =>
            have c2 := cB j hlt wb
            rw [hbn] at c2
            rw [hba, hbn] at hnx
            have HN := Lib.hid (hnx.trans (if_pos (by simp)))
            clear hnx hba hbn
            obtain ⟨b0, b1, b2, b3, b4, b5, bC⟩ := HKY.out _ hCb
            have hlb := hlab2
            go_wp2_with fail
            refine c2.mono ?_
            rintro e wc ⟨rfl, hbc⟩
            have hCc := HCN.out _ _ hCb hbc
            have hlc := (hbc.block _ (lt_of_block hlb)).trans hlb
            clear c2 hlb hbc hlab2
            clear b0 b1 b2 b3 b4 b5 bC
            obtain ⟨c0, c1, c2, c3, c4, c5, cC⟩ := HKY.out _ hCc
            have c1 : wc.cell? ⟨w.heap.size + 1 + 1 + 1, 1, none⟩ = some (.int .u64 (((m &&& n) % 2 ^ j : Nat) : Int)) := by rw [cell_of_row _ _ _ _ _ _ hlc]; rfl
            have f1 : wc.frozen? ⟨w.heap.size + 1 + 1 + 1, 1, none⟩ = false := frozen_of_row _ _ _ _ _ hlc
            have hstc := HST.out wc (w.heap.size + 1 + 1 + 1) 1 (.int .u64 (((m &&& n) % 2 ^ j + 2 ^ j : Nat) : Int)) hCc (by omega)
            have hsth := setCell_heap hlc 1 (.int .u64 (((m &&& n) % 2 ^ j + 2 ^ j : Nat) : Int))
            have HSH := Lib.hid (And.intro hstc hsth)
            have cb := fun W => bit_any j hlt W
            have hwr := hwr0
            clear hstc hsth hlc
            generalize hpj : ((2 ^ j : Nat) : Int) = pj at *
            generalize hqj : (((m &&& n) % 2 ^ j + 2 ^ j : Nat) : Int) = qj at *
            generalize (((m &&& n) % 2 ^ j : Nat) : Int) = rj at *
            have HQ := Lib.hid hqj
            clear hpj hqj
            go_wp2_with fail
            refine wp_region_still_tail 6 (by kernel_rfl) (by kernel_rfl) ?_
            simp only [List.take_succ_cons, List.take_zero, List.drop_succ_cons, List.drop_zero]
            still_step
            still_step
            still_step
            still_call ((cb _).mono fun _ _ h => ⟨h.1, h.2.symm⟩)
            still_step
            still_step
            refine wpStill_nil ?_
            change wpList _ _ _ _ _ wc.drew
            go_wp2
            go_roundw
            case rel => exact ⟨j + 1, by omega, by go_num, by rw [HN.out, HQ.out]; exact HSH.out.2, HCS.out _ HSH.out.1⟩
            case measure => simp [intOf]; omega
          | false =>
            have c2 := cB j hlt wb
            rw [hbn] at c2
            rw [hba, hbn] at hnx
            have HN := Lib.hid (hnx.trans (if_neg (by simp)))
            clear hnx hba hbn
            obtain ⟨b0, b1, b2, b3, b4, b5, bC⟩ := HKY.out _ hCb
            have hlb := hlab2
            go_wp2_with fail
            refine c2.mono ?_
            rintro e wc ⟨rfl, hbc⟩
            have hCc := HCN.out _ _ hCb hbc
            have hlc := (hbc.block _ (lt_of_block hlb)).trans hlb
            clear c2 hlb hbc hlab2
            clear b0 b1 b2 b3 b4 b5 bC
            clear hwr0
            go_wp2
            go_roundw
            case rel => exact ⟨j + 1, by omega, by go_num, by rw [HN.out]; exact hlc, hCc⟩
            case measure => simp [intOf]; omega
        | false =>
          rw [hba] at c1
          go_wp2_with fail
          refine c1.mono ?_
          rintro e wb ⟨rfl, hbb⟩
          have hCb := HCN.out _ _ hCr hbb
          have hlab2 := (hbb.block _ (lt_of_block hlab)).trans hlab
          clear c1 hbb hlab r0 r1 r2 r3 r4 r5 rC
          rw [hba] at hnx
          have HN := Lib.hid (hnx.trans (if_neg (by simp)))
          clear hnx hba
          clear hwr0
          go_wp2
          go_roundw
          case rel => exact ⟨j + 1, by omega, by go_num, by rw [HN.out]; exact hlab2, hCb⟩
          case measure => simp [intOf]; omega
      · obtain rfl : j = 64 := by omega
        rw [mod64 HML.out] at hlab
        have z0 : wr.frozen? ⟨w.heap.size + 1 + 1, 0, none⟩ = false := frozen_of_row _ _ _ _ _ (HRB.out _ hCr)
        have z1 : wr.frozen? ⟨w.heap.size + 1 + 1, 1, none⟩ = false := frozen_of_row _ _ _ _ _ (HRB.out _ hCr)
        have q0 : wr.cell? ⟨w.heap.size + 1 + 1 + 1, 0, none⟩ = some (.int .i64 b) := by rw [cell_of_row _ _ _ _ _ _ hlab]; rfl
        have q1 : wr.cell? ⟨w.heap.size + 1 + 1 + 1, 1, none⟩ = some (.int .u64 (((m &&& n) : Nat) : Int)) := by rw [cell_of_row _ _ _ _ _ _ hlab]; rfl
        have HL := Lib.hid hlab
        clear hlab
        go_wp2
        have hst := store_lab (HRB.out _ hCr) (.int .i64 b) (.int .u64 (((m &&& n) : Nat) : Int))
        exact ret_lab1 rfl rfl hst.1 rfl ⟨rfl, Eff.below (HCB.out _ hCr) hst.2 (HCB.out _ hCr).size (fun k hk => by have : k = w.heap.size + 1 + 1 := hk; omega)⟩
  · obtain rfl : a = V := by omega
    clear hV
    go_enter Tryz.func19, Tryz.ntmps19
    go_wp2_with fail
    generalize (((w.alloc (.cells #[.int .i64 a, .int .u64 (m : Int)] 27 (0, 0))).alloc (.cells #[.int .i64 b, .int .u64 (n : Int)] 27 (0, 0))).alloc (.cells #[.int .i64 0, .int .u64 0] 27 (0, 0))) = w1 at *
    obtain ⟨C, hCd⟩ : ∃ C : World → Prop, C = fun w3 => Hid (Below w1.heap.size w1 w3) := ⟨_, rfl⟩
    have key2 : ∀ w3, C w3 → w3.cell? ⟨w.heap.size, 0, none⟩ = some (.int .i64 a) ∧ w3.cell? ⟨w.heap.size, 1, none⟩ = some (.int .u64 (m : Int)) ∧ w3.cell? ⟨w.heap.size + 1, 0, none⟩ = some (.int .i64 b) ∧ w3.cell? ⟨w.heap.size + 1, 1, none⟩ = some (.int .u64 (n : Int)) ∧ w3.cell? ⟨w.heap.size + 1 + 1, 0, none⟩ = some (.int .i64 0) ∧ w3.cell? ⟨w.heap.size + 1 + 1, 1, none⟩ = some (.int .u64 0) ∧ C w3 := by
      intro w3 h
      have hb := h
      rw [hCd] at hb
      obtain ⟨x0, y0⟩ := agg_keep hbx.1 hb.out
      obtain ⟨x1, y1⟩ := agg_keep hbx.2.1 hb.out
      obtain ⟨x2, y2⟩ := agg_keep hbx.2.2 hb.out
      exact ⟨x0, y0, x1, y1, x2, y2, h⟩
    have hCs : ∀ w3, C w3 → C w3.drew := fun w3 h => by rw [hCd] at h ⊢; exact Lib.hid h.out.drew
    have hC2 : C w1 := by rw [hCd]; exact Lib.hid (Below.refl _ _)
    have hCb : ∀ w3, C w3 → Below w.heap.size w w3 := fun w3 h => by rw [hCd] at h; exact hb3.trans (h.out.mono hb3.size)
    have hCn : ∀ W W', C W → Below W.heap.size W W' → C W' := fun W W' h h' => by rw [hCd] at h ⊢; exact Lib.hid (h.out.trans (h'.mono h.out.size))
    have hCk : ∀ W o, C W → C (W.alloc o) := fun W o h => hCn W _ h ((Below.refl _ W).alloc (Nat.le_refl _) o)
    have HCK := Lib.hid hCk
    have HCB := Lib.hid hCb
    have HCN := Lib.hid hCn
    have HCS := Lib.hid hCs
    have HKY := Lib.hid key2
    have hrb : ∀ W, C W → W.heap[w.heap.size + 1 + 1]? = some (.cells #[.int .i64 0, .int .u64 0] 27 (0, 0)) := fun W h => by rw [hCd] at h; exact (h.out.block _ (lt_of_block hbx.2.2)).trans hbx.2.2
    have hst : ∀ W g i v, C W → w1.heap.size ≤ g → C (W.setCell ⟨g, i, none⟩ v) := fun W g i v h hg => by rw [hCd] at h ⊢; exact Lib.hid (h.out.setCell (p := ⟨g, i, none⟩) hg v)
    have HRB := Lib.hid hrb
    have HST := Lib.hid hst
    clear hrb hst
    clear hCb hCn hCs hCk key2 hbx hb3 hCd
    have cA := fun (i : Nat) (hi : i < 64) W => has_any a m i HM.out.1 hi W
    have cB := fun (i : Nat) (hi : i < 64) W => has_any b n i HM.out.2 hi W
    clear hm hn
    unfold labV at cA cB
    have gN := heap_alloc_new w1 (.cells #[.int .i64 a, .int .u64 0] 27 (0, 0))
    have hCN := HCK.out w1 (.cells #[.int .i64 a, .int .u64 0] 27 (0, 0)) hC2
    rw [hsz] at gN
    clear hC2
    go_loopw [6] (fun i wr => ∃ j : Nat, j ≤ 64 ∧ i = .int .i64 j ∧ wr.heap[w.heap.size + 1 + 1 + 1]? = some (.cells #[.int .i64 a, .int .u64 (((m &&& n) % 2 ^ j : Nat) : Int)] 27 (0, 0)) ∧ C wr) (fun i _ => 64 - (intOf i).toNat)
    case atStart => exact ⟨0, by decide, rfl, by rw [Nat.pow_zero, Nat.mod_one]; exact gN, hCN⟩
    case round =>
      clear gN hCN
      obtain ⟨j, hj, rfl, hlab, hCr⟩ := hrel
      have hj0 : (0 : Int) ≤ (j : Int) := by omega
      obtain ⟨r0, r1, r2, r3, r4, r5, rC⟩ := HKY.out _ hCr
      by_cases hlt : j < 64
      · have hji : (j : Int) < 64 := by omega
        have c1 := cA j hlt wr
        have hnx := and_next m n j
        have hmod : (m &&& n) % 2 ^ j < 2 ^ j := Nat.mod_lt _ (Nat.two_pow_pos j)
        have hwr0 : IntKind.u64.wrap ((((m &&& n) % 2 ^ j : Nat) : Int) + ((2 ^ j : Nat) : Int)) = (((m &&& n) % 2 ^ j + 2 ^ j : Nat) : Int) := by
          have hp := rpow_in hlt
          have hp2 : 2 ^ j + 2 ^ j ≤ 18446744073709551616 := by
            have : 2 ^ (j + 1) ≤ 2 ^ 64 := Nat.pow_le_pow_right (by decide) (by omega)
            rw [Nat.pow_succ] at this; omega
          generalize (m &&& n) % 2 ^ j = z at *
          generalize 2 ^ j = p at *
          rw [IntWalk.u64_in _ (by omega)]; omega
        clear hmod
        cases hba : hasB m j with
        | true =>
          rw [hba] at c1
          go_wp2_with fail
          refine c1.mono ?_
          rintro e wb ⟨rfl, hbb⟩
          have hCb := HCN.out _ _ hCr hbb
          have hlab2 := (hbb.block _ (lt_of_block hlab)).trans hlab
          clear c1 hbb hlab r0 r1 r2 r3 r4 r5 rC
          cases hbn : hasB n j with
          | true =>
            have c2 := cB j hlt wb
            rw [hbn] at c2
            rw [hba, hbn] at hnx
            have HN := Lib.hid (hnx.trans (if_pos (by simp)))
            clear hnx hba hbn
            obtain ⟨b0, b1, b2, b3, b4, b5, bC⟩ := HKY.out _ hCb
            have hlb := hlab2
            go_wp2_with fail
            refine c2.mono ?_
            rintro e wc ⟨rfl, hbc⟩
            have hCc := HCN.out _ _ hCb hbc
            have hlc := (hbc.block _ (lt_of_block hlb)).trans hlb
            clear c2 hlb hbc hlab2
            clear b0 b1 b2 b3 b4 b5 bC
            obtain ⟨c0, c1, c2, c3, c4, c5, cC⟩ := HKY.out _ hCc
            have c1 : wc.cell? ⟨w.heap.size + 1 + 1 + 1, 1, none⟩ = some (.int .u64 (((m &&& n) % 2 ^ j : Nat) : Int)) := by rw [cell_of_row _ _ _ _ _ _ hlc]; rfl
            have f1 : wc.frozen? ⟨w.heap.size + 1 + 1 + 1, 1, none⟩ = false := frozen_of_row _ _ _ _ _ hlc
            have hstc := HST.out wc (w.heap.size + 1 + 1 + 1) 1 (.int .u64 (((m &&& n) % 2 ^ j + 2 ^ j : Nat) : Int)) hCc (by omega)
            have hsth := setCell_heap hlc 1 (.int .u64 (((m &&& n) % 2 ^ j + 2 ^ j : Nat) : Int))
            have HSH := Lib.hid (And.intro hstc hsth)
            have cb := fun W => bit_any j hlt W
            have hwr := hwr0
            clear hstc hsth hlc
            generalize hpj : ((2 ^ j : Nat) : Int) = pj at *
            generalize hqj : (((m &&& n) % 2 ^ j + 2 ^ j : Nat) : Int) = qj at *
            generalize (((m &&& n) % 2 ^ j : Nat) : Int) = rj at *
            have HQ := Lib.hid hqj
            clear hpj hqj
            go_wp2_with fail
            refine wp_region_still_tail 6 (by kernel_rfl) (by kernel_rfl) ?_
            simp only [List.take_succ_cons, List.take_zero, List.drop_succ_cons, List.drop_zero]
            still_step
            still_step
            still_step
            still_call ((cb _).mono fun _ _ h => ⟨h.1, h.2.symm⟩)
            still_step
            still_step
            refine wpStill_nil ?_
            change wpList _ _ _ _ _ wc.drew
            go_wp2
            go_roundw
            case rel => exact ⟨j + 1, by omega, by go_num, by rw [HN.out, HQ.out]; exact HSH.out.2, HCS.out _ HSH.out.1⟩
            case measure => simp [intOf]; omega
          | false =>
            have c2 := cB j hlt wb
            rw [hbn] at c2
            rw [hba, hbn] at hnx
            have HN := Lib.hid (hnx.trans (if_neg (by simp)))
            clear hnx hba hbn
            obtain ⟨b0, b1, b2, b3, b4, b5, bC⟩ := HKY.out _ hCb
            have hlb := hlab2
            go_wp2_with fail
            refine c2.mono ?_
            rintro e wc ⟨rfl, hbc⟩
            have hCc := HCN.out _ _ hCb hbc
            have hlc := (hbc.block _ (lt_of_block hlb)).trans hlb
            clear c2 hlb hbc hlab2
            clear b0 b1 b2 b3 b4 b5 bC
            clear hwr0
            go_wp2
            go_roundw
            case rel => exact ⟨j + 1, by omega, by go_num, by rw [HN.out]; exact hlc, hCc⟩
            case measure => simp [intOf]; omega
        | false =>
          rw [hba] at c1
          go_wp2_with fail
          refine c1.mono ?_
          rintro e wb ⟨rfl, hbb⟩
          have hCb := HCN.out _ _ hCr hbb
          have hlab2 := (hbb.block _ (lt_of_block hlab)).trans hlab
          clear c1 hbb hlab r0 r1 r2 r3 r4 r5 rC
          rw [hba] at hnx
          have HN := Lib.hid (hnx.trans (if_neg (by simp)))
          clear hnx hba
          clear hwr0
          go_wp2
          go_roundw
          case rel => exact ⟨j + 1, by omega, by go_num, by rw [HN.out]; exact hlab2, hCb⟩
          case measure => simp [intOf]; omega
      · obtain rfl : j = 64 := by omega
        rw [mod64 HML.out] at hlab
        have z0 : wr.frozen? ⟨w.heap.size + 1 + 1, 0, none⟩ = false := frozen_of_row _ _ _ _ _ (HRB.out _ hCr)
        have z1 : wr.frozen? ⟨w.heap.size + 1 + 1, 1, none⟩ = false := frozen_of_row _ _ _ _ _ (HRB.out _ hCr)
        have q0 : wr.cell? ⟨w.heap.size + 1 + 1 + 1, 0, none⟩ = some (.int .i64 a) := by rw [cell_of_row _ _ _ _ _ _ hlab]; rfl
        have q1 : wr.cell? ⟨w.heap.size + 1 + 1 + 1, 1, none⟩ = some (.int .u64 (((m &&& n) : Nat) : Int)) := by rw [cell_of_row _ _ _ _ _ _ hlab]; rfl
        have HL := Lib.hid hlab
        clear hlab
        go_wp2
        have hst := store_lab (HRB.out _ hCr) (.int .i64 a) (.int .u64 (((m &&& n) : Nat) : Int))
        exact ret_lab1 rfl rfl hst.1 rfl ⟨rfl, Eff.below (HCB.out _ hCr) hst.2 (HCB.out _ hCr).size (fun k hk => by have : k = w.heap.size + 1 + 1 := hk; omega)⟩
end Go.Proofs.YtmcianehedhfeaaGreatDoor
