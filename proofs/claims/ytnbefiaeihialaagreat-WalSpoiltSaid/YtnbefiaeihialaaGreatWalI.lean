/- Package wal: press. -/
import Derived.Test.YtnbefiaeihialaaGreatWalH
set_option linter.unusedVariables false
set_option linter.unusedSimpArgs false
namespace Go.Proofs.YtnbefiaeihialaaGreat
open Go.RowKit
theorem heap_new3 (w : World) (A B C : Obj) : (((w.alloc A).alloc B).alloc C).heap[w.heap.size + 1 + 1]? = some C := by
  have h := heap_alloc_new ((w.alloc A).alloc B) C
  rwa [show ((w.alloc A).alloc B).heap.size = w.heap.size + 1 + 1 by simp] at h
theorem heap_new2 (w : World) (A B : Obj) : ((w.alloc A).alloc B).heap[w.heap.size + 1]? = some B := by
  have h := heap_alloc_new (w.alloc A) B
  rwa [show (w.alloc A).heap.size = w.heap.size + 1 by simp] at h
set_option maxRecDepth 100000 in
set_option maxHeartbeats 16000000 in
theorem press_any (sb : Nat) (hv : V8) (B n c : Nat) (blk : Bs) (tab : List Int) (w : World) (hb : blk.length = 64) (hn : n + 64 ≤ 1000000000000 ∧ 64 ≤ c) (hc : ∀ j (h : j < blk.length), w.cell? ⟨B, n + j, none⟩ = some (.int .u8 blk[j].toNat))
    (ht : ∀ j, j < 64 → w.cell? ⟨sb, 11 + j, none⟩ = some (.int .u32 (nth tab j))) :
    Calls Tryz.prog 55 #[.pointer (some ⟨sb, 0, none⟩), hv.agg, .slice (some ⟨B, n, none⟩) 64 c] w fun e w' => e = .returned (pressF tab hv blk).agg ∧ Below w.heap.size w w' := by
  have r7 := fun x W => rot_any x (-7) 25 W (by decide) (by decide) (by kernel_rfl)
  have r18 := fun x W => rot_any x (-18) 14 W (by decide) (by decide) (by kernel_rfl)
  have r17 := fun x W => rot_any x (-17) 15 W (by decide) (by decide) (by kernel_rfl)
  have r19 := fun x W => rot_any x (-19) 13 W (by decide) (by decide) (by kernel_rfl)
  have r6 := fun x W => rot_any x (-6) 26 W (by decide) (by decide) (by kernel_rfl)
  have r11 := fun x W => rot_any x (-11) 21 W (by decide) (by decide) (by kernel_rfl)
  have r25 := fun x W => rot_any x (-25) 7 W (by decide) (by decide) (by kernel_rfl)
  have r2 := fun x W => rot_any x (-2) 30 W (by decide) (by decide) (by kernel_rfl)
  have r13 := fun x W => rot_any x (-13) 19 W (by decide) (by decide) (by kernel_rfl)
  have r22 := fun x W => rot_any x (-22) 10 W (by decide) (by decide) (by kernel_rfl)
  have H := Lib.hid (And.intro hc ht)
  clear hc ht
  obtain ⟨RES, hRES⟩ : ∃ R, R = pressF tab hv blk := ⟨_, rfl⟩
  rw [← hRES]
  obtain ⟨h, hh⟩ : ∃ h : V8, h = hv := ⟨_, rfl⟩
  have HR := Lib.hid (And.intro hRES hh)
  obtain ⟨a0, a1, a2, a3, a4, a5, a6, a7⟩ := hv
  unfold V8.agg
  obtain ⟨q0, q1, q2, q3, q4, q5, q6, q7⟩ := RES
  clear hRES hh
  go_enter Tryz.func55, Tryz.ntmps55
  go_wp2
  go_loopw [21] (fun i wr => ∃ j : Nat, j ≤ 64 ∧ i = .int .i64 j ∧ wr.heap[w.heap.size + 1 + 1]? = some (.cells (w32 (wordsF blk j ++ List.replicate (64 - j) 0)).toArray 102 (0, 0)) ∧ wr.heap[w.heap.size]? = some (.cells (w32 h.list).toArray 127 (0, 0)) ∧ (∃ z : V8, wr.heap[w.heap.size + 1]? = some (.cells (w32 z.list).toArray 127 (0, 0))) ∧ Below w.heap.size w wr) (fun i _ => 64 - (intOf i).toNat)
  case atStart =>
    refine ⟨0, Nat.zero_le _, rfl, ?_, ?_, ⟨⟨0, 0, 0, 0, 0, 0, 0, 0⟩, ?_⟩, ?_⟩
    · exact (heap_new3 w _ _ _).trans rfl
    · rw [HR.out.2]
      rw [Below.heap_alloc _ _ _ (by simp; omega), Below.heap_alloc _ _ _ (by simp)]
      exact (heap_alloc_new w _).trans rfl
    · rw [Below.heap_alloc _ _ _ (by simp)]
      exact (heap_new2 w _ _).trans rfl
    · exact (((Below.refl _ w).alloc (Nat.le_refl _) _).alloc (by simp) _).alloc (by simp; omega) _
  case round =>
    obtain ⟨j, hj, rfl, hg, hg0, hg1, hbl⟩ := hrel
    have hj0 : (0 : Int) ≤ (j : Int) := by omega
    by_cases hlt : j < 64
    · have hji : (j : Int) < 64 := by omega
      have hll : (wordsF blk j ++ List.replicate (64 - j) 0).length = 64 := by rw [List.length_append, wordsF_len, List.length_replicate]; omega
      have HLL := Lib.hid hll
      have HST := Lib.hid (show ∀ (W : World) (z : Int), W.heap[w.heap.size + 1 + 1]? = some (.cells (w32 (wordsF blk j ++ List.replicate (64 - j) 0)).toArray 102 (0, 0)) → z = wordAt blk (wordsF blk j) j → (W.setCell ⟨w.heap.size + 1 + 1, j, none⟩ (.int .u32 z)).heap[w.heap.size + 1 + 1]? = some (.cells (w32 (wordsF blk (j + 1) ++ List.replicate (64 - (j + 1)) 0)).toArray 102 (0, 0)) from fun W z hW hz => by
        rw [setCell_heap hW, hz, w32_set, words_put hlt])
      clear hll
      by_cases h16 : j < 16
      · have h16i : (j : Int) < 16 := by omega
        have hcv : ∀ W, (∀ i (h : i < blk.length), W.cell? ⟨B, n + i, none⟩ = some (.int .u8 blk[i].toNat)) → (convert 73 9 (.slice (some ⟨B, n + 4 * j, none⟩) 4 (c - 4 * j))).run Tryz.prog W = .ok (.string ⟨((blk.drop (4 * j)).take 4).toArray⟩) W := fun W hW => by
          refine conv_row (l := (blk.drop (4 * j)).take 4) (by rw [List.length_take, List.length_drop]; omega) fun i hi => ?_
          rw [List.length_take, List.length_drop] at hi
          have h3 := hW (4 * j + i) (by omega)
          rw [List.getElem_take, List.getElem_drop]
          rw [show n + 4 * j + i = n + (4 * j + i) by omega]
          exact h3
        have hcv2 := hcv wr (fun i hi => (hbl.cell (World.block_lt_of_cell? _ _ (H.out.1 i hi))).trans (H.out.1 i hi))
        have c1 := number_any ⟨((blk.drop (4 * j)).take 4).toArray⟩ wr (by rw [lsize, List.length_take]; omega)
        have hwd : wordAt blk (wordsF blk j) j = (numF ((blk.drop (4 * j)).take 4) : Int) := by unfold wordAt; rw [if_pos h16]
        have hlt2 := numF_lt ((blk.drop (4 * j)).take 4)
        have hlt3 : numF ((blk.drop (4 * j)).take 4) < 4294967296 := by
          have : 256 ^ ((blk.drop (4 * j)).take 4).length ≤ 256 ^ 4 := Nat.pow_le_pow_right (by decide) (by rw [List.length_take]; omega)
          omega
        rw [show (⟨((blk.drop (4 * j)).take 4).toArray⟩ : ByteArray).data.toList = (blk.drop (4 * j)).take 4 by simp] at c1
        generalize (⟨((blk.drop (4 * j)).take 4).toArray⟩ : ByteArray) = sx at *
        generalize numF ((blk.drop (4 * j)).take 4) = nx at *
        have hnx0 : (0 : Int) ≤ (nx : Int) := by omega
        have hwrap : IntKind.u32.wrap (nx : Int) = nx := by rw [IntKind.wrap_u32]; omega
        have HW := Lib.hid (And.intro hwd (And.intro hg (And.intro hg0 (And.intro hg1 hbl))))
        clear hg hg0 hg1 hbl hwd hlt2 hcv
        go_wp2_with fail
        refine c1.mono ?_
        rintro e w2 ⟨rfl, hb2⟩
        have hg2 := (hb2.block _ (lt_of_block HW.out.2.1)).trans HW.out.2.1
        have hcell := w32_cell hg2 (i := j) (by rw [HLL.out]; exact hlt)
        have hfr : w2.frozen? ⟨w.heap.size + 1 + 1, j, none⟩ = false := frozen_of_row _ _ _ _ _ hg2
        have hgs := HST.out w2 nx hg2 HW.out.1.symm
        have hb3 := (HW.out.2.2.2.2.trans (hb2.mono HW.out.2.2.2.2.size)).setCell (p := ⟨w.heap.size + 1 + 1, j, none⟩) (by show w.heap.size ≤ w.heap.size + 1 + 1; omega) (.int .u32 nx)
        have hg4 := (Below.heap_setCell w2 ⟨w.heap.size + 1 + 1, j, none⟩ (.int .u32 nx) w.heap.size (by show w.heap.size ≠ w.heap.size + 1 + 1; omega)).trans ((hb2.block _ (lt_of_block HW.out.2.2.1)).trans HW.out.2.2.1)
        obtain ⟨z8, hz8⟩ := HW.out.2.2.2.1
        have hg5 := (Below.heap_setCell w2 ⟨w.heap.size + 1 + 1, j, none⟩ (.int .u32 nx) (w.heap.size + 1) (by show w.heap.size + 1 ≠ w.heap.size + 1 + 1; omega)).trans ((hb2.block _ (lt_of_block hz8)).trans hz8)
        have HF := Lib.hid (And.intro hgs (And.intro hg4 (And.intro hg5 hb3)))
        clear c1 hb2 hg2 hgs hb3 hg4 hg5 hz8
        go_wp2
        go_roundw
        case rel => exact ⟨j + 1, by omega, by go_num, HF.out.1, HF.out.2.1, ⟨z8, HF.out.2.2.1⟩, HF.out.2.2.2⟩
        case measure => simp [intOf]; omega
      · have h16i : ¬ (j : Int) < 16 := by omega
        obtain ⟨m, rfl⟩ : ∃ m, j = m + 16 := ⟨j - 16, by omega⟩
        have hmz : ((m + 16 : Nat) : Int) = (m : Int) + 16 := by omega
        have hm0 : (0 : Int) ≤ (m : Int) := by omega
        have hm48 : (m : Int) < 48 := by omega
        rw [hmz] at h16i hji
        have e15 := w32_cell hg (i := m + 1) (by rw [HLL.out]; omega)
        have e2 := w32_cell hg (i := m + 14) (by rw [HLL.out]; omega)
        have e16 := w32_cell hg (i := m) (by rw [HLL.out]; omega)
        have e7 := w32_cell hg (i := m + 9) (by rw [HLL.out]; omega)
        have e0 := w32_cell hg (i := m + 16) (by rw [HLL.out]; omega)
        have hfr : wr.frozen? ⟨w.heap.size + 1 + 1, m + 16, none⟩ = false := frozen_of_row _ _ _ _ _ hg
        rw [nth_app_l (by rw [wordsF_len]; omega)] at e15 e2 e16 e7
        have hwd : wordAt blk (wordsF blk (m + 16)) (m + 16) = (nth (wordsF blk (m + 16)) m + sig0 (nth (wordsF blk (m + 16)) (m + 1)) + nth (wordsF blk (m + 16)) (m + 9) + sig1 (nth (wordsF blk (m + 16)) (m + 14))) % 4294967296 := by
          unfold wordAt mixW; rw [if_neg (by omega)]
          rw [show m + 16 - 16 = m by omega, show m + 16 - 15 = m + 1 by omega, show m + 16 - 7 = m + 9 by omega, show m + 16 - 2 = m + 14 by omega]
        have HW := Lib.hid (And.intro hwd (And.intro hg (And.intro hg0 (And.intro hg1 hbl))))
        generalize nth (wordsF blk (m + 16)) (m + 1) = x15 at *
        generalize nth (wordsF blk (m + 16)) (m + 14) = x2 at *
        generalize nth (wordsF blk (m + 16)) (m + 9) = x7 at *
        generalize nth (wordsF blk (m + 16)) m = x16 at *
        generalize nth (wordsF blk (m + 16) ++ List.replicate (64 - (m + 16)) 0) (m + 16) = x0 at *
        clear hg hg0 hg1 hbl hwd
        go_upto_region 7 with fail
        go_quiet (fail)
        go_wp2_with fail
        refine (r7 _ _).mono ?_
        rintro e w2 ⟨rfl, rfl⟩
        go_wp2_with fail
        refine (r18 _ _).mono ?_
        rintro e w2 ⟨rfl, rfl⟩
        go_wp2_with fail
        refine (r17 _ _).mono ?_
        rintro e w2 ⟨rfl, rfl⟩
        go_wp2_with fail
        refine (r19 _ _).mono ?_
        rintro e w2 ⟨rfl, rfl⟩
        go_wp2_with fail
        go_region
        have hgs := HST.out (wr.drewN (nq + 1)) _ HW.out.2.1 HW.out.1.symm
        have hb3 := (Below.drewN' HW.out.2.2.2.2 (nq + 1)).setCell (p := ⟨w.heap.size + 1 + 1, m + 16, none⟩) (by show w.heap.size ≤ w.heap.size + 1 + 1; omega) (.int .u32 ((x16 + sig0 x15 + x7 + sig1 x2) % 4294967296))
        have hg4 := (Below.heap_setCell (wr.drewN (nq + 1)) ⟨w.heap.size + 1 + 1, m + 16, none⟩ (.int .u32 ((x16 + sig0 x15 + x7 + sig1 x2) % 4294967296)) w.heap.size (by show w.heap.size ≠ w.heap.size + 1 + 1; omega)).trans HW.out.2.2.1
        obtain ⟨z8, hz8⟩ := HW.out.2.2.2.1
        have hg5 := (Below.heap_setCell (wr.drewN (nq + 1)) ⟨w.heap.size + 1 + 1, m + 16, none⟩ (.int .u32 ((x16 + sig0 x15 + x7 + sig1 x2) % 4294967296)) (w.heap.size + 1) (by show w.heap.size + 1 ≠ w.heap.size + 1 + 1; omega)).trans hz8
        have HF := Lib.hid (And.intro hgs (And.intro hg4 (And.intro hg5 hb3)))
        clear hgs hb3 hg4 hg5 hz8
        go_wp2
        go_roundw
        case rel => exact ⟨m + 16 + 1, by omega, by go_num, HF.out.1, HF.out.2.1, ⟨z8, HF.out.2.2.1⟩, HF.out.2.2.2⟩
        case measure => simp [intOf]; omega
    · obtain rfl : j = 64 := by omega
      have hjE : ¬ (64 : Int) < 64 := by omega
      rw [show 64 - 64 = 0 from rfl, List.replicate_zero, List.append_nil] at hg
      obtain ⟨z8, hz8⟩ := hg1
      obtain ⟨wa, rfl⟩ : ∃ wa : World, wa = wr := ⟨_, rfl⟩
      have hwsz := hbl.size
      have hlt0 := lt_of_block hg
      rw [HR.out.2] at hg0
      have k0 : wa.cell? ⟨w.heap.size, 0, none⟩ = some (.int .u32 a0) := by rw [cell_of_row _ _ _ _ _ _ hg0]; rfl
      have k1 : wa.cell? ⟨w.heap.size, 1, none⟩ = some (.int .u32 a1) := by rw [cell_of_row _ _ _ _ _ _ hg0]; rfl
      have k2 : wa.cell? ⟨w.heap.size, 2, none⟩ = some (.int .u32 a2) := by rw [cell_of_row _ _ _ _ _ _ hg0]; rfl
      have k3 : wa.cell? ⟨w.heap.size, 3, none⟩ = some (.int .u32 a3) := by rw [cell_of_row _ _ _ _ _ _ hg0]; rfl
      have k4 : wa.cell? ⟨w.heap.size, 4, none⟩ = some (.int .u32 a4) := by rw [cell_of_row _ _ _ _ _ _ hg0]; rfl
      have k5 : wa.cell? ⟨w.heap.size, 5, none⟩ = some (.int .u32 a5) := by rw [cell_of_row _ _ _ _ _ _ hg0]; rfl
      have k6 : wa.cell? ⟨w.heap.size, 6, none⟩ = some (.int .u32 a6) := by rw [cell_of_row _ _ _ _ _ _ hg0]; rfl
      have k7 : wa.cell? ⟨w.heap.size, 7, none⟩ = some (.int .u32 a7) := by rw [cell_of_row _ _ _ _ _ _ hg0]; rfl
      have HA := Lib.hid (And.intro hg (And.intro hg0 (And.intro hz8 (And.intro hbl hlt0))))
      clear hg hg0 hz8 hbl
      go_wp2
      have hva : (wa.alloc (.cells #[.int .u32 a0, .int .u32 a1, .int .u32 a2, .int .u32 a3, .int .u32 a4, .int .u32 a5, .int .u32 a6, .int .u32 a7] 127 (0, 0))).heap[wa.heap.size]? = some (.cells (w32 h.list).toArray 127 (0, 0)) := by rw [HR.out.2]; exact (heap_alloc_new wa _).trans rfl
      have hvo : ∀ k, k < wa.heap.size → (wa.alloc (.cells #[.int .u32 a0, .int .u32 a1, .int .u32 a2, .int .u32 a3, .int .u32 a4, .int .u32 a5, .int .u32 a6, .int .u32 a7] 127 (0, 0))).heap[k]? = wa.heap[k]? := fun k hk => Below.heap_alloc _ _ _ hk
      have hvb : Below w.heap.size w (wa.alloc (.cells #[.int .u32 a0, .int .u32 a1, .int .u32 a2, .int .u32 a3, .int .u32 a4, .int .u32 a5, .int .u32 a6, .int .u32 a7] 127 (0, 0))) := HA.out.2.2.2.1.alloc hwsz _
      have HV := Lib.hid (And.intro hva (And.intro ((hvo _ hlt0).trans HA.out.1) (And.intro ((hvo _ (by omega)).trans HA.out.2.1) (And.intro ((hvo _ (by omega)).trans HA.out.2.2.1) hvb))))
      generalize wa.alloc (.cells #[.int .u32 a0, .int .u32 a1, .int .u32 a2, .int .u32 a3, .int .u32 a4, .int .u32 a5, .int .u32 a6, .int .u32 a7] 127 (0, 0)) = wb at *
      clear hva hvo hvb k0 k1 k2 k3 k4 k5 k6 k7
      go_loopw [79] (fun i wr => ∃ j : Nat, j ≤ 64 ∧ i = .int .i64 j ∧ wr.heap[wa.heap.size]? = some (.cells (w32 (roundsF tab (wordsF blk 64) h j).list).toArray 127 (0, 0)) ∧ wr.heap[w.heap.size + 1 + 1]? = some (.cells (w32 (wordsF blk 64)).toArray 102 (0, 0)) ∧ wr.heap[w.heap.size]? = some (.cells (w32 h.list).toArray 127 (0, 0)) ∧ wr.heap[w.heap.size + 1]? = some (.cells (w32 z8.list).toArray 127 (0, 0)) ∧ Below w.heap.size w wr) (fun i _ => 64 - (intOf i).toNat)
      case atStart =>
        refine ⟨0, Nat.zero_le _, rfl, HV.out.1, HV.out.2.1, ?_, HV.out.2.2.2.1, HV.out.2.2.2.2⟩
        rw [HR.out.2]; exact HV.out.2.2.1
      case round =>
        obtain ⟨j, hj, rfl, hgv, hgw, hgh, hgz, hbl⟩ := hrel
        have hj0 : (0 : Int) ≤ (j : Int) := by omega
        by_cases hlt : j < 64
        · have hji : (j : Int) < 64 := by omega
          have hrd : roundsF tab (wordsF blk 64) h (j + 1) = rndF (roundsF tab (wordsF blk 64) h j) (nth tab j) (nth (wordsF blk 64) j) := rfl
          generalize roundsF tab (wordsF blk 64) h j = v at *
          obtain ⟨v0, v1, v2, v3, v4, v5, v6, v7⟩ := v
          have x0 : wr.cell? ⟨wa.heap.size, 0, none⟩ = some (.int .u32 v0) := by rw [cell_of_row _ _ _ _ _ _ hgv]; rfl
          have x1 : wr.cell? ⟨wa.heap.size, 1, none⟩ = some (.int .u32 v1) := by rw [cell_of_row _ _ _ _ _ _ hgv]; rfl
          have x2 : wr.cell? ⟨wa.heap.size, 2, none⟩ = some (.int .u32 v2) := by rw [cell_of_row _ _ _ _ _ _ hgv]; rfl
          have x3 : wr.cell? ⟨wa.heap.size, 3, none⟩ = some (.int .u32 v3) := by rw [cell_of_row _ _ _ _ _ _ hgv]; rfl
          have x4 : wr.cell? ⟨wa.heap.size, 4, none⟩ = some (.int .u32 v4) := by rw [cell_of_row _ _ _ _ _ _ hgv]; rfl
          have x5 : wr.cell? ⟨wa.heap.size, 5, none⟩ = some (.int .u32 v5) := by rw [cell_of_row _ _ _ _ _ _ hgv]; rfl
          have x6 : wr.cell? ⟨wa.heap.size, 6, none⟩ = some (.int .u32 v6) := by rw [cell_of_row _ _ _ _ _ _ hgv]; rfl
          have x7 : wr.cell? ⟨wa.heap.size, 7, none⟩ = some (.int .u32 v7) := by rw [cell_of_row _ _ _ _ _ _ hgv]; rfl
          have f0 : wr.frozen? ⟨wa.heap.size, 0, none⟩ = false := frozen_of_row _ _ _ _ _ hgv
          have f1 : wr.frozen? ⟨wa.heap.size, 1, none⟩ = false := frozen_of_row _ _ _ _ _ hgv
          have f2 : wr.frozen? ⟨wa.heap.size, 2, none⟩ = false := frozen_of_row _ _ _ _ _ hgv
          have f3 : wr.frozen? ⟨wa.heap.size, 3, none⟩ = false := frozen_of_row _ _ _ _ _ hgv
          have f4 : wr.frozen? ⟨wa.heap.size, 4, none⟩ = false := frozen_of_row _ _ _ _ _ hgv
          have f5 : wr.frozen? ⟨wa.heap.size, 5, none⟩ = false := frozen_of_row _ _ _ _ _ hgv
          have f6 : wr.frozen? ⟨wa.heap.size, 6, none⟩ = false := frozen_of_row _ _ _ _ _ hgv
          have f7 : wr.frozen? ⟨wa.heap.size, 7, none⟩ = false := frozen_of_row _ _ _ _ _ hgv
          have ew := w32_cell hgw (i := j) (by rw [wordsF_len]; exact hlt)
          have et := (hbl.cell (World.block_lt_of_cell? _ _ (H.out.2 j hlt))).trans (H.out.2 j hlt)
          have HW := Lib.hid (And.intro hrd (And.intro hgv (And.intro hgw (And.intro hgh (And.intro hgz hbl)))))
          generalize nth tab j = tk at *
          generalize nth (wordsF blk 64) j = wk at *
          clear hrd hgv hgw hgh hgz hbl
          go_upto_region 16 with fail
          go_quiet (fail)
          go_wp2_with fail
          refine (r6 _ _).mono ?_
          rintro e w2 ⟨rfl, rfl⟩
          go_wp2_with fail
          refine (r11 _ _).mono ?_
          rintro e w2 ⟨rfl, rfl⟩
          go_wp2_with fail
          refine (r25 _ _).mono ?_
          rintro e w2 ⟨rfl, rfl⟩
          go_wp2_with fail
          refine (r2 _ _).mono ?_
          rintro e w2 ⟨rfl, rfl⟩
          go_wp2_with fail
          refine (r13 _ _).mono ?_
          rintro e w2 ⟨rfl, rfl⟩
          go_wp2_with fail
          refine (r22 _ _).mono ?_
          rintro e w2 ⟨rfl, rfl⟩
          go_upto_region 21 with fail
          go_quiet (fail)
          have hgs := fun n => W8.here (W := wr.drewN n) HW.out.2.1 (rndF ⟨v0, v1, v2, v3, v4, v5, v6, v7⟩ tk wk)
          have hge := fun n k hk => W8.else_ (W := wr.drewN n) (V := wa.heap.size) (k := k) (rndF ⟨v0, v1, v2, v3, v4, v5, v6, v7⟩ tk wk) hk
          have hgb := fun n => W8.below (V := wa.heap.size) (rndF ⟨v0, v1, v2, v3, v4, v5, v6, v7⟩ tk wk) (Below.drewN' HW.out.2.2.2.2.2 n) hwsz
          have HF := Lib.hid (And.intro hgs (And.intro hge hgb))
          clear hgs hge hgb
          go_wp2
          go_roundw
          case rel =>
            exact ⟨j + 1, by omega, by go_num, (HF.out.1 _).trans (by rw [HW.out.1]), (HF.out.2.1 _ _ (by omega)).trans HW.out.2.2.1, (HF.out.2.1 _ _ (by omega)).trans HW.out.2.2.2.1, (HF.out.2.1 _ _ (by omega)).trans HW.out.2.2.2.2.1, HF.out.2.2 _⟩
          case measure => simp [intOf]; omega
        · obtain rfl : j = 64 := by omega
          have hjE2 : ¬ (64 : Int) < 64 := by omega
          obtain ⟨v, hv⟩ : ∃ v, v = roundsF tab (wordsF blk 64) h 64 := ⟨_, rfl⟩
          rw [← hv] at hgv
          have HV2 := Lib.hid (And.intro hv (And.intro hgv (And.intro hgh (And.intro hgz hbl))))
          clear hv hgv hgw hgh hgz hbl
          obtain ⟨wc, rfl⟩ : ∃ wc : World, wc = wr := ⟨_, rfl⟩
          go_wp2
          go_loopw [167] (fun i wr => ∃ j : Nat, j ≤ 8 ∧ i = .int .i64 j ∧ wr.heap[w.heap.size]? = some (.cells (w32 (addK h v j)).toArray 127 (0, 0)) ∧ wr.heap[wa.heap.size]? = some (.cells (w32 v.list).toArray 127 (0, 0)) ∧ wr.heap[w.heap.size + 1]? = some (.cells (w32 z8.list).toArray 127 (0, 0)) ∧ Below w.heap.size w wr) (fun i _ => 8 - (intOf i).toNat)
          case atStart => exact ⟨0, Nat.zero_le _, rfl, HV2.out.2.2.1, HV2.out.2.1, HV2.out.2.2.2.1, HV2.out.2.2.2.2⟩
          case round =>
            obtain ⟨j, hj, rfl, hgh, hgv, hgz, hbl⟩ := hrel
            have hj0 : (0 : Int) ≤ (j : Int) := by omega
            by_cases hlt : j < 8
            · have hji : (j : Int) < 8 := by omega
              have x0 := w32_cell hgh (i := j) (by rw [addK_len _ _ hj]; exact hlt)
              rw [addK_at _ _ hlt] at x0
              have x1 := w32_cell hgv (i := j) hlt
              have f0 : wr.frozen? ⟨w.heap.size, j, none⟩ = false := frozen_of_row _ _ _ _ _ hgh
              have hst : ∀ W : World, W.heap[w.heap.size]? = some (.cells (w32 (addK h v j)).toArray 127 (0, 0)) → (W.setCell ⟨w.heap.size, j, none⟩ (.int .u32 ((nth h.list j + nth v.list j) % 4294967296))).heap[w.heap.size]? = some (.cells (w32 (addK h v (j + 1))).toArray 127 (0, 0)) := fun W hW => by
                rw [setCell_heap hW, w32_set, addK_next _ _ hlt]
              generalize nth h.list j = y0 at *
              generalize nth v.list j = y1 at *
              have HS := Lib.hid (And.intro hst (And.intro hgh (And.intro hgv (And.intro hgz hbl))))
              clear hst hgh hgv hgz hbl
              go_upto_region 27 with fail
              go_region
              go_wp2
              go_roundw
              case rel =>
                refine ⟨j + 1, by omega, by go_num, HS.out.1 _ HS.out.2.1, ?_, ?_, ?_⟩
                · exact (Below.heap_setCell _ _ _ _ (by show wa.heap.size ≠ w.heap.size; omega)).trans HS.out.2.2.1
                · exact (Below.heap_setCell _ _ _ _ (by show w.heap.size + 1 ≠ w.heap.size; omega)).trans HS.out.2.2.2.1
                · exact (HS.out.2.2.2.2.setCell (p := ⟨w.heap.size, j, none⟩) (Nat.le_refl _) _).drew
              case measure => simp [intOf]; omega
            · obtain rfl : j = 8 := by omega
              have hjE3 : ¬ (8 : Int) < 8 := by omega
              rw [addK_all] at hgh
              have hq : (⟨q0, q1, q2, q3, q4, q5, q6, q7⟩ : V8) = add8 h v := by rw [HR.out.1, HV2.out.1, HR.out.2]; rfl
              rw [← hq] at hgh
              have k0 : wr.cell? ⟨w.heap.size, 0, none⟩ = some (.int .u32 q0) := by rw [cell_of_row _ _ _ _ _ _ hgh]; rfl
              have k1 : wr.cell? ⟨w.heap.size, 1, none⟩ = some (.int .u32 q1) := by rw [cell_of_row _ _ _ _ _ _ hgh]; rfl
              have k2 : wr.cell? ⟨w.heap.size, 2, none⟩ = some (.int .u32 q2) := by rw [cell_of_row _ _ _ _ _ _ hgh]; rfl
              have k3 : wr.cell? ⟨w.heap.size, 3, none⟩ = some (.int .u32 q3) := by rw [cell_of_row _ _ _ _ _ _ hgh]; rfl
              have k4 : wr.cell? ⟨w.heap.size, 4, none⟩ = some (.int .u32 q4) := by rw [cell_of_row _ _ _ _ _ _ hgh]; rfl
              have k5 : wr.cell? ⟨w.heap.size, 5, none⟩ = some (.int .u32 q5) := by rw [cell_of_row _ _ _ _ _ _ hgh]; rfl
              have k6 : wr.cell? ⟨w.heap.size, 6, none⟩ = some (.int .u32 q6) := by rw [cell_of_row _ _ _ _ _ _ hgh]; rfl
              have k7 : wr.cell? ⟨w.heap.size, 7, none⟩ = some (.int .u32 q7) := by rw [cell_of_row _ _ _ _ _ _ hgh]; rfl
              have z0 : ∀ i, i < 8 → ∃ x, wr.cell? ⟨w.heap.size + 1, i, none⟩ = some x := fun i hi => ⟨_, w32_cell hgz (i := i) hi⟩
              have hfz : ∀ i, wr.frozen? ⟨w.heap.size + 1, i, none⟩ = false := fun i => frozen_of_row _ _ _ _ _ hgz
              obtain ⟨y0, j0⟩ := z0 0 (by decide)
              obtain ⟨y1, j1⟩ := z0 1 (by decide)
              obtain ⟨y2, j2⟩ := z0 2 (by decide)
              obtain ⟨y3, j3⟩ := z0 3 (by decide)
              obtain ⟨y4, j4⟩ := z0 4 (by decide)
              obtain ⟨y5, j5⟩ := z0 5 (by decide)
              obtain ⟨y6, j6⟩ := z0 6 (by decide)
              obtain ⟨y7, j7⟩ := z0 7 (by decide)
              have f0 := hfz 0
              have f1 := hfz 1
              have f2 := hfz 2
              have f3 := hfz 3
              have f4 := hfz 4
              have f5 := hfz 5
              have f6 := hfz 6
              have f7 := hfz 7
              have HZ := Lib.hid (And.intro (W8.here hgz ⟨q0, q1, q2, q3, q4, q5, q6, q7⟩) (W8.below (V := w.heap.size + 1) ⟨q0, q1, q2, q3, q4, q5, q6, q7⟩ hbl (by omega)))
              clear z0 hfz hgh hgv hgz hbl hq
              go_wp2
              (try simp only [Exit.inBlock, Exit.then])
              exact bodyPost_ret (results_cell_row rfl _ _ (w.heap.size + 1) 127 _ (0, 0) _ rfl HZ.out.1 Tryz.underlying127 rfl (by kernel_rfl)) rfl ⟨rfl, HZ.out.2⟩
end Go.Proofs.YtnbefiaeihialaaGreat
