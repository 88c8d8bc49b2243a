/- Package header: Right. -/
import Derived.Test.YtdaekoapkclliaaDoorHdrC
set_option linter.unusedVariables false
set_option linter.unusedSimpArgs false
namespace Go.Proofs.YtdaekoapkclliaaDoor
open Go.RowKit
/-- The quiet walk, not to be unfolded. -/
structure WQ (P : Program) (ops : Array Oper) (C : World → Prop) (Q : Act → Prop) (l : List Oper) (a : Act) : Prop where
  h : wpQuiet P ops C Q l a
theorem wq_nil {P : Program} {ops : Array Oper} {C : World → Prop} {Q : Act → Prop} {a : Act} (h : Q a) : WQ P ops C Q [] a := ⟨wpQuiet_nil h⟩
theorem wq_step {P : Program} {ops : Array Oper} {C : World → Prop} {Q : Act → Prop} {a : Act} {o : Oper} {rest : List Oper}
    (h : ∀ K : Act → Prop, (∀ a, WQ P ops C Q rest a → K a) → if Region.wanted o (yielded ops a.tmps) then o.quiet P a C K else K (a.put o.dst undef)) : WQ P ops C Q (o :: rest) a :=
  ⟨wpQuiet_step fun K hK => h K fun a x => hK a x.h⟩
theorem okN_z {z : Int} {c : UInt8} (hz : z = (c.toNat : Int)) : okN c = decide (33 ≤ z ∧ z ≤ 126 ∧ z ≠ 58) := by
  subst hz; unfold okN
  rw [Bool.eq_iff_iff, decide_eq_true_iff, decide_eq_true_iff]; omega
theorem okN_ways (z : Int) : z < 33 ∨ (¬ z < 33 ∧ 126 < z) ∨ (¬ z < 33 ∧ ¬ 126 < z ∧ (z == 58) = true) ∨ (¬ z < 33 ∧ ¬ 126 < z ∧ (z == 58) = false) := by
  by_cases h : z = 58
  · subst h; right; right; left; decide
  · have e : (z == 58) = false := beq_false_of_ne h
    rw [e]; simp; omega
theorem eq_data {x y : ByteArray} : x = y ↔ x.data.toList = y.data.toList :=
  ⟨fun h => by rw [h], fun h => ByteArray.ext (Array.ext' h)⟩
theorem bytes_eq2 {x y : ByteArray} : (x.toList == y.toList) = decide (x.data.toList = y.data.toList) := by
  rw [Lib.toList_data, Lib.toList_data, Bool.eq_iff_iff, beq_iff_eq, decide_eq_true_iff]
theorem empty_is {x : ByteArray} : (x.toList == []) = decide (x.data.toList = []) := by
  rw [Lib.toList_data, Bool.eq_iff_iff, beq_iff_eq, decide_eq_true_iff]
theorem empty_sz {x : ByteArray} : (x.toList == []) = decide (x.size = 0) := by
  rw [empty_is, ← bsize, Bool.eq_iff_iff, decide_eq_true_iff, decide_eq_true_iff, List.length_eq_zero_iff]
set_option maxRecDepth 100000 in
set_option maxHeartbeats 8000000 in
theorem right_any (nm bd : ByteArray) (w : World) (h1 : nm.size ≤ 9223372036854775807) (h2 : bd.size ≤ 9223372036854775807) :
    Calls Tryd.prog 17 #[.agg #[.string nm, .string bd]] w fun e w' => e = .returned (.bool (rtF nm.data.toList bd.data.toList)) ∧ Below w.heap.size w w' := by
  obtain ⟨R, hR⟩ : ∃ R, R = rtF nm.data.toList bd.data.toList := ⟨_, rfl⟩
  rw [← hR]
  unfold rtF at hR
  rw [bsize] at hR
  have hs0 : (0 : Int) ≤ (nm.size : Int) := by omega
  have hq1 := empty_sz (x := nm)
  have hteq : ((⟨(trB bd.data.toList).toArray⟩ : ByteArray).toList == bd.toList) = decide (trB bd.data.toList = bd.data.toList) := by rw [bytes_eq2]
  obtain ⟨TB, hTB⟩ : ∃ TB : ByteArray, TB = ⟨(trB bd.data.toList).toArray⟩ := ⟨_, rfl⟩
  rw [← hTB] at hteq
  have hbx := heap_alloc_new w (.cells #[.string nm, .string bd] 38 (0, 0))
  have hb3 : Below w.heap.size w (w.alloc (.cells #[.string nm, .string bd] 38 (0, 0))) := (Below.refl _ w).alloc (Nat.le_refl _) _
  have c1 := fun W => cbad_any bd W (by omega)
  have c2 := fun W => trbl_any bd W (by omega)
  rw [← hTB] at c2
  clear hTB
  generalize decide (trB bd.data.toList = bd.data.toList) = TE at *
  generalize bd.data.toList.any isBad = BD at *
  have HNS := Lib.hid (bsize nm)
  by_cases z0 : nm.size = 0
  · obtain rfl : R = false := hR.trans (by rw [z0]; rfl)
    rw [decide_eq_true z0] at hq1
    have hne : (nm.toList != []) = false := by rw [bne, hq1]; rfl
    clear hR z0 hteq
    go_enter Tryd.func17, Tryd.ntmps17
    go_wp2_with fail
    generalize w.alloc (.cells #[.string nm, .string bd] 38 (0, 0)) = w1 at *
    obtain ⟨C, hCd⟩ : ∃ C : World → Prop, C = fun w3 => Hid (Below w1.heap.size w1 w3) := ⟨_, rfl⟩
    have key2 : ∀ w3, C w3 → w3.cell? ⟨w.heap.size, 0, none⟩ = some (.string nm) ∧ w3.cell? ⟨w.heap.size, 1, none⟩ = some (.string bd) ∧ C w3 := by
      intro w3 h
      have hb := h
      rw [hCd] at hb
      have h2 := (hb.out.block _ (lt_of_block hbx)).trans hbx
      exact ⟨by rw [cell_of_row _ _ _ _ _ _ h2]; rfl, by rw [cell_of_row _ _ _ _ _ _ h2]; rfl, h⟩
    have hCs : ∀ w3, C w3 → C w3.drew := fun w3 h => by rw [hCd] at h ⊢; exact Lib.hid h.out.drew
    have hC2 : C w1 := by rw [hCd]; exact Lib.hid (Below.refl _ _)
    have hCb : ∀ w3, C w3 → Below w.heap.size w w3 := fun w3 h => by rw [hCd] at h; exact hb3.trans (h.out.mono hb3.size)
    have hCn : ∀ W W', C W → Below W.heap.size W W' → C W' := fun W W' h h' => by rw [hCd] at h ⊢; exact Lib.hid (h.out.trans (h'.mono h.out.size))
    have hCk : ∀ W o, C W → C (W.alloc o) := fun W o h => hCn W _ h ((Below.refl _ W).alloc (Nat.le_refl _) o)
    have HCK := Lib.hid hCk
    have HCB := Lib.hid hCb
    have HCN := Lib.hid hCn
    have HCS := Lib.hid hCs
    have HKY := Lib.hid key2
    clear hCb hCn hCs hCk key2 hbx hb3 hCd
    have k1 := fun W (h : C W) => (c1 W).mono fun e w3 ⟨he, hb⟩ => (⟨he, HCN.out W w3 h hb⟩ : _ ∧ C w3)
    have k2 := fun W (h : C W) => (c2 W).mono fun e w3 ⟨he, hb⟩ => (⟨he, HCN.out W w3 h hb⟩ : _ ∧ C w3)
    have hC0 := HCS.out _ hC2
    clear hC2 c1 c2
    refine wp_region_quiet (C := C) (by kernel_rfl) (by kernel_rfl) hC0 ?_
    refine WQ.h ?_
    repeat
      refine wq_step (fun K hK => ?_)
      have HK := Lib.hid hK
      clear hK
      first
        | (refine (if_pos ?_).mpr ?_
           · (simp [go_sem]; done)
           apply Exists.intro
           refine ⟨fun w' hw' => ?_, ?_⟩
           · (obtain ⟨y0, y1, yC⟩ := HKY.out w' hw'; go_simp; first | done | rfl | with_reducible exact k1 _ hw' | with_reducible exact k2 _ hw')
           go_simp
           refine HK.out _ ?_
           clear HK K)
        | (refine (if_neg ?_).mpr ?_
           · first | (simp [go_sem]; done) | (simp [go_sem, undef]; done)
           go_simp
           refine HK.out _ ?_
           clear HK K)
    refine wq_nil ?_
    intro w9 hw9
    clear k1 k2
    go_wp2
    go_ret
    exact ⟨rfl, HCB.out _ hw9⟩
  · rw [decide_eq_false z0] at hq1
    by_cases z1 : 64 < nm.size
    · obtain rfl : R = false := hR.trans (by rw [decide_eq_false (by omega)]; rfl)
      have z1i : (64 : Int) < (nm.size : Int) := by omega
      clear hR z0 hteq
      go_enter Tryd.func17, Tryd.ntmps17
      go_wp2_with fail
      generalize w.alloc (.cells #[.string nm, .string bd] 38 (0, 0)) = w1 at *
      obtain ⟨C, hCd⟩ : ∃ C : World → Prop, C = fun w3 => Hid (Below w1.heap.size w1 w3) := ⟨_, rfl⟩
      have key2 : ∀ w3, C w3 → w3.cell? ⟨w.heap.size, 0, none⟩ = some (.string nm) ∧ w3.cell? ⟨w.heap.size, 1, none⟩ = some (.string bd) ∧ C w3 := by
        intro w3 h
        have hb := h
        rw [hCd] at hb
        have h2 := (hb.out.block _ (lt_of_block hbx)).trans hbx
        exact ⟨by rw [cell_of_row _ _ _ _ _ _ h2]; rfl, by rw [cell_of_row _ _ _ _ _ _ h2]; rfl, h⟩
      have hCs : ∀ w3, C w3 → C w3.drew := fun w3 h => by rw [hCd] at h ⊢; exact Lib.hid h.out.drew
      have hC2 : C w1 := by rw [hCd]; exact Lib.hid (Below.refl _ _)
      have hCb : ∀ w3, C w3 → Below w.heap.size w w3 := fun w3 h => by rw [hCd] at h; exact hb3.trans (h.out.mono hb3.size)
      have hCn : ∀ W W', C W → Below W.heap.size W W' → C W' := fun W W' h h' => by rw [hCd] at h ⊢; exact Lib.hid (h.out.trans (h'.mono h.out.size))
      have hCk : ∀ W o, C W → C (W.alloc o) := fun W o h => hCn W _ h ((Below.refl _ W).alloc (Nat.le_refl _) o)
      have HCK := Lib.hid hCk
      have HCB := Lib.hid hCb
      have HCN := Lib.hid hCn
      have HCS := Lib.hid hCs
      have HKY := Lib.hid key2
      clear hCb hCn hCs hCk key2 hbx hb3 hCd
      have k1 := fun W (h : C W) => (c1 W).mono fun e w3 ⟨he, hb⟩ => (⟨he, HCN.out W w3 h hb⟩ : _ ∧ C w3)
      have k2 := fun W (h : C W) => (c2 W).mono fun e w3 ⟨he, hb⟩ => (⟨he, HCN.out W w3 h hb⟩ : _ ∧ C w3)
      have hC0 := HCS.out _ hC2
      clear hC2 c1 c2
      refine wp_region_quiet (C := C) (by kernel_rfl) (by kernel_rfl) hC0 ?_
      refine WQ.h ?_
      repeat
        refine wq_step (fun K hK => ?_)
        have HK := Lib.hid hK
        clear hK
        first
          | (refine (if_pos ?_).mpr ?_
             · (simp [go_sem]; done)
             apply Exists.intro
             refine ⟨fun w' hw' => ?_, ?_⟩
             · (obtain ⟨y0, y1, yC⟩ := HKY.out w' hw'; go_simp; first | done | rfl | with_reducible exact k1 _ hw' | with_reducible exact k2 _ hw')
             go_simp
             refine HK.out _ ?_
             clear HK K)
          | (refine (if_neg ?_).mpr ?_
             · first | (simp [go_sem]; done) | (simp [go_sem, undef]; done)
             go_simp
             refine HK.out _ ?_
             clear HK K)
      refine wq_nil ?_
      intro w9 hw9
      clear k1 k2
      go_wp2
      go_ret
      exact ⟨rfl, HCB.out _ hw9⟩
    · have z1i : ¬ (64 : Int) < (nm.size : Int) := by omega
      have z1d : decide ((64 : Int) < (nm.size : Int)) = false := decide_eq_false z1i
      rw [decide_eq_true (by omega), Bool.true_and] at hR
      cases BD with
      | true =>
        obtain rfl : R = false := hR.trans (by simp)
        clear hR z0 hteq
        go_enter Tryd.func17, Tryd.ntmps17
        go_wp2_with fail
        generalize w.alloc (.cells #[.string nm, .string bd] 38 (0, 0)) = w1 at *
        obtain ⟨C, hCd⟩ : ∃ C : World → Prop, C = fun w3 => Hid (Below w1.heap.size w1 w3) := ⟨_, rfl⟩
        have key2 : ∀ w3, C w3 → w3.cell? ⟨w.heap.size, 0, none⟩ = some (.string nm) ∧ w3.cell? ⟨w.heap.size, 1, none⟩ = some (.string bd) ∧ C w3 := by
          intro w3 h
          have hb := h
          rw [hCd] at hb
          have h2 := (hb.out.block _ (lt_of_block hbx)).trans hbx
          exact ⟨by rw [cell_of_row _ _ _ _ _ _ h2]; rfl, by rw [cell_of_row _ _ _ _ _ _ h2]; rfl, h⟩
        have hCs : ∀ w3, C w3 → C w3.drew := fun w3 h => by rw [hCd] at h ⊢; exact Lib.hid h.out.drew
        have hC2 : C w1 := by rw [hCd]; exact Lib.hid (Below.refl _ _)
        have hCb : ∀ w3, C w3 → Below w.heap.size w w3 := fun w3 h => by rw [hCd] at h; exact hb3.trans (h.out.mono hb3.size)
        have hCn : ∀ W W', C W → Below W.heap.size W W' → C W' := fun W W' h h' => by rw [hCd] at h ⊢; exact Lib.hid (h.out.trans (h'.mono h.out.size))
        have hCk : ∀ W o, C W → C (W.alloc o) := fun W o h => hCn W _ h ((Below.refl _ W).alloc (Nat.le_refl _) o)
        have HCK := Lib.hid hCk
        have HCB := Lib.hid hCb
        have HCN := Lib.hid hCn
        have HCS := Lib.hid hCs
        have HKY := Lib.hid key2
        clear hCb hCn hCs hCk key2 hbx hb3 hCd
        have k1 := fun W (h : C W) => (c1 W).mono fun e w3 ⟨he, hb⟩ => (⟨he, HCN.out W w3 h hb⟩ : _ ∧ C w3)
        have k2 := fun W (h : C W) => (c2 W).mono fun e w3 ⟨he, hb⟩ => (⟨he, HCN.out W w3 h hb⟩ : _ ∧ C w3)
        have hC0 := HCS.out _ hC2
        clear hC2 c1 c2
        refine wp_region_quiet (C := C) (by kernel_rfl) (by kernel_rfl) hC0 ?_
        refine WQ.h ?_
        repeat
          refine wq_step (fun K hK => ?_)
          have HK := Lib.hid hK
          clear hK
          first
            | (refine (if_pos ?_).mpr ?_
               · (simp [go_sem]; done)
               apply Exists.intro
               refine ⟨fun w' hw' => ?_, ?_⟩
               · (obtain ⟨y0, y1, yC⟩ := HKY.out w' hw'; go_simp; first | done | rfl | with_reducible exact k1 _ hw' | with_reducible exact k2 _ hw')
               go_simp
               refine HK.out _ ?_
               clear HK K)
            | (refine (if_neg ?_).mpr ?_
               · first | (simp [go_sem]; done) | (simp [go_sem, undef]; done)
               go_simp
               refine HK.out _ ?_
               clear HK K)
        refine wq_nil ?_
        intro w9 hw9
        clear k1 k2
        go_wp2
        go_ret
        exact ⟨rfl, HCB.out _ hw9⟩
      | false =>
        cases TE with
        | false =>
          obtain rfl : R = false := hR.trans (by simp)
          have hte2 : (TB.toList != bd.toList) = true := by rw [bne, hteq]; rfl
          clear hR z0
          go_enter Tryd.func17, Tryd.ntmps17
          go_wp2_with fail
          generalize w.alloc (.cells #[.string nm, .string bd] 38 (0, 0)) = w1 at *
          obtain ⟨C, hCd⟩ : ∃ C : World → Prop, C = fun w3 => Hid (Below w1.heap.size w1 w3) := ⟨_, rfl⟩
          have key2 : ∀ w3, C w3 → w3.cell? ⟨w.heap.size, 0, none⟩ = some (.string nm) ∧ w3.cell? ⟨w.heap.size, 1, none⟩ = some (.string bd) ∧ C w3 := by
            intro w3 h
            have hb := h
            rw [hCd] at hb
            have h2 := (hb.out.block _ (lt_of_block hbx)).trans hbx
            exact ⟨by rw [cell_of_row _ _ _ _ _ _ h2]; rfl, by rw [cell_of_row _ _ _ _ _ _ h2]; rfl, h⟩
          have hCs : ∀ w3, C w3 → C w3.drew := fun w3 h => by rw [hCd] at h ⊢; exact Lib.hid h.out.drew
          have hC2 : C w1 := by rw [hCd]; exact Lib.hid (Below.refl _ _)
          have hCb : ∀ w3, C w3 → Below w.heap.size w w3 := fun w3 h => by rw [hCd] at h; exact hb3.trans (h.out.mono hb3.size)
          have hCn : ∀ W W', C W → Below W.heap.size W W' → C W' := fun W W' h h' => by rw [hCd] at h ⊢; exact Lib.hid (h.out.trans (h'.mono h.out.size))
          have hCk : ∀ W o, C W → C (W.alloc o) := fun W o h => hCn W _ h ((Below.refl _ W).alloc (Nat.le_refl _) o)
          have HCK := Lib.hid hCk
          have HCB := Lib.hid hCb
          have HCN := Lib.hid hCn
          have HCS := Lib.hid hCs
          have HKY := Lib.hid key2
          clear hCb hCn hCs hCk key2 hbx hb3 hCd
          have k1 := fun W (h : C W) => (c1 W).mono fun e w3 ⟨he, hb⟩ => (⟨he, HCN.out W w3 h hb⟩ : _ ∧ C w3)
          have k2 := fun W (h : C W) => (c2 W).mono fun e w3 ⟨he, hb⟩ => (⟨he, HCN.out W w3 h hb⟩ : _ ∧ C w3)
          have hC0 := HCS.out _ hC2
          clear hC2 c1 c2
          refine wp_region_quiet (C := C) (by kernel_rfl) (by kernel_rfl) hC0 ?_
          refine WQ.h ?_
          repeat
            refine wq_step (fun K hK => ?_)
            have HK := Lib.hid hK
            clear hK
            first
              | (refine (if_pos ?_).mpr ?_
                 · (simp [go_sem]; done)
                 apply Exists.intro
                 refine ⟨fun w' hw' => ?_, ?_⟩
                 · (obtain ⟨y0, y1, yC⟩ := HKY.out w' hw'; go_simp; first | done | rfl | with_reducible exact k1 _ hw' | with_reducible exact k2 _ hw')
                 go_simp
                 refine HK.out _ ?_
                 clear HK K)
              | (refine (if_neg ?_).mpr ?_
                 · first | (simp [go_sem]; done) | (simp [go_sem, undef]; done)
                 go_simp
                 refine HK.out _ ?_
                 clear HK K)
          refine wq_nil ?_
          intro w9 hw9
          clear k1 k2
          go_wp2
          go_ret
          exact ⟨rfl, HCB.out _ hw9⟩
        | true =>
          have hR2 : R = nm.data.toList.all okN := hR.trans (by simp)
          have HR := Lib.hid hR2
          have hte2 : (TB.toList != bd.toList) = false := by rw [bne, hteq]; rfl
          clear hR z0 hR2
          go_enter Tryd.func17, Tryd.ntmps17
          go_wp2_with fail
          generalize w.alloc (.cells #[.string nm, .string bd] 38 (0, 0)) = w1 at *
          obtain ⟨C, hCd⟩ : ∃ C : World → Prop, C = fun w3 => Hid (Below w1.heap.size w1 w3) := ⟨_, rfl⟩
          have key2 : ∀ w3, C w3 → w3.cell? ⟨w.heap.size, 0, none⟩ = some (.string nm) ∧ w3.cell? ⟨w.heap.size, 1, none⟩ = some (.string bd) ∧ C w3 := by
            intro w3 h
            have hb := h
            rw [hCd] at hb
            have h2 := (hb.out.block _ (lt_of_block hbx)).trans hbx
            exact ⟨by rw [cell_of_row _ _ _ _ _ _ h2]; rfl, by rw [cell_of_row _ _ _ _ _ _ h2]; rfl, h⟩
          have hCs : ∀ w3, C w3 → C w3.drew := fun w3 h => by rw [hCd] at h ⊢; exact Lib.hid h.out.drew
          have hC2 : C w1 := by rw [hCd]; exact Lib.hid (Below.refl _ _)
          have hCb : ∀ w3, C w3 → Below w.heap.size w w3 := fun w3 h => by rw [hCd] at h; exact hb3.trans (h.out.mono hb3.size)
          have hCn : ∀ W W', C W → Below W.heap.size W W' → C W' := fun W W' h h' => by rw [hCd] at h ⊢; exact Lib.hid (h.out.trans (h'.mono h.out.size))
          have hCk : ∀ W o, C W → C (W.alloc o) := fun W o h => hCn W _ h ((Below.refl _ W).alloc (Nat.le_refl _) o)
          have HCK := Lib.hid hCk
          have HCB := Lib.hid hCb
          have HCN := Lib.hid hCn
          have HCS := Lib.hid hCs
          have HKY := Lib.hid key2
          clear hCb hCn hCs hCk key2 hbx hb3 hCd
          have k1 := fun W (h : C W) => (c1 W).mono fun e w3 ⟨he, hb⟩ => (⟨he, HCN.out W w3 h hb⟩ : _ ∧ C w3)
          have k2 := fun W (h : C W) => (c2 W).mono fun e w3 ⟨he, hb⟩ => (⟨he, HCN.out W w3 h hb⟩ : _ ∧ C w3)
          have hC0 := HCS.out _ hC2
          clear hC2 c1 c2
          refine wp_region_quiet (C := C) (by kernel_rfl) (by kernel_rfl) hC0 ?_
          refine WQ.h ?_
          repeat
            refine wq_step (fun K hK => ?_)
            have HK := Lib.hid hK
            clear hK
            first
              | (refine (if_pos ?_).mpr ?_
                 · (simp [go_sem]; done)
                 apply Exists.intro
                 refine ⟨fun w' hw' => ?_, ?_⟩
                 · (obtain ⟨y0, y1, yC⟩ := HKY.out w' hw'; go_simp; first | done | rfl | with_reducible exact k1 _ hw' | with_reducible exact k2 _ hw')
                 go_simp
                 refine HK.out _ ?_
                 clear HK K)
              | (refine (if_neg ?_).mpr ?_
                 · first | (simp [go_sem]; done) | (simp [go_sem, undef]; done)
                 go_simp
                 refine HK.out _ ?_
                 clear HK K)
          refine wq_nil ?_
          intro w9 hw9
          clear k1 k2
          obtain ⟨a0, a1, aC⟩ := HKY.out _ hw9
          go_wp2
          go_loop [29] (fun i => ∃ k : Nat, k ≤ nm.size ∧ i = .int .i64 k ∧ (nm.data.toList.take k).all okN = true) (fun i => nm.size - (intOf i).toNat)
          case atStart => exact ⟨0, Nat.zero_le _, rfl, rfl⟩
          case round =>
            obtain ⟨k, hk, rfl, hall⟩ := hrel
            have HA := Lib.hid hall
            clear hall
            have hk0 : (0 : Int) ≤ (k : Int) := by omega
            by_cases hlt : k < nm.size
            · have hki : (k : Int) < (nm.size : Int) := by omega
              obtain ⟨c, hc⟩ : ∃ c, c = nm[k]'hlt := ⟨_, rfl⟩
              have hl : k < nm.data.toList.length := by rw [HNS.out]; exact hlt
              have hge : nm.data.toList[k] = c := by rw [hc]; rfl
              have hnx : okN c = true → (nm.data.toList.take (k + 1)).all okN = true := fun h => by
                rw [List.take_succ_eq_append_getElem hl, List.all_append, HA.out, hge]; simp [h]
              have hbad : okN c = false → R = false := fun h => by
                rw [HR.out, List.all_eq_false]; exact ⟨c, hge ▸ List.getElem_mem hl, by rw [h]; simp⟩
              obtain ⟨z, hz⟩ : ∃ z : Int, z = (c.toNat : Int) := ⟨_, rfl⟩
              have hzn := okN_z hz
              have hix : ((nm[k]'hlt).toNat : Int) = z := by rw [hz, hc]
              have HX := Lib.hid (And.intro hnx (And.intro hbad hzn))
              clear hnx hbad hzn hz hge hl hc
              rcases okN_ways z with h1 | ⟨h1, h2⟩ | ⟨h1, h2, h3⟩ | ⟨h1, h2, h3⟩
              · obtain rfl := HX.out.2.1 (HX.out.2.2.trans (decide_eq_false (by omega)))
                go_wp2
                go_ret
                exact ⟨rfl, HCB.out _ hw9⟩
              · obtain rfl := HX.out.2.1 (HX.out.2.2.trans (decide_eq_false (by omega)))
                go_wp2
                go_ret
                exact ⟨rfl, HCB.out _ hw9⟩
              · obtain rfl := HX.out.2.1 (HX.out.2.2.trans (decide_eq_false (by have := beq_iff_eq.1 h3; omega)))
                go_wp2
                go_ret
                exact ⟨rfl, HCB.out _ hw9⟩
              · have H := Lib.hid (HX.out.1 (HX.out.2.2.trans (decide_eq_true (by have := beq_eq_false_iff_ne.1 h3; omega))))
                go_wp2
                go_round
                case rel => exact ⟨k + 1, by omega, by go_num, H.out⟩
                case measure => simp [intOf]; omega
            · obtain rfl : k = nm.size := by omega
              have hjE : ¬ (nm.size : Int) < (nm.size : Int) := by omega
              have hAll : nm.data.toList.all okN = true := by have := HA.out; rwa [List.take_of_length_le (by rw [HNS.out]; exact Nat.le_refl _)] at this
              obtain rfl : R = true := HR.out.trans hAll
              clear hAll
              go_wp2
              go_ret
              exact ⟨rfl, HCB.out _ hw9⟩
end Go.Proofs.YtdaekoapkclliaaDoor
