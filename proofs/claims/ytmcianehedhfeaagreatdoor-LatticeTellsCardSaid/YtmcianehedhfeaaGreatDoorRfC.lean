/- The document's lattice: In, Dominates. -/
import Derived.Test.YtmcianehedhfeaaGreatDoorRfB
set_option linter.unusedVariables false
set_option linter.unusedSimpArgs false
namespace Go.Proofs.YtmcianehedhfeaaGreatDoor
open Go.RowKit
theorem hasB_true {m i : Nat} : hasB m i = true ↔ m / 2 ^ i % 2 = 1 := by unfold hasB; rw [decide_eq_true_iff]
theorem hasB_false {m i : Nat} : hasB m i = false ↔ ¬ m / 2 ^ i % 2 = 1 := by unfold hasB; rw [decide_eq_false_iff_not]
set_option maxRecDepth 100000 in
set_option maxHeartbeats 8000000 in
theorem rin_any (v1 v2 : Value) (lv cp : List ByteArray) (a : Int) (m : Nat) (w : World) (h1 : SlIn w v1 lv) (h2 : SlIn w v2 cp) (hml : lv.length ≤ 9223372036854775807 ∧ cp.length ≤ 9223372036854775807) (hz : ∀ x ∈ lv ++ cp, x.size ≤ 9223372036854775807) (hmm : m < M64) :
    Calls Tryz.prog 13 #[.agg #[v1, v2], labV a m] w fun e w' => e = .returned (.bool (inL (nms lv) (nms cp) a m)) ∧ Below w.heap.size w w' := by
  unfold labV
  obtain ⟨A, c, rfl, hA, hA0⟩ := id h1
  obtain ⟨B, q, rfl, hB, hB0⟩ := id h2
  have HIN := Lib.hid (And.intro hA (And.intro hB (And.intro h1 h2)))
  have HML := Lib.hid hml
  have HZ := Lib.hid hz
  clear hA hB hA0 hB0 h1 h2 hz
  generalize hn : lv.length = n at *
  generalize hk : cp.length = k at *
  obtain ⟨hnm, hkm⟩ := hml
  have HNK := Lib.hid (And.intro hn hk)
  have hn0 : (0 : Int) ≤ (n : Int) := by omega
  have hk0 : (0 : Int) ≤ (k : Int) := by omega
  clear hn hk
  obtain ⟨R, hR⟩ : ∃ R, R = inL (nms lv) (nms cp) a m := ⟨_, rfl⟩
  rw [← hR]
  unfold inL at hR
  rw [nms_len, nms_len, HNK.out.1, HNK.out.2] at hR
  have hlat := latR_iff (nms lv) (nms cp)
  have h64 : latR (nms lv) (nms cp) = true → k ≤ 64 := fun h => by have := (hlat.1 h).c64; rw [nms_len, HNK.out.2] at this; exact this
  have hbx := And.intro (heap_alloc2_old w (.cells #[.slice A n c, .slice B k q] 24 (0, 0)) (.cells #[.int .i64 a, .int .u64 (m : Int)] 27 (0, 0))) (heap_alloc2_new w (.cells #[.slice A n c, .slice B k q] 24 (0, 0)) (.cells #[.int .i64 a, .int .u64 (m : Int)] 27 (0, 0)))
  have hb3 := below2 w (.cells #[.slice A n c, .slice B k q] 24 (0, 0)) (.cells #[.int .i64 a, .int .u64 (m : Int)] 27 (0, 0))
  go_enter Tryz.func13, Tryz.ntmps13
  go_wp2_with fail
  generalize ((w.alloc (.cells #[.slice A n c, .slice B k q] 24 (0, 0))).alloc (.cells #[.int .i64 a, .int .u64 (m : Int)] 27 (0, 0))) = w1 at *
  obtain ⟨C, hCd⟩ : ∃ C : World → Prop, C = fun w3 => Hid (Below w1.heap.size w1 w3) := ⟨_, rfl⟩
  have key2 : ∀ w3, C w3 → w3.cell? ⟨w.heap.size, 0, none⟩ = some (.slice A n c) ∧ w3.cell? ⟨w.heap.size, 1, none⟩ = some (.slice B k q) ∧ w3.cell? ⟨w.heap.size + 1, 0, none⟩ = some (.int .i64 a) ∧ w3.cell? ⟨w.heap.size + 1, 1, none⟩ = some (.int .u64 (m : Int)) ∧ C w3 := by
    intro w3 h
    have hb := h
    rw [hCd] at hb
    obtain ⟨x0, y0⟩ := agg_keep hbx.1 hb.out
    obtain ⟨x1, y1⟩ := agg_keep hbx.2 hb.out
    exact ⟨x0, y0, x1, y1, h⟩
  have hCs : ∀ w3, C w3 → C w3.drew := fun w3 h => by rw [hCd] at h ⊢; exact Lib.hid h.out.drew
  have hC2 : C w1 := by rw [hCd]; exact Lib.hid (Below.refl _ _)
  have hCb : ∀ w3, C w3 → Below w.heap.size w w3 := fun w3 h => by rw [hCd] at h; exact hb3.trans (h.out.mono hb3.size)
  have hCn : ∀ W W', C W → Below W.heap.size W W' → C W' := fun W W' h h' => by rw [hCd] at h ⊢; exact Lib.hid (h.out.trans (h'.mono h.out.size))
  have hCk : ∀ W o, C W → C (W.alloc o) := fun W o h => hCn W _ h ((Below.refl _ W).alloc (Nat.le_refl _) o)
  have HCK := Lib.hid hCk
  have hsl : ∀ W, C W → SlIn W (.slice A n c) lv ∧ SlIn W (.slice B k q) cp ∧ StrsIn W A n lv ∧ StrsIn W B k cp := fun W h => by have hb := hCb W h; exact ⟨HIN.out.2.2.1.below hb, HIN.out.2.2.2.below hb, HIN.out.1.below hb, HIN.out.2.1.below hb⟩
  have HSL := Lib.hid hsl
  clear hsl
  have HCB := Lib.hid hCb
  have HCN := Lib.hid hCn
  have HCS := Lib.hid hCs
  have HKY := Lib.hid key2
  clear hCb hCn hCs hCk key2 hbx hb3 hCd
  have cR := fun W (h : C W) => (rright_any (.slice A n c) (.slice B k q) lv cp W (HSL.out W h).1 (HSL.out W h).2.1 (by rw [HNK.out.1, HNK.out.2]; exact HML.out) HZ.out).mono fun e w3 ⟨he, hb⟩ => (⟨he, HCN.out W w3 h hb⟩ : _ ∧ C w3)
  have cH := fun (i : Nat) (hi : i < 64) W (h : C W) => (has_any a m i hmm hi W).mono fun e w3 ⟨he, hb⟩ => (⟨he, HCN.out W w3 h hb⟩ : _ ∧ C w3)
  generalize latR (nms lv) (nms cp) = L at *
  have HR := Lib.hid hR
  have H64 := Lib.hid h64
  have HMM := Lib.hid hmm
  clear hR h64 hlat hmm
  unfold labV at cH
  refine (cR _ hC2).mono ?_
  rintro e wa ⟨rfl, hCa⟩
  clear cR hC2
  obtain ⟨a0, a1, a2, a3, aC⟩ := HKY.out _ hCa
  cases L with
  | false =>
    obtain rfl : R = false := HR.out
    go_wp2
    go_ret
    exact ⟨rfl, HCB.out _ hCa⟩
  | true =>
    by_cases i1 : a < 0
    · obtain rfl : R = false := HR.out.trans (decide_eq_false (by omega))
      go_wp2
      go_ret
      exact ⟨rfl, HCB.out _ hCa⟩
    · by_cases i2 : (n : Int) ≤ a
      · obtain rfl : R = false := HR.out.trans (decide_eq_false (by omega))
        go_wp2
        go_ret
        exact ⟨rfl, HCB.out _ hCa⟩
      · have hk64 := H64.out rfl
        have HR2 : Hid (R = decide (m < 2 ^ k)) := Lib.hid (HR.out.trans (by
          rw [Bool.true_and, Bool.eq_iff_iff, decide_eq_true_iff, decide_eq_true_iff]
          exact ⟨fun h => h.2.2, fun h => ⟨by omega, by omega, h⟩⟩))
        have hk64i : (k : Int) ≤ 64 := by omega
        go_wp2
        clear a0 a1 a2 a3 aC
        go_loopw [5] (fun i wr => ∃ j : Nat, k ≤ j ∧ j ≤ 64 ∧ i = .int .i64 j ∧ Hid (NoneT m k j) ∧ C wr) (fun i _ => 64 - (intOf i).toNat)
        case atStart => exact ⟨k, Nat.le_refl _, hk64, rfl, Lib.hid (fun j h1 h2 => absurd h2 (by omega)), hCa⟩
        case round =>
          obtain ⟨j, hkj, hj, rfl, hno, hCr⟩ := hrel
          have hj0 : (0 : Int) ≤ (j : Int) := by omega
          obtain ⟨r0, r1, r2, r3, rC⟩ := HKY.out _ hCr
          by_cases hlt : j < 64
          · have hji : (j : Int) < 64 := by omega
            have c1 := cH j hlt _ hCr
            cases hb : hasB m j with
            | true =>
              obtain rfl : R = false := HR2.out.trans (decide_eq_false (NoneT.bad hkj (hasB_true.1 hb)))
              rw [hb] at c1
              clear hb hno
              go_wp2_with fail
              refine c1.mono ?_
              rintro e wb ⟨rfl, hCb⟩
              clear c1
              go_wp2
              go_ret
              exact ⟨rfl, HCB.out _ hCb⟩
            | false =>
              have HN := Lib.hid (hno.out.next (hasB_false.1 hb))
              rw [hb] at c1
              clear hb hno
              go_wp2_with fail
              refine c1.mono ?_
              rintro e wb ⟨rfl, hCb⟩
              clear c1
              go_wp2
              go_roundw
              case rel => exact ⟨j + 1, by omega, by omega, by go_num, HN.out, hCb⟩
              case measure => simp [intOf]; omega
          · obtain rfl : j = 64 := by omega
            obtain rfl : R = true := HR2.out.trans (decide_eq_true (hno.out.done HMM.out))
            clear hno
            go_wp2
            go_ret
            exact ⟨rfl, HCB.out _ hCr⟩
set_option maxRecDepth 100000 in
set_option maxHeartbeats 8000000 in
theorem rdom_any (a b : Int) (m n : Nat) (hm : m < M64) (hn : n < M64) (w : World) :
    Calls Tryz.prog 15 #[labV a m, labV b n] w fun e w' => e = .returned (.bool (domB a m b n)) ∧ Below w.heap.size w w' := by
  unfold labV
  obtain ⟨R, hR⟩ : ∃ R, R = domB a m b n := ⟨_, rfl⟩
  rw [← hR]
  have hbx := And.intro (heap_alloc2_old w (.cells #[.int .i64 a, .int .u64 (m : Int)] 27 (0, 0)) (.cells #[.int .i64 b, .int .u64 (n : Int)] 27 (0, 0))) (heap_alloc2_new w (.cells #[.int .i64 a, .int .u64 (m : Int)] 27 (0, 0)) (.cells #[.int .i64 b, .int .u64 (n : Int)] 27 (0, 0)))
  have hb3 := below2 w (.cells #[.int .i64 a, .int .u64 (m : Int)] 27 (0, 0)) (.cells #[.int .i64 b, .int .u64 (n : Int)] 27 (0, 0))
  go_enter Tryz.func15, Tryz.ntmps15
  go_wp2_with fail
  generalize ((w.alloc (.cells #[.int .i64 a, .int .u64 (m : Int)] 27 (0, 0))).alloc (.cells #[.int .i64 b, .int .u64 (n : Int)] 27 (0, 0))) = w1 at *
  obtain ⟨C, hCd⟩ : ∃ C : World → Prop, C = fun w3 => Hid (Below w1.heap.size w1 w3) := ⟨_, rfl⟩
  have key2 : ∀ w3, C w3 → w3.cell? ⟨w.heap.size, 0, none⟩ = some (.int .i64 a) ∧ w3.cell? ⟨w.heap.size, 1, none⟩ = some (.int .u64 (m : Int)) ∧ w3.cell? ⟨w.heap.size + 1, 0, none⟩ = some (.int .i64 b) ∧ w3.cell? ⟨w.heap.size + 1, 1, none⟩ = some (.int .u64 (n : Int)) ∧ C w3 := by
    intro w3 h
    have hb := h
    rw [hCd] at hb
    obtain ⟨x0, y0⟩ := agg_keep hbx.1 hb.out
    obtain ⟨x1, y1⟩ := agg_keep hbx.2 hb.out
    exact ⟨x0, y0, x1, y1, h⟩
  have hCs : ∀ w3, C w3 → C w3.drew := fun w3 h => by rw [hCd] at h ⊢; exact Lib.hid h.out.drew
  have hC2 : C w1 := by rw [hCd]; exact Lib.hid (Below.refl _ _)
  have hCb : ∀ w3, C w3 → Below w.heap.size w w3 := fun w3 h => by rw [hCd] at h; exact hb3.trans (h.out.mono hb3.size)
  have hCn : ∀ W W', C W → Below W.heap.size W W' → C W' := fun W W' h h' => by rw [hCd] at h ⊢; exact Lib.hid (h.out.trans (h'.mono h.out.size))
  have hCk : ∀ W o, C W → C (W.alloc o) := fun W o h => hCn W _ h ((Below.refl _ W).alloc (Nat.le_refl _) o)
  have HCK := Lib.hid hCk
  have HCB := Lib.hid hCb
  have HCN := Lib.hid hCn
  have HCS := Lib.hid hCs
  have HKY := Lib.hid key2
  clear hCb hCn hCs hCk key2 hbx hb3 hCd
  have cA := fun (i : Nat) (hi : i < 64) W (h : C W) => (has_any a m i hm hi W).mono fun e w3 ⟨he, hb⟩ => (⟨he, HCN.out W w3 h hb⟩ : _ ∧ C w3)
  have cB := fun (i : Nat) (hi : i < 64) W (h : C W) => (has_any b n i hn hi W).mono fun e w3 ⟨he, hb⟩ => (⟨he, HCN.out W w3 h hb⟩ : _ ∧ C w3)
  have HR := Lib.hid hR
  have HM := Lib.hid hn
  clear hR hm hn
  unfold labV at cA cB
  go_loopw [5] (fun i wr => ∃ j : Nat, j ≤ 64 ∧ i = .int .i64 j ∧ Hid (SubT n m j) ∧ C wr) (fun i _ => 64 - (intOf i).toNat)
  case atStart => exact ⟨0, by decide, rfl, Lib.hid (fun j h1 => absurd h1 (by omega)), hC2⟩
  case round =>
    clear hC2
    obtain ⟨j, hj, rfl, hno, hCr⟩ := hrel
    have hj0 : (0 : Int) ≤ (j : Int) := by omega
    obtain ⟨r0, r1, r2, r3, rC⟩ := HKY.out _ hCr
    by_cases hlt : j < 64
    · have hji : (j : Int) < 64 := by omega
      have c1 := cB j hlt _ hCr
      cases hb : hasB n j with
      | false =>
        have HN := Lib.hid (hno.out.next (fun h => absurd h (hasB_false.1 hb)))
        rw [hb] at c1
        clear hb hno
        go_wp2_with fail
        refine c1.mono ?_
        rintro e wb ⟨rfl, hCb⟩
        clear c1
        go_wp2
        go_roundw
        case rel => exact ⟨j + 1, by omega, by go_num, HN.out, hCb⟩
        case measure => simp [intOf]; omega
      | true =>
        have hbt := hasB_true.1 hb
        rw [hb] at c1
        cases ha : hasB m j with
        | true =>
          have HN := Lib.hid (hno.out.next (fun _ => hasB_true.1 ha))
          have HA := Lib.hid ha
          clear hb hno hbt ha
          go_wp2_with fail
          refine c1.mono ?_
          rintro e wb ⟨rfl, hCb⟩
          clear c1
          have c2 := cA j hlt _ hCb
          rw [HA.out] at c2
          obtain ⟨s0, s1, s2, s3, sC⟩ := HKY.out _ hCb
          go_wp2_with fail
          refine c2.mono ?_
          rintro e wc ⟨rfl, hCc⟩
          clear c2
          go_wp2
          go_roundw
          case rel => exact ⟨j + 1, by omega, by go_num, HN.out, hCc⟩
          case measure => simp [intOf]; omega
        | false =>
          obtain rfl : R = false := HR.out.trans (domB_false.2 (fun h => SubT.bad hbt (hasB_false.1 ha) h.2))
          have HA := Lib.hid ha
          clear hb hno hbt ha
          go_wp2_with fail
          refine c1.mono ?_
          rintro e wb ⟨rfl, hCb⟩
          clear c1
          have c2 := cA j hlt _ hCb
          rw [HA.out] at c2
          obtain ⟨s0, s1, s2, s3, sC⟩ := HKY.out _ hCb
          go_wp2_with fail
          refine c2.mono ?_
          rintro e wc ⟨rfl, hCc⟩
          clear c2
          go_wp2
          go_ret
          exact ⟨rfl, HCB.out _ hCc⟩
    · obtain rfl : j = 64 := by omega
      have hs := hno.out.done HM.out
      clear hno
      by_cases hab : b ≤ a
      · obtain rfl : R = true := HR.out.trans (domB_true.2 ⟨hab, hs⟩)
        clear hs
        go_wp2
        go_ret
        exact ⟨rfl, HCB.out _ hCr⟩
      · obtain rfl : R = false := HR.out.trans (domB_false.2 (fun h => hab h.1))
        clear hs
        go_wp2
        go_ret
        exact ⟨rfl, HCB.out _ hCr⟩
end Go.Proofs.YtmcianehedhfeaaGreatDoor
