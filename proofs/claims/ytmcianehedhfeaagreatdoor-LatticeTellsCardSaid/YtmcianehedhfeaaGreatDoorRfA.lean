/- The document's lattice: name, Has, bit. -/
import Derived.Test.YtmcianehedhfeaaGreatDoorLatRp
set_option linter.unusedVariables false
set_option linter.unusedSimpArgs false
namespace Go.Proofs.YtmcianehedhfeaaGreatDoor
open Go.RowKit
theorem byte_nm {z : Int} {c : UInt8} (hz : z = (c.toNat : Int)) : isNm c = decide ((65 ≤ z ∧ z ≤ 90) ∨ (48 ≤ z ∧ z ≤ 57) ∨ z = 45) := by
  subst hz; unfold isNm
  rw [Bool.eq_iff_iff, decide_eq_true_iff, decide_eq_true_iff]; omega
/-- The ways of the document's test of a byte. -/
theorem nm_ways (z : Int) : (65 ≤ z ∧ z ≤ 90) ∨ (65 ≤ z ∧ 48 ≤ z ∧ ¬ z ≤ 90 ∧ ¬ z ≤ 57 ∧ (z == 45) = false) ∨ (¬ 65 ≤ z ∧ 48 ≤ z ∧ z ≤ 57) ∨ (¬ 65 ≤ z ∧ 48 ≤ z ∧ ¬ z ≤ 57 ∧ (z == 45) = false) ∨
    (¬ 65 ≤ z ∧ ¬ 48 ≤ z ∧ (z == 45) = true) ∨ (¬ 65 ≤ z ∧ ¬ 48 ≤ z ∧ (z == 45) = false) := by
  by_cases h : z = 45
  · subst h; right; right; right; right; left; decide
  · have e : (z == 45) = false := beq_false_of_ne h
    rw [e]; simp; omega
set_option maxRecDepth 100000 in
set_option maxHeartbeats 2000000 in
theorem name_any (s : ByteArray) (w : World) (hs : s.size ≤ 9223372036854775807) :
    Calls Tryz.prog 29 #[.string s] w fun e w' => e = .returned (.bool (nmOk s.data.toList)) ∧ w = w' := by
  obtain ⟨R, hR⟩ : ∃ R, R = nmOk s.data.toList := ⟨_, rfl⟩
  rw [← hR]
  have HR := Lib.hid hR
  have HSZ := Lib.hid (bsize s)
  clear hR
  have hs0 : (0 : Int) ≤ (s.size : Int) := by omega
  go_enter Tryz.func29, Tryz.ntmps29
  go_wp2
  go_loop [3] (fun i => ∃ k : Nat, k ≤ s.size ∧ i = .int .i64 k ∧ (s.data.toList.take k).all isNm = true) (fun i => s.size - (intOf i).toNat)
  case atStart => exact ⟨0, Nat.zero_le _, rfl, rfl⟩
  case round =>
    obtain ⟨k, hk, rfl, hall⟩ := hrel
    have HA := Lib.hid hall
    clear hall
    have hk0 : (0 : Int) ≤ (k : Int) := by omega
    by_cases hlt : k < s.size
    · have hki : (k : Int) < (s.size : Int) := by omega
      obtain ⟨c, hc⟩ : ∃ c, c = s[k]'hlt := ⟨_, rfl⟩
      have hl : k < s.data.toList.length := by rw [HSZ.out]; exact hlt
      have hge : s.data.toList[k] = c := by rw [hc]; rfl
      have hnx : isNm c = true → (s.data.toList.take (k + 1)).all isNm = true := fun h => by
        rw [List.take_succ_eq_append_getElem hl, List.all_append, HA.out, hge]; simp [h]
      have hbad : isNm c = false → R = false := fun h => by
        rw [HR.out]; unfold nmOk
        rw [show s.data.toList.all isNm = false from by rw [List.all_eq_false]; exact ⟨c, hge ▸ List.getElem_mem hl, by rw [h]; simp⟩, Bool.and_false]
      obtain ⟨z, hz⟩ : ∃ z : Int, z = (c.toNat : Int) := ⟨_, rfl⟩
      have hzn := byte_nm hz
      have hix : ((s[k]'hlt).toNat : Int) = z := by rw [hz, hc]
      have HX := Lib.hid (And.intro hnx (And.intro hbad hzn))
      clear hnx hbad hzn hz hge hl hc
      rcases nm_ways z with ⟨h1, h2⟩ | ⟨h1, h2, h3, h4, h5⟩ | ⟨h1, h2, h3⟩ | ⟨h1, h2, h3, h4⟩ | ⟨h1, h2, h3⟩ | ⟨h1, h2, h3⟩
      · have H := Lib.hid (HX.out.1 (HX.out.2.2.trans (decide_eq_true (by omega))))
        go_wp2
        go_round
        case rel => exact ⟨k + 1, by omega, by go_num, H.out⟩
        case measure => simp [intOf]; omega
      · obtain rfl := HX.out.2.1 (HX.out.2.2.trans (decide_eq_false (by have := beq_eq_false_iff_ne.1 h5; omega)))
        go_wp2
        go_ret
        exact ⟨rfl, rfl⟩
      · have H := Lib.hid (HX.out.1 (HX.out.2.2.trans (decide_eq_true (by omega))))
        go_wp2
        go_round
        case rel => exact ⟨k + 1, by omega, by go_num, H.out⟩
        case measure => simp [intOf]; omega
      · obtain rfl := HX.out.2.1 (HX.out.2.2.trans (decide_eq_false (by have := beq_eq_false_iff_ne.1 h4; omega)))
        go_wp2
        go_ret
        exact ⟨rfl, rfl⟩
      · have H := Lib.hid (HX.out.1 (HX.out.2.2.trans (decide_eq_true (by have := beq_iff_eq.1 h3; omega))))
        go_wp2
        go_round
        case rel => exact ⟨k + 1, by omega, by go_num, H.out⟩
        case measure => simp [intOf]; omega
      · obtain rfl := HX.out.2.1 (HX.out.2.2.trans (decide_eq_false (by have := beq_eq_false_iff_ne.1 h3; omega)))
        go_wp2
        go_ret
        exact ⟨rfl, rfl⟩
    · obtain rfl : k = s.size := by omega
      have hAll : s.data.toList.all isNm = true := by have := HA.out; rwa [List.take_of_length_le (by rw [HSZ.out]; exact Nat.le_refl _)] at this
      have hR2 : R = decide (1 ≤ s.size ∧ s.size ≤ 16) := by rw [HR.out]; unfold nmOk; rw [hAll, Bool.and_true, HSZ.out]
      have HR2 := Lib.hid hR2
      clear hR2 hAll hlt
      by_cases h1 : (1 : Int) ≤ (s.size : Int)
      · by_cases h2 : (s.size : Int) ≤ 16
        · obtain rfl : R = true := HR2.out.trans (decide_eq_true (by omega))
          go_wp2
          go_ret
          exact ⟨rfl, rfl⟩
        · obtain rfl : R = false := HR2.out.trans (decide_eq_false (by omega))
          go_wp2
          go_ret
          exact ⟨rfl, rfl⟩
      · obtain rfl : R = false := HR2.out.trans (decide_eq_false (by omega))
        go_wp2
        go_ret
        exact ⟨rfl, rfl⟩
def hasB (m i : Nat) : Bool := decide (m / 2 ^ i % 2 = 1)
theorem hasB_int (m i : Nat) : (((m : Int) / 2 ^ i) % 2 == 1) = hasB m i := by
  unfold hasB
  rw [show ((m : Int) / 2 ^ i) % 2 = ((m / 2 ^ i % 2 : Nat) : Int) by simp, Bool.eq_iff_iff, beq_iff_eq, decide_eq_true_iff]; omega
theorem shr_nonneg (m i : Nat) (hm : m < M64) : (0 : Int) ≤ (m : Int) / 2 ^ i ∧ (m : Int) / 2 ^ i ≤ 18446744073709551615 := by
  have h1 : (m : Int) / 2 ^ i = ((m / 2 ^ i : Nat) : Int) := by simp
  have h2 : m / 2 ^ i ≤ m := Nat.div_le_self _ _
  have h3 : m < 18446744073709551616 := hm
  rw [h1]
  generalize m / 2 ^ i = z at *
  omega
theorem rpow_in {i : Nat} (hi : i < 64) : 2 ^ i < 18446744073709551616 := Nat.lt_of_le_of_lt (Nat.pow_le_pow_right (by decide) (show i ≤ 63 by omega)) (by decide)
theorem rpow_wrap {i : Nat} (hi : i < 64) : IntKind.u64.wrap (1 * 2 ^ i) = ((2 ^ i : Nat) : Int) := by
  have h := rpow_in hi
  rw [Int.one_mul, show ((2 : Int) ^ i) = ((2 ^ i : Nat) : Int) by simp]
  generalize 2 ^ i = z at *
  exact IntWalk.u64_in _ (by omega)
set_option maxRecDepth 100000 in
theorem has_any (a : Int) (m i : Nat) (hm : m < M64) (hi : i < 64) (w : World) :
    Calls Tryz.prog 23 #[labV a m, .int .i64 (i : Int)] w fun e w' => e = .returned (.bool (hasB m i)) ∧ Below w.heap.size w w' := by
  have h1 : (0 : Int) ≤ (i : Int) := by omega
  have h2 : (i : Int) ≤ 63 := by omega
  obtain ⟨q1, q2⟩ := shr_nonneg m i hm
  have hB := hasB_int m i
  unfold labV
  go_enter Tryz.func23, Tryz.ntmps23
  go_wp2
  go_ret
  exact ⟨by first | rfl | rw [← hB], (Below.refl _ w).alloc (Nat.le_refl _) _⟩
set_option maxRecDepth 100000 in
theorem bit_any (i : Nat) (hi : i < 64) (w : World) :
    Calls Tryz.prog 25 #[.int .i64 (i : Int)] w fun e w' => e = .returned (.int .u64 ((2 ^ i : Nat) : Int)) ∧ w = w' := by
  have h1 : (0 : Int) ≤ (i : Int) := by omega
  have h2 : (i : Int) ≤ 63 := by omega
  have h4 := rpow_wrap hi
  have H4 := Lib.hid h4
  clear h4
  go_enter Tryz.func25, Tryz.ntmps25
  go_wp2
  go_ret
  refine ⟨?_, rfl⟩
  rw [← H4.out]
  first | rfl | simp
end Go.Proofs.YtmcianehedhfeaaGreatDoor
