/- The document's quoted: Sign, digit, value. -/
import Derived.Test.YtjkonhpmfolcoaaDoorQuotC
set_option linter.unusedVariables false
set_option linter.unusedSimpArgs false
namespace Go.Proofs.YtjkonhpmfolcoaaDoor
open Go.RowKit
/-- What a digit says; 16: it is none. -/
def valL (c : UInt8) : Nat := if 48 ≤ c.toNat ∧ c.toNat ≤ 57 then c.toNat - 48 else if 65 ≤ c.toNat ∧ c.toNat ≤ 70 then c.toNat - 55 else 16
theorem valL_le (c : UInt8) : valL c ≤ 16 := by unfold valL; split; omega; split <;> omega
theorem valL_hexd : ∀ v : Fin 16, valL (hexd v.val) = v.val := by decide +kernel
theorem hexd_valL : ∀ n : Fin 256, valL (UInt8.ofNat n.val) < 16 → hexd (valL (UInt8.ofNat n.val)) = UInt8.ofNat n.val := by decide +kernel
theorem hexd_val {c : UInt8} (h : valL c < 16) : hexd (valL c) = c := by
  have e : UInt8.ofNat c.toNat = c := by simp
  have := hexd_valL ⟨c.toNat, by have := c.toNat_lt; omega⟩
  simp only [e] at this
  exact this h
theorem val_hexd {v : Nat} (h : v < 16) : valL (hexd v) = v := valL_hexd ⟨v, h⟩
theorem index_val : ∀ n : Fin 256, Lib.indexByte [48, 49, 50, 51, 52, 53, 54, 55, 56, 57, 65, 66, 67, 68, 69, 70] (UInt8.ofNat n.val) = if valL (UInt8.ofNat n.val) < 16 then (valL (UInt8.ofNat n.val) : Int) else -1 := by decide +kernel
theorem index_of (c : UInt8) : Lib.indexByte [48, 49, 50, 51, 52, 53, 54, 55, 56, 57, 65, 66, 67, 68, 69, 70] c = if valL c < 16 then (valL c : Int) else -1 := by
  have e : UInt8.ofNat c.toNat = c := by simp
  have := index_val ⟨c.toNat, by have := c.toNat_lt; omega⟩
  simp only [e] at this
  exact this
theorem digit_any (v : Nat) (hv : v < 16) (w : World) : Calls Tryd.prog 24 #[.int .u8 v] w fun e w' => e = .returned (.int .u8 (hexd v).toNat) ∧ w = w' := by
  have h := hexd_toNat hv
  by_cases h10 : v < 10
  · rw [if_pos h10] at h
    have hi : (v : Int) < 10 := by omega
    have h0 : (0 : Int) ≤ v := by omega
    rw [h]
    clear h
    go_enter Tryd.func24, Tryd.ntmps24
    go_wp2
    go_ret
    exact ⟨ret_int (by omega), rfl⟩
  · rw [if_neg h10] at h
    have hi : (10 : Int) ≤ v := by omega
    have hi2 : (v : Int) < 16 := by omega
    rw [h]
    clear h
    go_enter Tryd.func24, Tryd.ntmps24
    go_wp2
    go_ret
    exact ⟨ret_int (by omega), rfl⟩
set_option maxRecDepth 100000 in
theorem value_any (c : UInt8) (w : World) : Calls Tryd.prog 18 #[.int .u8 c.toNat] w fun e w' => e = .returned (.int .i64 (valL c)) ∧ w = w' := by
  go_enter Tryd.func18, Tryd.ntmps18
  go_wp2
  go_loop [3] (fun i => ∃ k : Nat, k ≤ 16 ∧ i = .int .i64 k ∧ ∀ j, j < k → hexd j ≠ c) (fun i => 16 - (intOf i).toNat)
  case atStart => exact ⟨0, by omega, rfl, fun j h => absurd h (by omega)⟩
  case round =>
    obtain ⟨k, hk, rfl, hno⟩ := hrel
    have HNO := Lib.hid hno
    clear hno
    by_cases hlt : k < 16
    · have c1 := digit_any k hlt w
      have h0 : (0 : Int) ≤ k := by omega
      have h1 : (k : Int) < 16 := by omega
      by_cases hf : hexd k = c
      · have hv : valL c = k := by rw [← hf]; exact val_hexd hlt
        have HV := Lib.hid hv
        have ht : (((hexd k).toNat : Int) == (c.toNat : Int)) = true := by rw [hf]; simp
        clear hv hf
        go_wp2_with (go_at_call 24; refine c1.mono ?_; rintro e w' ⟨rfl, rfl⟩)
        go_ret
        exact ⟨ret_int (by rw [HV.out]), rfl⟩
      · have HF := Lib.hid hf
        have ht : (((hexd k).toNat : Int) == (c.toNat : Int)) = false := by
          rw [Bool.eq_false_iff]; intro e
          have e2 := beq_iff_eq.1 e
          exact hf (UInt8.toNat_inj.1 (by omega))
        clear hf
        go_wp2_with (go_at_call 24; refine c1.mono ?_; rintro e w' ⟨rfl, rfl⟩)
        go_round
        case rel => exact ⟨k + 1, by omega, by go_num, fun j hj => by
          rcases (show j < k ∨ j = k by omega) with h | rfl
          · exact HNO.out j h
          · exact HF.out⟩
        case measure => simp [intOf]; omega
    · obtain rfl : k = 16 := by omega
      have hv : valL c = 16 := by
        rcases Nat.lt_or_ge (valL c) 16 with h | h
        · exact absurd (hexd_val h) (HNO.out _ h)
        · have := valL_le c; omega
      have HV := Lib.hid hv
      clear hv
      go_wp2
      go_ret
      exact ⟨ret_int (by rw [HV.out]; rfl), rfl⟩
set_option maxRecDepth 100000 in
theorem refsign_any (c : UInt8) (last : Bool) (w : World) :
    Calls Tryd.prog 15 #[.int .u8 c.toNat, .bool last] w fun e w' => e = .returned (.string ⟨(signL c last).toArray⟩) ∧ Below w.heap.size w w' := by
  unfold signL
  cases h : asIs c last
  · have hc := asIs_no h
    rw [if_neg (by decide)]
    obtain ⟨z, hz⟩ : ∃ z : Int, z = c.toNat := ⟨_, rfl⟩
    have hz1 : 0 ≤ z := by omega
    have hz2 : z ≤ 255 := by have := c.toNat_lt; omega
    have d1 := fun W : World => digit_any (c.toNat / 16) (by have := c.toNat_lt; omega) W
    have d2 := fun W : World => digit_any (c.toNat % 16) (by omega) W
    rw [← hz]
    have e1 : ((c.toNat / 16 : Nat) : Int) = z / 16 := by omega
    have e2 : ((c.toNat % 16 : Nat) : Int) = z % 16 := by omega
    rw [e1] at d1
    rw [e2] at d2
    generalize hexd (c.toNat / 16) = x at *
    generalize hexd (c.toNat % 16) = y at *
    have hcv := conv3 w 61 x y 61 _ _ rfl rfl rfl
    rcases (show z < 9 ∨ (9 < z ∧ z < 32) ∨ ((z != 61) = false ∧ 32 < z ∧ z < 127) ∨ 127 ≤ z ∨ (last = true ∧ (z == 32) = true ∧ z ≤ 32) ∨ (last = true ∧ (z == 32) = false ∧ (z == 9) = true ∧ z ≤ 32) by
        rcases hc with h | h | h | h | ⟨h, h'⟩ | ⟨h, h'⟩
        · exact .inl (by omega)
        · exact .inr (.inl (by omega))
        · exact .inr (.inr (.inl ⟨by simp; omega, by omega, by omega⟩))
        · exact .inr (.inr (.inr (.inl (by omega))))
        · exact .inr (.inr (.inr (.inr (.inl ⟨h, by simp; omega, by omega⟩))))
        · exact .inr (.inr (.inr (.inr (.inr ⟨h, by simp; omega, by simp; omega, by omega⟩))))) with h1 | ⟨h1, h2⟩ | ⟨h1, h2, h3⟩ | h1 | ⟨rfl, h2, h3⟩ | ⟨rfl, h2, h3, h4⟩
    all_goals
      clear hz hc e1 e2 h
      go_enter Tryd.func15, Tryd.ntmps15
      go_wp2_with fail
      refine (d1 w).mono ?_
      rintro e w1 ⟨rfl, rfl⟩
      go_wp2_with fail
      refine (d2 w).mono ?_
      rintro e w1 ⟨rfl, rfl⟩
      clear d1 d2
      go_wp2
      go_ret
      exact ⟨rfl, ((Below.refl _ _).alloc (Nat.le_refl _) _)⟩
  · rw [if_pos rfl]
    have hc := asIs_yes h
    have hcv := conv1 w c c.toNat rfl
    clear h
    obtain ⟨z, hz⟩ : ∃ z : Int, z = c.toNat := ⟨_, rfl⟩
    rw [← hz] at hcv ⊢
    rcases (show (33 ≤ z ∧ z < 61) ∨ (61 < z ∧ z ≤ 126) ∨ (last = false ∧ z = 32) ∨ (last = false ∧ z = 9) by rcases hc with h | h | ⟨h, h'⟩ | ⟨h, h'⟩; exact .inl (by omega); exact .inr (.inl (by omega)); exact .inr (.inr (.inl ⟨h, by omega⟩)); exact .inr (.inr (.inr ⟨h, by omega⟩))) with ⟨h1, h2⟩ | ⟨h1, h2⟩ | ⟨rfl, rfl⟩ | ⟨rfl, rfl⟩
    all_goals
      clear hz hc
      go_enter Tryd.func15, Tryd.ntmps15
      go_wp2
      go_ret
      exact ⟨rfl, (Below.refl _ _).alloc (Nat.le_refl _) _⟩
end Go.Proofs.YtjkonhpmfolcoaaDoor
