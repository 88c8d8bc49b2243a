/- Package words: Plain. -/
import Derived.Test.YteklocejgbippaaDoorWrdA
import Derived.Test.YteklocejgbippaaDoorBasDec
set_option linter.unusedVariables false
set_option linter.unusedSimpArgs false
namespace Go.Proofs.YteklocejgbippaaDoor
open Go.RowKit
theorem contains_any (s : ByteArray) (w : World) (hm : MaxAt w) (hs : s.size ≤ 1000000) :
    Calls Tryd.prog 25 #[.string s, .string ⟨#[61, 63]⟩] w fun e w' => e = .returned (.bool (hasQ s.data.toList)) ∧ w = w' := by
  obtain ⟨m, hm⟩ := hm
  have c1 := Tryd.strings_Index s ⟨#[61, 63]⟩ m w (by omega) hm
  change Calls _ _ _ _ (fun e w' => e = .returned (.int .i64 (Lib.index s.data.toList [61, 63])) ∧ w' = w) at c1
  rw [hasQ_index]
  generalize Lib.index s.data.toList [61, 63] = x at *
  go_enter Tryd.func25, Tryd.ntmps25
  go_wp2_with fail
  refine c1.mono ?_
  rintro e w ⟨rfl, rfl⟩
  go_wp2
  go_ret
  exact ⟨rfl, rfl⟩
theorem all_drop {s : List UInt8} {k : Nat} (h : k < s.length) : (s.drop k).all okB = (okB s[k] && (s.drop (k + 1)).all okB) := by
  rw [List.drop_eq_getElem_cons h]; rfl
set_option maxRecDepth 100000 in
set_option maxHeartbeats 4000000 in
theorem plain_any (s : ByteArray) (w : World) (hm : MaxAt w) (hs : s.size ≤ 1000000) :
    Calls Tryd.prog 12 #[.string s] w fun e w' => e = .returned (.bool (plainB s.data.toList)) ∧ w = w' := by
  have hsz := bsize s
  have c1 := contains_any s w hm hs
  obtain ⟨R, hR⟩ : ∃ R, R = plainB s.data.toList := ⟨_, rfl⟩
  rw [← hR]
  have hR2 : R = (s.data.toList.all okB && !hasQ s.data.toList) := hR
  obtain ⟨Q, hQ⟩ : ∃ Q, Q = hasQ s.data.toList := ⟨_, rfl⟩
  rw [← hQ] at hR2 c1
  have HR := Lib.hid hR2
  have HQE := Lib.hid hQ
  clear hR hR2 hQ hm
  have hsi : (s.size : Int) ≤ 1000000 := by omega
  go_enter Tryd.func12, Tryd.ntmps12
  go_wp2
  go_loop [6] (fun i => ∃ k : Nat, k ≤ s.size ∧ i = .int .i64 k ∧ ∀ j (h : j < s.data.toList.length), j < k → okB (s.data.toList[j]'h) = true) (fun i => s.size - (intOf i).toNat)
  case atStart => exact ⟨0, Nat.zero_le _, rfl, fun j _ h => absurd h (Nat.not_lt_zero _)⟩
  case round =>
    obtain ⟨k, hk, rfl, hall⟩ := hrel
    have hk0 : (0 : Int) ≤ (k : Int) := by omega
    have HA := Lib.hid hall
    clear hall
    by_cases hkb : k < s.size
    · have hki : (k : Int) < s.size := by omega
      have hkl : k < s.data.toList.length := by omega
      obtain ⟨c, hc⟩ : ∃ c, c = s.data.toList[k]'hkl := ⟨_, rfl⟩
      have hbt : ∀ h, (s[k]'h) = c := fun h => by rw [hc]; simp; rfl
      have hcl : (c.toNat : Int) < 256 := by have := c.toNat_lt; omega
      have HC := Lib.hid hc
      clear hc
      rcases (show (c.toNat : Int) < 32 ∨ ((32 : Int) ≤ c.toNat ∧ (126 : Int) < c.toNat) ∨ ((32 : Int) ≤ c.toNat ∧ (c.toNat : Int) ≤ 126) by omega) with z1 | ⟨z1, z2⟩ | ⟨z1, z2⟩
      · have hb : R = false := by
          have hp := plain_bad (s := s.data.toList) hkl (by rw [← HC.out]; unfold okB; rw [decide_eq_false_iff_not]; omega)
          rw [HR.out]; unfold plainB at hp; rw [← HQE.out] at hp; exact hp
        subst hb
        go_wp2
        go_ret
        exact ⟨rfl, rfl⟩
      · have hb : R = false := by
          have hp := plain_bad (s := s.data.toList) hkl (by rw [← HC.out]; unfold okB; rw [decide_eq_false_iff_not]; omega)
          rw [HR.out]; unfold plainB at hp; rw [← HQE.out] at hp; exact hp
        subst hb
        go_wp2
        go_ret
        exact ⟨rfl, rfl⟩
      · go_wp2
        go_round
        case rel =>
          refine ⟨k + 1, by omega, by go_num, fun j h hj => ?_⟩
          rcases Nat.lt_or_ge j k with x | x
          · exact HA.out j h x
          · obtain rfl : j = k := by omega
            rw [← HC.out]; unfold okB; rw [decide_eq_true_iff]; omega
        case measure => simp [intOf]; omega
    · have hki : ¬ (k : Int) < s.size := by omega
      have hb : R = !Q := by
        rw [HR.out, List.all_eq_true.2 fun x hx => ?_, Bool.true_and]
        obtain ⟨j, hj, rfl⟩ := List.getElem_of_mem hx
        exact HA.out j hj (by omega)
      subst hb
      clear HA
      go_wp2_with fail
      refine c1.mono ?_
      rintro e w ⟨rfl, rfl⟩
      go_wp2
      go_ret
      exact ⟨rfl, rfl⟩
end Go.Proofs.YteklocejgbippaaDoor
