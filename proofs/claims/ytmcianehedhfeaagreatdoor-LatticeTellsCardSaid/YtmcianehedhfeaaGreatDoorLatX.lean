/- The lattice laws' folder: Few. -/
import Derived.Test.YtmcianehedhfeaaGreatDoorLatP0
set_option linter.unusedVariables false
set_option linter.unusedSimpArgs false
namespace Go.Proofs.YtmcianehedhfeaaGreatDoor
open Go.RowKit
/-- What Few tells is little: if it says so, the lattice has few names. -/
def FewR (n k : Nat) (e : Ending) : Prop := ∃ f, e = .returned (.bool f) ∧ (f = true → n ≤ 40 ∧ k ≤ 100)
set_option maxRecDepth 100000 in
set_option maxHeartbeats 8000000 in
theorem few_any (v1 v2 : Value) (lv cp : List ByteArray) (w : World) (h1 : SlIn w v1 lv) (h2 : SlIn w v2 cp) (hml : lv.length ≤ 9223372036854775807 ∧ cp.length ≤ 9223372036854775807) :
    Calls Tryz.prog 5 #[.agg #[v1, v2]] w fun e w' => FewR lv.length cp.length e ∧ Below w.heap.size w w' := by
  obtain ⟨A, c, rfl, hA, hA0⟩ := h1
  obtain ⟨B, q, rfl, hB, hB0⟩ := h2
  generalize lv.length = n at *
  generalize cp.length = k at *
  have hb1 : Below w.heap.size w (w.alloc (.cells #[.slice A n c, .slice B k q] 24 (0, 0))) := (Below.refl _ w).alloc (Nat.le_refl _) _
  have hg1 := heap_alloc_new w (.cells #[.slice A n c, .slice B k q] 24 (0, 0))
  have hn0 : (0 : Int) ≤ (n : Int) := by omega
  have hk0 : (0 : Int) ≤ (k : Int) := by omega
  have HA := Lib.hid (hA.below hb1)
  have HB := Lib.hid (hB.below hb1)
  have HW := Lib.hid hb1
  have hn1 := hml.1
  have hk1 := hml.2
  clear hA hB hA0 hB0 hml hb1
  by_cases i1 : (40 : Int) < (n : Int)
  · clear hg1
    go_enter Tryz.func5, Tryz.ntmps5
    go_wp2
    go_ret
    exact ⟨⟨false, rfl, fun h => by cases h⟩, HW.out⟩
  · by_cases i2 : (100 : Int) < (k : Int)
    · clear hg1
      go_enter Tryz.func5, Tryz.ntmps5
      go_wp2
      go_ret
      exact ⟨⟨false, rfl, fun h => by cases h⟩, HW.out⟩
    · have hn40 : (n : Int) ≤ 40 := by omega
      have hk100 : (k : Int) ≤ 100 := by omega
      clear i1 i2 hn1 hk1
      have HL := Lib.hid (And.intro (show n ≤ 40 by omega) (show k ≤ 100 by omega))
      go_enter Tryz.func5, Tryz.ntmps5
      go_wp2
      generalize w.alloc (.cells #[.slice A n c, .slice B k q] 24 (0, 0)) = w1 at *
      have y0 : w1.cell? ⟨w.heap.size, 0, none⟩ = some (.slice A n c) := by rw [cell_of_row _ _ _ _ _ _ hg1]; rfl
      have y1 : w1.cell? ⟨w.heap.size, 1, none⟩ = some (.slice B k q) := by rw [cell_of_row _ _ _ _ _ _ hg1]; rfl
      clear hg1
      go_loopw [3, 4] (fun s i wr => ∃ (j : Nat) (x : Int), j ≤ n ∧ i = .int .i64 j ∧ s = .int .i64 x ∧ w1 = wr) (fun _ i _ => n - (intOf i).toNat)
      case atStart => exact ⟨0, 0, Nat.zero_le _, rfl, rfl, rfl⟩
      case round =>
        obtain ⟨j, x, hj, rfl, rfl, rfl⟩ := hrel
        have hj0 : (0 : Int) ≤ (j : Int) := by omega
        have second : ∀ x : Int, True := fun _ => trivial
        clear second
        by_cases hc : j < n ∧ x < 5000
        · obtain ⟨hjn, hx⟩ := hc
          have hji : (j : Int) < (n : Int) := by omega
          obtain ⟨b, off, rfl, hcl⟩ := HA.out.cells (by omega)
          have hcj := hcl j hjn
          generalize str lv j = s at *
          clear hcl
          go_wp2
          go_roundw
          case rel => exact ⟨j + 1, _, by omega, by go_num, rfl, trivial⟩
          case measure => simp [intOf]; omega
        · have hex : (¬ (j : Int) < (n : Int)) ∨ ((j : Int) < (n : Int) ∧ ¬ x < 5000) := by omega
          clear hc
          rcases hex with he | ⟨he, hx⟩
          all_goals
            go_wp2
            go_loopw [3, 5] (fun s i wr => ∃ (j : Nat) (x : Int), j ≤ k ∧ i = .int .i64 j ∧ s = .int .i64 x ∧ w1 = wr) (fun _ i _ => k - (intOf i).toNat)
            case atStart => exact ⟨0, _, Nat.zero_le _, rfl, rfl, rfl⟩
            case round =>
              obtain ⟨i, z, hi, rfl, rfl, rfl⟩ := hrel
              have hi0 : (0 : Int) ≤ (i : Int) := by omega
              by_cases hc : i < k ∧ z < 5000
              · obtain ⟨hik, hz⟩ := hc
                have hii : (i : Int) < (k : Int) := by omega
                obtain ⟨b, off, rfl, hcl⟩ := HB.out.cells (by omega)
                have hcj := hcl i hik
                generalize str cp i = s at *
                clear hcl
                go_wp2
                go_roundw
                case rel => exact ⟨i + 1, _, by omega, by go_num, rfl, trivial⟩
                case measure => simp [intOf]; omega
              · have hex : (¬ (i : Int) < (k : Int)) ∨ ((i : Int) < (k : Int) ∧ ¬ z < 5000) := by omega
                clear hc
                rcases hex with he | ⟨he, hz⟩
                all_goals
                  go_wp2
                  go_ret
                  exact ⟨⟨_, rfl, fun _ => HL.out⟩, HW.out⟩
end Go.Proofs.YtmcianehedhfeaaGreatDoor
