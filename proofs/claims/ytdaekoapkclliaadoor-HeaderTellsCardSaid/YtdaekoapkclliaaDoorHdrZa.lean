/- The document's fold. -/
import Derived.Test.YtdaekoapkclliaaDoorHdrZ
set_option linter.unusedVariables false
set_option linter.unusedSimpArgs false
namespace Go.Proofs.YtdaekoapkclliaaDoor
open Go.RowKit
/-- Where fold stands. -/
def WJ (b : Bs) (k f j : Nat) : Prop := (j ≤ b.length ∧ WI b k f j) ∨ (j = b.length + 1 ∧ k = (wd b).length)
theorem rfold_ret {a b : ByteArray} {x y : Nat} (h : a = b) (h2 : x = y) : Ending.returned (.tuple #[.string a, .int .i64 (x : Int)]) = .returned (.tuple #[.string b, .int .i64 (y : Int)]) := by rw [h, h2]
set_option maxRecDepth 100000 in
set_option maxHeartbeats 16000000 in
theorem rfold_any (nm bd : ByteArray) (w : World) (h1 : nm.size ≤ 100000) (h2 : bd.size ≤ 100000) :
    Calls Tryd.prog 25 #[.agg #[.string nm, .string bd]] w fun e w' => e = .returned (.tuple #[.string ⟨(ctL (foldL nm.data.toList bd.data.toList)).toArray⟩, .int .i64 ((mxL (foldL nm.data.toList bd.data.toList) : Nat) : Int)]) ∧ Below w.heap.size w w' := by
  obtain ⟨N0, hN0⟩ : ∃ N0 : ByteArray, N0 = nm ++ ⟨#[58]⟩ := ⟨_, rfl⟩
  have hNd : N0.data.toList = nm.data.toList ++ [58] := by rw [hN0]; simp
  have hNz : N0.size = nm.size + 1 := by rw [hN0, ByteArray.size_append]; rfl
  have hns : ¬ (9223372036854775807 < nm.size + 1) := by omega
  have hns2 : ¬ (9223372036854775807 < N0.size + 2) := by omega
  have hb0 : (0 : Int) ≤ (bd.size : Int) := by omega
  have hg1 := heap_alloc_new w (.cells #[.string nm, .string bd] 38 (0, 0))
  have hb1 : Below w.heap.size w (w.alloc (.cells #[.string nm, .string bd] 38 (0, 0))) := (Below.refl _ w).alloc (Nat.le_refl _) _
  have HB := Lib.hid hb1
  have HN := Lib.hid (And.intro hNd hNz)
  have hbe := empty_sz (x := bd)
  have y0 : (w.alloc (.cells #[.string nm, .string bd] 38 (0, 0))).cell? ⟨w.heap.size, 0, none⟩ = some (.string nm) := by rw [cell_of_row _ _ _ _ _ _ hg1]; rfl
  have y1 : (w.alloc (.cells #[.string nm, .string bd] 38 (0, 0))).cell? ⟨w.heap.size, 1, none⟩ = some (.string bd) := by rw [cell_of_row _ _ _ _ _ _ hg1]; rfl
  clear hb1 hNd hg1
  by_cases hz : bd.size = 0
  · rw [decide_eq_true hz] at hbe
    have hbd : bd.data.toList = [] := List.eq_nil_of_length_eq_zero (by rw [bsize]; exact hz)
    have hf := fold_empty nm.data.toList
    have hre : (⟨(ctL (foldL nm.data.toList bd.data.toList)).toArray⟩ : ByteArray) = N0 ++ ⟨#[13, 10]⟩ ∧ mxL (foldL nm.data.toList bd.data.toList) = nm.size + 1 := by
      rw [hbd]
      refine ⟨?_, by rw [← hf.2, bsize]⟩
      rw [← hf.1]
      apply eq_data.2
      simp [HN.out.1]
    rw [hre.1, hre.2]
    clear hf hre hbd hz
    go_enter Tryd.func25, Tryd.ntmps25
    go_upto_region 2 with fail
    rw [← hN0]
    clear hN0
    go_wp2
    go_ret2
    exact ⟨rfl, HB.out⟩
  · rw [decide_eq_false hz] at hbe
    have hbn : bd.data.toList ≠ [] := fun e => hz (by rw [← bsize, e]; rfl)
    have HBN := Lib.hid hbn
    clear hz hbn
    go_enter Tryd.func25, Tryd.ntmps25
    go_upto_region 2 with fail
    rw [← hN0]
    clear hN0
    generalize w.alloc (.cells #[.string nm, .string bd] 38 (0, 0)) = w1 at *
    go_wp2
    go_loopw [4, 5, 6, 7, 8] (fun o n l f i wr => ∃ (O : ByteArray) (a lg fr k j : Nat), o = .string O ∧ n = .int .i64 a ∧ l = .int .i64 lg ∧ f = .int .i64 fr ∧ i = .int .i64 j ∧ fr ≤ j ∧ j ≤ bd.size + 1 ∧ Hid (fr = 0 ↔ k = 0) ∧ O.size ≤ nm.size + 1 + 4 * fr ∧ a ≤ nm.size + 1 + 4 * fr ∧ lg ≤ nm.size + 1 + 4 * fr ∧ Hid (FoS nm.data.toList bd.data.toList k O.data.toList a lg) ∧ Hid (WJ bd.data.toList k fr j) ∧ w1 = wr) (fun _ _ _ _ i _ => bd.size + 1 - (intOf i).toNat)
    case atStart =>
      refine ⟨N0, nm.size + 1, nm.size + 1, 0, 0, 0, rfl, rfl, rfl, rfl, rfl, by omega, by omega, Lib.hid ⟨fun _ => rfl, fun _ => rfl⟩, by omega, by omega, by omega, Lib.hid ?_, Lib.hid (.inl ⟨Nat.zero_le _, WI.start _⟩), rfl⟩
      have := FoS.start nm.data.toList bd.data.toList
      rw [← HN.out.1, bsize] at this
      exact this
    case round =>
      obtain ⟨O, a, lg, fr, k, j, rfl, rfl, rfl, rfl, rfl, hfj, hj, hfk, hO, ha, hlg, hF, hW, rfl⟩ := hrel
      have hj0 : (0 : Int) ≤ (j : Int) := by omega
      have hfr0 : (0 : Int) ≤ (fr : Int) := by omega
      have ha0 : (0 : Int) ≤ (a : Int) := by omega
      have hl0 : (0 : Int) ≤ (lg : Int) := by omega
      have hfji : (fr : Int) ≤ (j : Int) := by omega
      by_cases hle : j ≤ bd.size
      · have hlei : (j : Int) ≤ (bd.size : Int) := by omega
        have hWI : WI bd.data.toList k fr j := by
          rcases hW.out with h | h
          · exact h.2
          · have := h.1; rw [bsize] at this; omega
        have hd0 : (0 : Int) ≤ ((j - fr : Nat) : Int) := by omega
        have hext := ext_list bd fr j
        have hxz : (bd.extract fr j).data.toList.length = j - fr := by rw [bsize, ByteArray.size_extract]; omega
        by_cases hmid : ∃ h : j < bd.size, bd[j] ≠ 32
        · obtain ⟨hlt, hc⟩ := hmid
          have hlti : (j : Int) < (bd.size : Int) := by omega
          obtain ⟨-, t1⟩ := u8F (n := 32) hc rfl
          have HN2 := Lib.hid (show WJ bd.data.toList k fr (j + 1) from .inl ⟨by rw [bsize]; omega, hWI.miss (by rw [bsize]; exact hlt) hc⟩)
          have HFF := Lib.hid (And.intro hF.out hfk.out)
          clear hW hWI hc hF hfk hext hxz
          go_wp2
          go_roundw
          case rel => exact ⟨O, a, lg, fr, k, j + 1, rfl, rfl, rfl, rfl, by go_num, by omega, by omega, Lib.hid HFF.out.2, hO, ha, hlg, Lib.hid HFF.out.1, HN2, by first | trivial | rfl⟩
          case measure => simp [intOf]; omega
        · have hnx : (wd bd.data.toList).getD k [] = (bd.extract fr j).data.toList ∧ WJ bd.data.toList (k + 1) (j + 1) (j + 1) := by
            by_cases hlt : j < bd.size
            · have hc : bd[j] = 32 := Classical.byContradiction fun h => hmid ⟨hlt, h⟩
              obtain ⟨z1, z2, z3⟩ := hWI.hit (by rw [bsize]; exact hlt) hc
              exact ⟨by rw [z1, hext], .inl ⟨by rw [bsize]; omega, z3⟩⟩
            · have hjb : j = bd.data.toList.length := by rw [bsize]; omega
              rw [hjb] at hWI
              obtain ⟨z1, z2⟩ := hWI.last
              refine ⟨?_, .inr ⟨by rw [bsize]; rw [bsize] at hjb; omega, z2.symm⟩⟩
              rw [z1, hext, List.take_of_length_le (by rw [List.length_drop]; omega)]
          have hguard : (¬ (j : Int) < (bd.size : Int)) ∨ (∃ h : j < bd.size, ((bd[j].toNat : Int) != 32) = false) := by
            by_cases hlt : j < bd.size
            · have hc : bd[j] = 32 := Classical.byContradiction fun h => hmid ⟨hlt, h⟩
              exact .inr ⟨hlt, (u8T (n := 32) hc rfl).2⟩
            · left; omega
          have n1 : ¬ (9223372036854775807 < O.size + 2) := by omega
          have n2 : ¬ (9223372036854775807 < O.size + 2 + 1) := by omega
          have n3 : ¬ (9223372036854775807 < O.size + 2 + 1 + (j - fr)) := by omega
          have n4 : ¬ (9223372036854775807 < O.size + 1) := by omega
          have n5 : ¬ (9223372036854775807 < O.size + 1 + (j - fr)) := by omega
          -- the new state, on a new line or on the same one
          have hwrap : 0 < fr → 0 < j - fr → 78 < a + 1 + (j - fr) → FoS nm.data.toList bd.data.toList (k + 1) (O ++ ⟨#[13, 10]⟩ ++ ⟨#[32]⟩ ++ bd.extract fr j).data.toList (1 + (j - fr)) (max lg (1 + (j - fr))) := fun q1 q2 q3 => by
            have := hF.out.wrap (fun e => by have := hfk.out.2 e; omega) hnx.1 (by rw [hxz]; exact q2) (by rw [hxz]; exact q3)
            rw [hxz] at this
            have e : (O ++ ⟨#[13, 10]⟩ ++ ⟨#[32]⟩ ++ bd.extract fr j).data.toList = O.data.toList ++ [13, 10] ++ 32 :: (bd.extract fr j).data.toList := by simp
            rw [e]; exact this
          have hsame : ¬ (0 < fr ∧ 0 < j - fr ∧ 78 < a + 1 + (j - fr)) → FoS nm.data.toList bd.data.toList (k + 1) (O ++ ⟨#[32]⟩ ++ bd.extract fr j).data.toList (a + 1 + (j - fr)) (max lg (a + 1 + (j - fr))) := fun q => by
            have := hF.out.same hnx.1 (fun ⟨z1, z2, z3⟩ => q ⟨Nat.pos_of_ne_zero (fun e => z1 (hfk.out.1 e)), by rw [hxz] at z2; exact z2, by rw [hxz] at z3; exact z3⟩)
            rw [hxz] at this
            have e : (O ++ ⟨#[32]⟩ ++ bd.extract fr j).data.toList = O.data.toList ++ 32 :: (bd.extract fr j).data.toList := by simp
            rw [e]; exact this
          have hsz1 : (O ++ ⟨#[13, 10]⟩ ++ ⟨#[32]⟩ ++ bd.extract fr j).size = O.size + 2 + 1 + (j - fr) := by
            rw [ByteArray.size_append, ByteArray.size_append, ByteArray.size_append, ByteArray.size_extract]
            show O.size + 2 + 1 + _ = _
            omega
          have hsz2 : (O ++ ⟨#[32]⟩ ++ bd.extract fr j).size = O.size + 1 + (j - fr) := by
            rw [ByteArray.size_append, ByteArray.size_append, ByteArray.size_extract]
            show O.size + 1 + _ = _
            omega
          have HNX := Lib.hid hnx.2
          have HWR := Lib.hid hwrap
          have HSA := Lib.hid hsame
          have HSZ := Lib.hid (And.intro hsz1 hsz2)
          clear hW hWI hF hfk hext hxz hmid hnx hwrap hsame hsz1 hsz2
          by_cases hc : 0 < fr ∧ 0 < j - fr ∧ 78 < a + 1 + (j - fr)
          · obtain ⟨q1, q2, q3⟩ := hc
            have HS := Lib.hid (HWR.out q1 q2 q3)
            have r1 : (0 : Int) < (fr : Int) := by omega
            have r2 : (0 : Int) < ((j - fr : Nat) : Int) := by omega
            have r3 : (78 : Int) < (a : Int) + 1 + ((j - fr : Nat) : Int) := by omega
            by_cases hL : lg < 1 + (j - fr)
            · have r4 : (lg : Int) < 1 + ((j - fr : Nat) : Int) := by omega
              rw [Nat.max_eq_right (by omega)] at HS
              rcases hguard with g1 | ⟨g0, g1⟩
              all_goals
                go_wp2
                go_roundw
                case rel => exact ⟨_, 1 + (j - fr), 1 + (j - fr), j + 1, k + 1, j + 1, rfl, by go_num, by go_num, by go_num, by go_num, by omega, by omega, Lib.hid ⟨fun h => absurd h (by omega), fun h => absurd h (by omega)⟩, by rw [HSZ.out.1]; omega, by omega, by omega, HS, HNX, by first | trivial | rfl⟩
                case measure => simp [intOf]; omega
            · have r4 : ¬ (lg : Int) < 1 + ((j - fr : Nat) : Int) := by omega
              rw [Nat.max_eq_left (by omega)] at HS
              rcases hguard with g1 | ⟨g0, g1⟩
              all_goals
                go_wp2
                go_roundw
                case rel => exact ⟨_, 1 + (j - fr), lg, j + 1, k + 1, j + 1, rfl, by go_num, by go_num, by go_num, by go_num, by omega, by omega, Lib.hid ⟨fun h => absurd h (by omega), fun h => absurd h (by omega)⟩, by rw [HSZ.out.1]; omega, by omega, by omega, HS, HNX, by first | trivial | rfl⟩
                case measure => simp [intOf]; omega
          · have HS := Lib.hid (HSA.out hc)
            rcases (show (¬ (0 : Int) < (fr : Int)) ∨ ((0 : Int) < (fr : Int) ∧ ¬ (0 : Int) < ((j - fr : Nat) : Int)) ∨ ((0 : Int) < (fr : Int) ∧ (0 : Int) < ((j - fr : Nat) : Int) ∧ ¬ (78 : Int) < (a : Int) + 1 + ((j - fr : Nat) : Int)) by omega) with r1 | ⟨r1, r2⟩ | ⟨r1, r2, r3⟩
            all_goals
              clear hc
              by_cases hL : lg < a + 1 + (j - fr)
              · have r4 : (lg : Int) < (a : Int) + 1 + ((j - fr : Nat) : Int) := by omega
                rw [Nat.max_eq_right (by omega)] at HS
                rcases hguard with g1 | ⟨g0, g1⟩
                all_goals
                  go_wp2
                  go_roundw
                  case rel => exact ⟨_, a + 1 + (j - fr), a + 1 + (j - fr), j + 1, k + 1, j + 1, rfl, by go_num, by go_num, by go_num, by go_num, by omega, by omega, Lib.hid ⟨fun h => absurd h (by omega), fun h => absurd h (by omega)⟩, by rw [HSZ.out.2]; omega, by omega, by omega, HS, HNX, by first | trivial | rfl⟩
                  case measure => simp [intOf]; omega
              · have r4 : ¬ (lg : Int) < (a : Int) + 1 + ((j - fr : Nat) : Int) := by omega
                rw [Nat.max_eq_left (by omega)] at HS
                rcases hguard with g1 | ⟨g0, g1⟩
                all_goals
                  go_wp2
                  go_roundw
                  case rel => exact ⟨_, a + 1 + (j - fr), lg, j + 1, k + 1, j + 1, rfl, by go_num, by go_num, by go_num, by go_num, by omega, by omega, Lib.hid ⟨fun h => absurd h (by omega), fun h => absurd h (by omega)⟩, by rw [HSZ.out.2]; omega, by omega, by omega, HS, HNX, by first | trivial | rfl⟩
                  case measure => simp [intOf]; omega
      · have hle2 : ¬ (j : Int) ≤ (bd.size : Int) := by omega
        have hkk : k = (wd bd.data.toList).length := by
          rcases hW.out with h | h
          · have := h.1; rw [bsize] at this; omega
          · exact h.2
        obtain ⟨z1, z2⟩ := hF.out.done hkk HBN.out
        have hre : (⟨(ctL (foldL nm.data.toList bd.data.toList)).toArray⟩ : ByteArray) = O ++ ⟨#[13, 10]⟩ := by
          rw [← z1]
          apply eq_data.2
          simp
        have HE := Lib.hid (And.intro hre z2)
        have n1 : ¬ (9223372036854775807 < O.size + 2) := by omega
        clear hW hF hkk z1 z2 hre hfk
        go_wp2
        go_ret2
        exact ⟨by rw [HE.out.1, ← HE.out.2]; rfl, HB.out⟩
end Go.Proofs.YtdaekoapkclliaaDoor
