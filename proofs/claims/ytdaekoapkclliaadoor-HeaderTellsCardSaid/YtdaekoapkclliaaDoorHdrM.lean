/- The header laws' folder: Few. -/
import Derived.Test.YtdaekoapkclliaaDoorHdrL
set_option linter.unusedVariables false
set_option linter.unusedSimpArgs false
namespace Go.Proofs.YtdaekoapkclliaaDoor
open Go.RowKit
def sumZ : List Fld → Nat
  | [] => 0
  | f :: r => 1 + f.1.size + f.2.size + sumZ r
theorem sumZ_app (a b : List Fld) : sumZ (a ++ b) = sumZ a + sumZ b := by induction a with | nil => simp [sumZ] | cons x y ih => simp [sumZ, ih]; omega
theorem sumZ_succ {xs : List Fld} {k : Nat} (h : k < xs.length) : sumZ (xs.take (k + 1)) = sumZ (xs.take k) + (1 + (fl xs k).1.size + (fl xs k).2.size) := by
  rw [List.take_succ_eq_append_getElem h, sumZ_app, fl_get h]; simp [sumZ]
theorem sumZ_mem : ∀ {xs : List Fld} {f : Fld}, f ∈ xs → f.1.size + f.2.size < sumZ xs
  | g :: r, f, h => by
    rcases List.mem_cons.1 h with rfl | h
    · simp [sumZ]; omega
    · have := sumZ_mem h; simp [sumZ]; omega
def FewX (xs : List Fld) : Prop := sumZ xs ≤ 8000 ∧ xs.length ≤ 100
theorem FewX.small {xs : List Fld} (h : FewX xs) : Small xs := fun f hf => by
  have := sumZ_mem hf
  have := h.1
  omega
def FewP (xs : List Fld) (w : World) (e : Ending) (w' : World) : Prop := (∃ f, e = .returned (.bool f) ∧ (f = true → FewX xs)) ∧ Below w.heap.size w w'
set_option maxRecDepth 100000 in
set_option maxHeartbeats 8000000 in
theorem few_any (A : Option Addr) (n c : Nat) (xs : List Fld) (w : World) (h : FldsIn w A n xs) :
    Calls Tryd.prog 10 #[.slice A n c] w (FewP xs w) := by
  have hn0 : (0 : Int) ≤ (n : Int) := by omega
  have hnm := h.max
  have H := Lib.hid h
  clear h
  go_enter Tryd.func10, Tryd.ntmps10
  go_wp2
  go_loopw [3, 4] (fun s i wr => ∃ (j x : Nat), j ≤ n ∧ j ≤ 100 ∧ i = .int .i64 j ∧ s = .int .i64 x ∧ x ≤ 8000 ∧ Hid (sumZ (xs.take j) = x) ∧ Below w.heap.size w wr) (fun _ i _ => n - (intOf i).toNat)
  case atStart => exact ⟨0, 0, Nat.zero_le _, by omega, rfl, rfl, by omega, Lib.hid rfl, Below.refl _ _⟩
  case round =>
    obtain ⟨j, x, hj, hj1, rfl, rfl, hx, hsu, hbl⟩ := hrel
    have hj0 : (0 : Int) ≤ (j : Int) := by omega
    have hx0 : (0 : Int) ≤ (x : Int) := by omega
    by_cases hlt : j < n
    · have hji : (j : Int) < (n : Int) := by omega
      obtain ⟨b, off, rfl, hc⟩ := (H.out.below hbl).cells (by omega)
      obtain ⟨e1, e2⟩ := hc j hlt
      have hjl : j < xs.length := by rw [H.out.len]; exact hlt
      have hss := sumZ_succ hjl
      rw [hsu.out] at hss
      generalize fl xs j = f at *
      obtain ⟨fn, fb⟩ := f
      dsimp only at e1 e2 hss
      have hf0 : (0 : Int) ≤ (fn.size : Int) := by omega
      have hf1 : (0 : Int) ≤ (fb.size : Int) := by omega
      have HB := Lib.hid (And.intro hbl hss)
      clear hc hsu hbl hss hjl
      have hA : 0 ≤ min (fn.size : Int) 10000 ∧ min (fn.size : Int) 10000 ≤ 10000 ∧ (min (fn.size : Int) 10000 < 10000 → min (fn.size : Int) 10000 = fn.size) := by omega
      have hB : 0 ≤ min (fb.size : Int) 10000 ∧ min (fb.size : Int) 10000 ≤ 10000 ∧ (min (fb.size : Int) 10000 < 10000 → min (fb.size : Int) 10000 = fb.size) := by omega
      go_wp2_with fail
      go_region
      generalize min (fn.size : Int) 10000 = a at *
      generalize min (fb.size : Int) 10000 = b at *
      obtain ⟨a0, a1, a2⟩ := hA
      obtain ⟨b0, b1, b2⟩ := hB
      have HAB := Lib.hid (And.intro a2 b2)
      clear a2 b2
      by_cases h1 : (100 : Int) ≤ (j : Int)
      · go_wp2
        go_ret
        exact ⟨⟨false, rfl, fun h => by cases h⟩, by first | exact HB.out.1 | exact Below.drewN' HB.out.1 _ | exact HB.out.1.drew⟩
      · by_cases h2 : (8000 : Int) < (x : Int) + 1 + a + b
        · go_wp2
          go_ret
          exact ⟨⟨false, rfl, fun h => by cases h⟩, by first | exact HB.out.1 | exact Below.drewN' HB.out.1 _ | exact HB.out.1.drew⟩
        · go_wp2
          have q1 := HAB.out.1 (by omega)
          have q2 := HAB.out.2 (by omega)
          go_roundw
          case rel => exact ⟨j + 1, x + (1 + fn.size + fb.size), by omega, by omega, by go_num, by rw [q1, q2]; go_num, by omega, Lib.hid HB.out.2, by first | exact HB.out.1 | exact Below.drewN' HB.out.1 _ | exact HB.out.1.drew⟩
          case measure => simp [intOf]; omega
    · obtain rfl : j = n := by omega
      have hjE : ¬ (j : Int) < (j : Int) := by omega
      have HF := Lib.hid (And.intro (show FewX xs from ⟨by rw [← H.out.len, List.take_length] at hsu; rw [hsu.out]; exact hx, by rw [H.out.len]; exact hj1⟩) hbl)
      clear hsu hbl
      go_wp2
      go_ret
      exact ⟨⟨true, rfl, fun _ => HF.out.1⟩, HF.out.2⟩
end Go.Proofs.YtdaekoapkclliaaDoor
