/- The document's Fields. -/
import Derived.Test.YtdaekoapkclliaaDoorHdrN
import Derived.BigQuiet
set_option linter.unusedVariables false
set_option linter.unusedSimpArgs false
namespace Go.Proofs.YtdaekoapkclliaaDoor
open Go.RowKit
theorem bytes_ne {x y : ByteArray} (h : x ≠ y) : (x.toList == y.toList) = false ∧ (x.toList != y.toList) = true := by
  have e : (x.toList == y.toList) = false := by rw [bytes_eq2]; exact decide_eq_false (fun e => h (eq_data.2 e))
  exact ⟨e, by rw [bne, e]; rfl⟩
theorem drop_eq {xs ys : List Fld} {k : Nat} (h1 : k < xs.length) (h2 : k < ys.length) : (xs.drop k = ys.drop k) = (fl xs k = fl ys k ∧ xs.drop (k + 1) = ys.drop (k + 1)) := by
  rw [List.drop_eq_getElem_cons h1, List.drop_eq_getElem_cons h2, fl_get h1, fl_get h2, List.cons.injEq]
set_option maxRecDepth 100000 in
set_option maxHeartbeats 8000000 in
theorem fields_any (A : Option Addr) (n c : Nat) (xs : List Fld) (B : Option Addr) (m d : Nat) (ys : List Fld) (w : World) (h1 : FldsIn w A n xs) (h2 : FldsIn w B m ys) :
    Calls Tryd.prog 21 #[.slice A n c, .slice B m d] w fun e w' => e = .returned (.bool (decide (xs = ys))) ∧ Below w.heap.size w w' := by
  obtain ⟨R, hR⟩ : ∃ R, R = decide (xs = ys) := ⟨_, rfl⟩
  rw [← hR]
  have hn0 : (0 : Int) ≤ (n : Int) := by omega
  have hm0 : (0 : Int) ≤ (m : Int) := by omega
  have hnm := h1.max
  have hmm := h2.max
  by_cases hnq : n = m
  · subst hnq
    have H := Lib.hid (And.intro h1 h2)
    have HR := Lib.hid hR
    clear h1 h2 hR
    go_enter Tryd.func21, Tryd.ntmps21
    go_wp2
    go_loopw [5] (fun i wr => ∃ k : Nat, k ≤ n ∧ i = .int .i64 k ∧ Hid (R = decide (xs.drop k = ys.drop k)) ∧ Below w.heap.size w wr) (fun i _ => n - (intOf i).toNat)
    case atStart => exact ⟨0, Nat.zero_le _, rfl, Lib.hid (by rw [List.drop_zero, List.drop_zero]; exact HR.out), Below.refl _ _⟩
    case round =>
      obtain ⟨k, hk, rfl, hg, hbl⟩ := hrel
      have hk0 : (0 : Int) ≤ (k : Int) := by omega
      by_cases hlt : k < n
      · have hki : (k : Int) < (n : Int) := by omega
        obtain ⟨b, off, rfl, hc⟩ := (H.out.1.below hbl).cells (by omega)
        obtain ⟨b', off', rfl, hc'⟩ := (H.out.2.below hbl).cells (by omega)
        obtain ⟨e1, e2⟩ := hc k hlt
        obtain ⟨e3, e4⟩ := hc' k hlt
        have hg1 := hg.out
        simp only [drop_eq (show k < xs.length by rw [H.out.1.len]; exact hlt) (show k < ys.length by rw [H.out.2.len]; exact hlt)] at hg1
        generalize fl xs k = f at *
        generalize fl ys k = g at *
        obtain ⟨f1, f2⟩ := f
        obtain ⟨g1, g2⟩ := g
        dsimp only at e1 e2 e3 e4
        have HB := Lib.hid hbl
        by_cases q1 : f1 = g1
        · subst q1
          by_cases q2 : f2 = g2
          · subst q2
            have HG := Lib.hid (show R = decide (xs.drop (k + 1) = ys.drop (k + 1)) by rw [hg1]; simp)
            clear hc hc' hg hg1 hbl
            go_upto_region 6 with fail
            go_quiet (fail)
            go_wp2
            go_roundw
            case rel => exact ⟨k + 1, by omega, by go_num, HG.out, Below.drewN' HB.out _⟩
            case measure => simp [intOf]; omega
          · obtain rfl : R = false := by rw [hg1]; exact decide_eq_false (fun h => q2 (Prod.mk.inj h.1).2)
            obtain ⟨z1, z2⟩ := bytes_ne q2
            clear hc hc' hg hg1 hbl q2
            go_upto_region 6 with fail
            go_quiet (fail)
            go_wp2
            go_ret
            exact ⟨rfl, Below.drewN' HB.out _⟩
        · obtain rfl : R = false := by rw [hg1]; exact decide_eq_false (fun h => q1 (Prod.mk.inj h.1).1)
          obtain ⟨z1, z2⟩ := bytes_ne q1
          clear hc hc' hg hg1 hbl q1
          go_upto_region 6 with fail
          go_quiet (fail)
          go_wp2
          go_ret
          exact ⟨rfl, Below.drewN' HB.out _⟩
      · obtain rfl : k = n := by omega
        have hjE : ¬ (k : Int) < (k : Int) := by omega
        obtain rfl : R = true := by
          rw [hg.out, List.drop_of_length_le (by rw [H.out.1.len]; exact Nat.le_refl _), List.drop_of_length_le (by rw [H.out.2.len]; exact Nat.le_refl _)]; simp
        have HB := Lib.hid hbl
        clear hg hbl
        go_wp2
        go_ret
        exact ⟨rfl, HB.out⟩
  · obtain rfl : R = false := by
      rw [hR]; exact decide_eq_false (fun e => hnq (by rw [← h1.len, ← h2.len, e]))
    have q1 : ((n : Int) == (m : Int)) = false := by rw [Bool.eq_false_iff]; intro e; have := beq_iff_eq.1 e; omega
    have q2 : ((n : Int) != (m : Int)) = true := by rw [bne, q1]; rfl
    clear h1 h2 hR hnq
    go_enter Tryd.func21, Tryd.ntmps21
    go_wp2
    go_ret
    exact ⟨rfl, Below.refl _ _⟩
end Go.Proofs.YtdaekoapkclliaaDoor
