/- Package quota's law folder: QuotaTotal's other ways: rows that are too long, bounds that are refused. -/
import Derived.Test.YtoekcknppphnjaaQuotaF
set_option linter.unusedVariables false
set_option linter.unusedSimpArgs false
namespace Go.Proofs.Ytoekcknppphnjaa
open Go.RowKit
/-- New at whatever slice of whole numbers. -/
theorem new_any (A : Option Addr) (n c : Nat) (w : World) (xs : List Int) (h : IntsAt w A n xs) : Calls Try.prog 8 #[.slice A n c] w (NewPost xs w) := by
  by_cases hn : n < 1 ∨ 16 < n
  · exact new_len A n c w xs h.len h.max hn
  · obtain ⟨b, off, rfl, hc⟩ := h.cells (by omega)
    exact new_some b off n c w xs h.len (by omega) (by omega) hc
theorem new_not (A : Option Addr) (n c : Nat) (w : World) (xs : List Int) (h : IntsAt w A n xs) (hk : newOk xs = false) :
    Calls Try.prog 8 #[.slice A n c] w fun e w' => e = .returned (.tuple #[.pointer none, .int .i64 1]) ∧ Below w.heap.size w w' := by
  refine (new_any A n c w xs h).mono ?_
  rintro e w' ⟨hb, ⟨ht, _⟩ | ⟨_, he⟩⟩
  · rw [hk] at ht; cases ht
  · exact ⟨he, hb⟩
theorem newOk_bounds {xs : List Int} (h : newOk xs = true) : 1 ≤ xs.length ∧ xs.length ≤ 16 := by
  simp only [newOk, Bool.and_eq_true, decide_eq_true_eq] at h
  exact h.1
set_option maxRecDepth 100000 in
set_option maxHeartbeats 1000000 in
theorem total_all (A0 : Option Addr) (l0 c0 : Nat) (xs : List Int) (A1 : Option Addr) (l1 c1 : Nat) (ys : List Act) (w : World) (h0 : IntsAt w A0 l0 xs) (h1 : ActsAt w A1 l1 ys) :
    Calls Try.prog 6 #[.slice A0 l0 c0, .slice A1 l1 c1] w fun e w' => e = .returned (.bool true) ∧ Below w.heap.size w w' := by
  by_cases hl : 16 < l0 ∨ 300 < l1
  · have haw := awake_any w
    have m0 := h0.max
    have m1 := h1.max
    clear h0 h1
    by_cases hl0 : 16 < l0
    · clear hl
      go_enter Try.func6, Try.ntmps6
      go_wp2_with (first | (go_at_call 7; refine haw.mono ?_; rintro e w1 ⟨rfl, hb1⟩))
      go_ret
      exact ⟨rfl, hb1⟩
    · have hl1 : 300 < l1 := by omega
      clear hl
      go_enter Try.func6, Try.ntmps6
      go_wp2_with (first | (go_at_call 7; refine haw.mono ?_; rintro e w1 ⟨rfl, hb1⟩))
      go_ret
      exact ⟨rfl, hb1⟩
  · cases hk : newOk xs with
    | true =>
      have := newOk_bounds hk
      have := h0.len
      exact total_law A0 l0 c0 xs A1 l1 c1 ys w h0 h1 (by omega) (by omega) (by omega) hk
    | false =>
      have haw := awake_any w
      have hl0 : l0 ≤ 16 := by omega
      have hl1 : l1 ≤ 300 := by omega
      have H0 := Lib.hid h0
      have HK := Lib.hid hk
      clear h0 h1 hk hl
      go_enter Try.func6, Try.ntmps6
      go_wp2_with (first | (go_at_call 7; refine haw.mono ?_; rintro e w1 ⟨rfl, hb1⟩) |
        (go_at_call 8; refine (new_not A0 l0 c0 _ xs (H0.out.below hb1) HK.out).mono ?_; rintro e w2 ⟨rfl, hb2⟩))
      go_ret
      exact ⟨rfl, hb1.trans (hb2.mono hb1.size)⟩
end Go.Proofs.Ytoekcknppphnjaa
