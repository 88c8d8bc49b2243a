/- Package quota's law folder: QuotaBack's other ways. -/
import Derived.Test.YtoekcknppphnjaaQuotaH
set_option linter.unusedVariables false
set_option linter.unusedSimpArgs false
namespace Go.Proofs.Ytoekcknppphnjaa
open Go.RowKit
set_option maxRecDepth 100000 in
set_option maxHeartbeats 1000000 in
theorem back_all (A0 : Option Addr) (l0 c0 : Nat) (xs : List Int) (A1 : Option Addr) (l1 c1 : Nat) (ys : List Act) (i n : Int) (w : World) (h0 : IntsAt w A0 l0 xs) (h1 : ActsAt w A1 l1 ys) (hi : (Lit.int .i64 i).wf = true) (hn : (Lit.int .i64 n).wf = true) :
    Calls Try.prog 5 #[.slice A0 l0 c0, .slice A1 l1 c1, .int .i64 i, .int .i64 n] w fun e w' => e = .returned (.bool true) ∧ Below w.heap.size w w' := by
  have haw := awake_any w
  have m0 := h0.max
  have m1 := h1.max
  have bi : -9223372036854775808 ≤ i ∧ i ≤ 9223372036854775807 := by simpa [Lit.wf, IntKind.min, IntKind.max, IntKind.signed, IntKind.bits] using hi
  have bn : -9223372036854775808 ≤ n ∧ n ≤ 9223372036854775807 := by simpa [Lit.wf, IntKind.min, IntKind.max, IntKind.signed, IntKind.bits] using hn
  obtain ⟨bi1, bi2⟩ := bi
  obtain ⟨bn1, bn2⟩ := bn
  clear hi hn
  by_cases hout : 16 < l0 ∨ 300 < l1 ∨ i < 0 ∨ l0 ≤ i
  · clear h0 h1
    rcases (show 16 < l0 ∨ (l0 ≤ 16 ∧ 300 < l1) ∨ (l0 ≤ 16 ∧ l1 ≤ 300 ∧ i < 0) ∨ (l0 ≤ 16 ∧ l1 ≤ 300 ∧ 0 ≤ i ∧ (l0 : Int) ≤ i) by omega) with h | ⟨h, h'⟩ | ⟨h, h', h''⟩ | ⟨h, h', h'', h'''⟩
    all_goals
      clear hout
      go_enter Try.func5, Try.ntmps5
      go_wp2_with (first | (go_at_call 7; refine haw.mono ?_; rintro e w1 ⟨rfl, hb1⟩))
      go_ret
      exact ⟨rfl, hb1⟩
  · cases hk : newOk xs with
    | true =>
      obtain ⟨j, rfl⟩ := Int.eq_ofNat_of_zero_le (show 0 ≤ i by omega)
      exact back_law A0 l0 c0 xs A1 l1 c1 ys j n w h0 h1 (by omega) (by omega) (by omega) hk bn1 bn2
    | false =>
      have h2 : l0 ≤ 16 := by omega
      have h3 : l1 ≤ 300 := by omega
      have h4 : 0 ≤ i := by omega
      have h5 : i < (l0 : Int) := by omega
      have H0 := Lib.hid h0
      have HK := Lib.hid hk
      clear h0 h1 hk hout
      go_enter Try.func5, Try.ntmps5
      go_wp2_with (first | (go_at_call 7; refine haw.mono ?_; rintro e w1 ⟨rfl, hb1⟩) |
        (go_at_call 8; refine (new_not A0 l0 c0 _ xs (H0.out.below hb1) HK.out).mono ?_; rintro e w2 ⟨rfl, hb2⟩))
      go_ret
      exact ⟨rfl, hb1.trans (hb2.mono hb1.size)⟩
end Go.Proofs.Ytoekcknppphnjaa
