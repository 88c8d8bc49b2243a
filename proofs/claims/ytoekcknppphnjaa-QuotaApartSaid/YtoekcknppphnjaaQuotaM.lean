/- Package quota's law folder: QuotaApart's other ways. -/
import Derived.Test.YtoekcknppphnjaaQuotaJ
namespace Go.Proofs.Ytoekcknppphnjaa
open Go.RowKit
set_option maxRecDepth 100000 in
set_option maxHeartbeats 1000000 in
theorem apart_all (A0 : Option Addr) (l0 c0 : Nat) (xs : List Int) (A1 : Option Addr) (l1 c1 : Nat) (ys : List Act) (i : Int) (w : World) (h0 : IntsAt w A0 l0 xs) (h1 : ActsAt w A1 l1 ys) (hi : (Lit.int .i64 i).wf = true) :
    Calls Try.prog 4 #[.slice A0 l0 c0, .slice A1 l1 c1, .int .i64 i] w fun e w' => e = .returned (.bool true) ∧ Below w.heap.size w w' := by
  have haw := awake_any w
  have m0 := h0.max
  have m1 := h1.max
  have bi : -9223372036854775808 ≤ i ∧ i ≤ 9223372036854775807 := by simpa [Lit.wf, IntKind.min, IntKind.max, IntKind.signed, IntKind.bits] using hi
  obtain ⟨bi1, bi2⟩ := bi
  clear hi
  by_cases hout : 16 < l0 ∨ 300 < l1 ∨ i < 0 ∨ l0 ≤ i
  · clear h0 h1
    rcases (show 16 < l0 ∨ (l0 ≤ 16 ∧ 300 < l1) ∨ (l0 ≤ 16 ∧ l1 ≤ 300 ∧ i < 0) ∨ (l0 ≤ 16 ∧ l1 ≤ 300 ∧ 0 ≤ i ∧ (l0 : Int) ≤ i) by omega) with h | ⟨h, h'⟩ | ⟨h, h', h''⟩ | ⟨h, h', h'', h'''⟩
    all_goals
      clear hout
      go_enter Try.func4, Try.ntmps4
      go_wp2_with (first | (go_at_call 7; refine haw.mono ?_; rintro e w1 ⟨rfl, hb1⟩))
      go_ret
      exact ⟨rfl, hb1⟩
  · cases hk : newOk xs with
    | true =>
      obtain ⟨j, rfl⟩ := Int.eq_ofNat_of_zero_le (show 0 ≤ i by omega)
      obtain ⟨b0, o0, rfl, hc0⟩ := h0.cells (by omega)
      exact apart_law b0 o0 l0 c0 xs A1 l1 c1 ys j w h0.len hc0 h1 (by omega) (by omega) (by omega) hk
    | false =>
      have h2 : l0 ≤ 16 := by omega
      have h3 : l1 ≤ 300 := by omega
      have h4 : 0 ≤ i := by omega
      have h5 : i < (l0 : Int) := by omega
      have H0 := Lib.hid h0
      have HK := Lib.hid hk
      clear h0 h1 hk hout
      go_enter Try.func4, Try.ntmps4
      go_wp2_with (first | (go_at_call 7; refine haw.mono ?_; rintro e w1 ⟨rfl, hb1⟩))
      refine (new_not A0 l0 c0 _ xs (H0.out.below hb1) HK.out).mono ?_
      rintro e w2 ⟨rfl, hb2⟩
      have hb : Below w.heap.size w w2 := hb1.trans (hb2.mono hb1.size)
      clear hb1 hb2
      go_wp2_with fail
      refine (new_not A0 l0 c0 _ xs (H0.out.below hb) HK.out).mono ?_
      rintro e w3 ⟨rfl, hb3⟩
      go_wp2_with fail
      go_ret
      exact ⟨rfl, hb.trans (hb3.mono hb.size)⟩
end Go.Proofs.Ytoekcknppphnjaa
