/- Package wal's law folder: WalSpoilt's other ways. -/
import Derived.Test.YtnbefiaeihialaaGreatWalAi
import Derived.Test.YtnbefiaeihialaaGreatWalArgs
set_option linter.unusedVariables false
set_option linter.unusedSimpArgs false
namespace Go.Proofs.YtnbefiaeihialaaGreat
open Go.RowKit
set_option maxRecDepth 100000 in
set_option maxHeartbeats 4000000 in
theorem spoilt_all (A : Option Addr) (n cA : Nat) (xs : List ByteArray) (B : Option Addr) (m cB : Nat) (L : List Ch) (at_ : Int) (text : ByteArray) (w : World) (hA : StrsIn w A n xs) (hz : ∀ k, k < n → (str xs k).size ≤ reachBytes) (hL : ChsIn w B m L) (wa : (Lit.int .i64 at_).wf = true) (wt : text.size ≤ maxLen) :
    Calls Tryz.prog 5 #[.slice A n cA, .slice B m cB, .int .i64 at_, .string text] w fun e w' => e = .returned (.bool true) ∧ Below w.heap.size w w' := by
  have hm := hA.max
  unfold maxLen at wt
  by_cases hin : tot [L] ≤ 120 ∧ n ≤ 8 ∧ text.size ≤ 64
  · exact spoilt_law A B n cA m cB xs L at_ text w hA hL hin.2.1 hin.1 hin.2.2 (fun j hj => Nat.le_trans (hz j hj) (by decide))
  · have c1 := wawake_any w
    have H := Lib.hid hL
    clear hA hL hz
    rcases (show 120 < tot [L] ∨ (tot [L] ≤ 120 ∧ 8 < n) ∨ (tot [L] ≤ 120 ∧ n ≤ 8 ∧ 64 < text.size) by omega) with h | ⟨h, h'⟩ | ⟨h, h', h''⟩
    · have hd : decide (tot [L] ≤ 120) = false := decide_eq_false (by omega)
      clear hin h
      go_enter Tryz.func5, Tryz.ntmps5
      go_wp2_with fail
      refine c1.mono ?_
      rintro e w1 ⟨rfl, hb1⟩
      have hal := hb1.alloc hb1.size (.cells #[.slice B m cB] 22 (0, 0))
      have c2 := few_any (some ⟨w1.heap.size, 0, none⟩) 1 1 [L] (w1.alloc (.cells #[.slice B m cB] 22 (0, 0))) (rows_one (heap_alloc_new w1 _) (H.out.below hal))
      rw [hd] at c2
      have HA := Lib.hid hal
      clear hal hd
      go_wp2_with fail
      refine c2.mono ?_
      rintro e w2 ⟨rfl, dd, rfl⟩
      go_wp2
      go_ret
      exact ⟨rfl, Below.drewN' HA.out dd⟩
    · have hd : decide (tot [L] ≤ 120) = true := decide_eq_true h
      have hi : 8 < (n : Int) := by omega
      clear hin h h'
      go_enter Tryz.func5, Tryz.ntmps5
      go_wp2_with fail
      refine c1.mono ?_
      rintro e w1 ⟨rfl, hb1⟩
      have hal := hb1.alloc hb1.size (.cells #[.slice B m cB] 22 (0, 0))
      have c2 := few_any (some ⟨w1.heap.size, 0, none⟩) 1 1 [L] (w1.alloc (.cells #[.slice B m cB] 22 (0, 0))) (rows_one (heap_alloc_new w1 _) (H.out.below hal))
      rw [hd] at c2
      have HA := Lib.hid hal
      clear hal hd
      go_wp2_with fail
      refine c2.mono ?_
      rintro e w2 ⟨rfl, dd, rfl⟩
      go_wp2
      go_ret
      exact ⟨rfl, Below.drewN' HA.out dd⟩
    · have hd : decide (tot [L] ≤ 120) = true := decide_eq_true h
      have hi : (n : Int) ≤ 8 := by omega
      have hi2 : 64 < (text.size : Int) := by omega
      clear hin h h' h''
      go_enter Tryz.func5, Tryz.ntmps5
      go_wp2_with fail
      refine c1.mono ?_
      rintro e w1 ⟨rfl, hb1⟩
      have hal := hb1.alloc hb1.size (.cells #[.slice B m cB] 22 (0, 0))
      have c2 := few_any (some ⟨w1.heap.size, 0, none⟩) 1 1 [L] (w1.alloc (.cells #[.slice B m cB] 22 (0, 0))) (rows_one (heap_alloc_new w1 _) (H.out.below hal))
      rw [hd] at c2
      have HA := Lib.hid hal
      clear hal hd
      go_wp2_with fail
      refine c2.mono ?_
      rintro e w2 ⟨rfl, dd, rfl⟩
      go_wp2
      go_ret
      exact ⟨rfl, Below.drewN' HA.out dd⟩
end Go.Proofs.YtnbefiaeihialaaGreat
