/- Package wal's law folder: WalTexts' other ways. -/
import Derived.Test.YtnbefiaeihialaaGreatWalTx
import Derived.Test.YtnbefiaeihialaaGreatWalArgs
set_option linter.unusedVariables false
set_option linter.unusedSimpArgs false
namespace Go.Proofs.YtnbefiaeihialaaGreat
open Go.RowKit
set_option maxRecDepth 100000 in
set_option maxHeartbeats 4000000 in
theorem texts_all (A : Option Addr) (n c : Nat) (xs : List Ch) (s : ByteArray) (w : World) (h : ChsIn w A n xs) (ws : s.size ≤ maxLen) :
    Calls Tryz.prog 3 #[.slice A n c, .string s] w fun e w' => e = .returned (.bool true) ∧ Below w.heap.size w w' := by
  by_cases hn : n ≤ 60
  · by_cases hs : s.size ≤ 3000
    · exact texts_law A n c xs s w h hn hs
    · have c1 := wawake_any w
      have h1 : (n : Int) ≤ 60 := by omega
      have h2 : 3000 < (s.size : Int) := by omega
      unfold maxLen at ws
      clear h hs hn
      go_enter Tryz.func3, Tryz.ntmps3
      go_wp2_with fail
      refine c1.mono ?_
      rintro e w1 ⟨rfl, hb1⟩
      go_wp2
      go_ret
      exact ⟨rfl, hb1⟩
  · have c1 := wawake_any w
    have hm := h.max
    have h1 : 60 < (n : Int) := by omega
    clear h hn
    go_enter Tryz.func3, Tryz.ntmps3
    go_wp2_with fail
    refine c1.mono ?_
    rintro e w1 ⟨rfl, hb1⟩
    go_wp2
    go_ret
    exact ⟨rfl, hb1⟩
end Go.Proofs.YtnbefiaeihialaaGreat
