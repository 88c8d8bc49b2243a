/- Package wal's law folder: WalRoom's other ways. -/
import Derived.Test.YtnbefiaeihialaaGreatWalAf
import Derived.Test.YtnbefiaeihialaaGreatWalArgs
set_option linter.unusedVariables false
set_option linter.unusedSimpArgs false
namespace Go.Proofs.YtnbefiaeihialaaGreat
open Go.RowKit
set_option maxRecDepth 100000 in
set_option maxHeartbeats 4000000 in
theorem room_all (cnt : Int) (A : Option Addr) (n c : Nat) (rows : List (List Ch)) (w : World) (wn : (Lit.int .i64 cnt).wf = true) (h : RowsAt w A n rows) (hz : n ≤ 140737488355328) :
    Calls Tryz.prog 6 #[.int .i64 cnt, .slice A n c] w fun e w' => e = .returned (.bool true) ∧ Below w.heap.size w w' := by
  have c1 := wawake_any w
  have H := Lib.hid (h.in_ hz)
  have c2 := fun w1 (hb : Below w.heap.size w w1) => few_any A n c rows w1 (H.out.below hb)
  clear h
  by_cases ht : tot rows ≤ 120
  · by_cases hin : 4 ≤ cnt ∧ cnt ≤ 200 ∧ cnt % 2 = 0
    · obtain ⟨half, rfl⟩ : ∃ half : Nat, cnt = ((2 * half : Nat) : Int) := ⟨(cnt / 2).toNat, by omega⟩
      exact room_law half A n c rows w H.out ht (by omega) (by omega)
    · rw [decide_eq_true ht] at c2
      rcases (show cnt < 4 ∨ (4 ≤ cnt ∧ 200 < cnt) ∨ (4 ≤ cnt ∧ cnt ≤ 200 ∧ cnt % 2 ≠ 0) by omega) with h | ⟨h, h'⟩ | ⟨h, h', h''⟩
      · clear hin
        go_enter Tryz.func6, Tryz.ntmps6
        go_wp2_with fail
        refine c1.mono ?_
        rintro e w1 ⟨rfl, hb1⟩
        have c3 := c2 w1 hb1
        clear c2
        go_wp2_with fail
        refine c3.mono ?_
        rintro e _ ⟨rfl, dd, rfl⟩
        go_wp2
        go_ret
        exact ⟨rfl, Below.drewN' hb1 dd⟩
      · clear hin
        go_enter Tryz.func6, Tryz.ntmps6
        go_wp2_with fail
        refine c1.mono ?_
        rintro e w1 ⟨rfl, hb1⟩
        have c3 := c2 w1 hb1
        clear c2
        go_wp2_with fail
        refine c3.mono ?_
        rintro e _ ⟨rfl, dd, rfl⟩
        go_wp2
        go_ret
        exact ⟨rfl, Below.drewN' hb1 dd⟩
      · clear hin
        have h5 : (cnt % 2 != 0) = true := by rw [bne_iff_ne]; exact h''
        have h6 : 0 ≤ cnt := by omega
        go_enter Tryz.func6, Tryz.ntmps6
        go_wp2_with fail
        refine c1.mono ?_
        rintro e w1 ⟨rfl, hb1⟩
        have c3 := c2 w1 hb1
        clear c2
        go_wp2_with fail
        refine c3.mono ?_
        rintro e _ ⟨rfl, dd, rfl⟩
        go_wp2
        go_ret
        exact ⟨rfl, Below.drewN' hb1 dd⟩
  · rw [decide_eq_false ht] at c2
    go_enter Tryz.func6, Tryz.ntmps6
    go_wp2_with fail
    refine c1.mono ?_
    rintro e w1 ⟨rfl, hb1⟩
    have c3 := c2 w1 hb1
    clear c2
    go_wp2_with fail
    refine c3.mono ?_
    rintro e _ ⟨rfl, dd, rfl⟩
    go_wp2
    go_ret
    exact ⟨rfl, Below.drewN' hb1 dd⟩
end Go.Proofs.YtnbefiaeihialaaGreat
