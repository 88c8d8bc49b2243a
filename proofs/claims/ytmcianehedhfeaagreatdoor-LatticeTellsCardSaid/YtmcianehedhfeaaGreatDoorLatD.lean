/- Package lattice: Dominates, Join, Meet. -/
import Derived.Test.YtmcianehedhfeaaGreatDoorLatC
import Derived.Laws.ResultCell
import Derived.Laws.Rows
set_option linter.unusedVariables false
set_option linter.unusedSimpArgs false
namespace Go.Proofs.YtmcianehedhfeaaGreatDoor
open Go.RowKit
theorem run_lab {g : Nat} {c0 c1 : Value} {fr : Nat × Nat} {w : World} (hg : w.heap[g]? = some (.cells #[c0, c1] 27 fr)) : (loadVar 27 ⟨g, 0, none⟩).run Tryz.prog w = .ok (.agg #[c0, c1]) w :=
  run_loadVar_row w g 27 27 #[c0, c1] fr _ hg Tryz.underlying27 rfl (by kernel_rfl)
/-- A label is returned. -/
theorem ret_lab1 {fn : Func} {R : Ending → World → Prop} {a : Act} {w : World} {p : Tmp} {g : Nat} {c0 c1 : Value} {fr : Nat × Nat} (h : fn.results = #[.cell p 27]) (hp : a.tmps.getD p undef = .pointer (some ⟨g, 0, none⟩))
    (hg : w.heap[g]? = some (.cells #[c0, c1] 27 fr)) (hd : a.defers = []) (hR : R (.returned (.agg #[c0, c1])) w) : bodyPost Tryz.prog fn R .ret a w := by
  refine bodyPost_ret ?_ hd hR
  have hp' : a.tmps[p]?.getD undef = .pointer (some ⟨g, 0, none⟩) := by simpa using hp
  simp [results, h, hp', asAddr, run_lab hg]
theorem ret_lab2 {fn : Func} {R : Ending → World → Prop} {a : Act} {w : World} {p u : Tmp} {g : Nat} {c0 c1 v : Value} {fr : Nat × Nat} (h : fn.results = #[.cell p 27, .tmp u]) (hp : a.tmps.getD p undef = .pointer (some ⟨g, 0, none⟩)) (hv : a.tmps.getD u undef = v)
    (hg : w.heap[g]? = some (.cells #[c0, c1] 27 fr)) (hd : a.defers = []) (hR : R (.returned (.tuple #[.agg #[c0, c1], v])) w) : bodyPost Tryz.prog fn R .ret a w := by
  refine bodyPost_ret (v := .tuple #[.agg #[c0, c1], v]) ?_ hd hR
  rw [results_cell_tmp h, hp, hv]
  simp [asAddr, run_lab hg, Result.andThen]
theorem heap3_new (w : World) (A B C : Obj) : (((w.alloc A).alloc B).alloc C).heap[w.heap.size + 1 + 1]? = some C := by
  have h := heap_alloc_new ((w.alloc A).alloc B) C
  have e : ((w.alloc A).alloc B).heap.size = w.heap.size + 1 + 1 := by
    show ((w.heap.push A).push B).size = _
    rw [Array.size_push, Array.size_push]
  rwa [e] at h
theorem below2 (w : World) (A B : Obj) : Below w.heap.size w ((w.alloc A).alloc B) := ((Below.refl _ w).alloc (Nat.le_refl _) A).alloc (by show _ ≤ (w.heap.push A).size; rw [Array.size_push]; omega) B
theorem below3 (w : World) (A B C : Obj) : Below w.heap.size w (((w.alloc A).alloc B).alloc C) := (below2 w A B).alloc (by show _ ≤ ((w.heap.push A).push B).size; rw [Array.size_push, Array.size_push]; omega) C
def labV (a : Int) (m : Nat) : Value := .agg #[.int .i64 a, .int .u64 (m : Int)]
theorem dom_any (a b : Int) (m n : Nat) (hm : m < M64) (hn : n < M64) (w : World) :
    Calls Tryz.prog 14 #[labV a m, labV b n] w fun e w' => e = .returned (.bool (domB a m b n)) ∧ Below w.heap.size w w' := by
  have h1 := u64_andNot_nat n m hn hm
  have h2 := andNot_zero hn hm
  obtain ⟨X, hX⟩ : ∃ X, X = n &&& (18446744073709551615 - m) := ⟨_, rfl⟩
  rw [← hX] at h1 h2
  obtain ⟨R, hR⟩ : ∃ R, R = domB a m b n := ⟨_, rfl⟩
  rw [← hR]
  unfold labV
  by_cases hd : b ≤ a
  · by_cases hz : X = 0
    · have hb : R = true := hR.trans (domB_true.2 ⟨hd, h2.1 hz⟩)
      subst hb hz
      clear hX h2 hR
      go_enter Tryz.func14, Tryz.ntmps14
      go_wp2
      go_ret
      exact ⟨rfl, below2 _ _ _⟩
    · have hb : R = false := hR.trans (domB_false.2 fun x => hz (h2.2 x.2))
      have hq : ((X : Int) == 0) = false := by rw [beq_eq_false_iff_ne]; omega
      subst hb
      clear hX h2 hR hz
      go_enter Tryz.func14, Tryz.ntmps14
      go_wp2
      go_ret
      exact ⟨rfl, below2 _ _ _⟩
  · have hb : R = false := hR.trans (domB_false.2 fun x => hd x.1)
    subst hb
    clear hX h2 hR
    go_enter Tryz.func14, Tryz.ntmps14
    go_wp2
    go_ret
    exact ⟨rfl, below2 _ _ _⟩
end Go.Proofs.YtmcianehedhfeaaGreatDoor
