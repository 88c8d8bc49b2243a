/- Package wal: area. -/
import Derived.Test.YtnbefiaeihialaaGreatWalQ
set_option linter.unusedVariables false
set_option linter.unusedSimpArgs false
namespace Go.Proofs.YtnbefiaeihialaaGreat
open Go.RowKit
/-- What area and Make ask of a store's bounds. -/
def AreaOk (n : Nat) (from_ count : Int) : Prop := 0 ≤ from_ ∧ 4 ≤ count ∧ count % 2 = 0 ∧ from_ ≤ n ∧ count ≤ n - from_
/-- A store just made or read: nothing is in it. -/
def st0 (from_ half : Nat) : St := ⟨from_, half, 0, 0, 0, 0, []⟩
theorem area_zero : Tryz.zeroCells104 = (([.pointer none, .int .i64 0, .int .i64 0, .int .i64 0, .int .i64 0, .int .i64 0, .int .i64 0, .map none, .int .u32 0, .int .i32 0, .int .u32 0] : List Value) ++ w32 zeroT).toArray := by kernel_rfl
theorem area_cells (g mb from_ half : Nat) : (((Tryz.zeroCells104.setIfInBounds 0 (.pointer (some ⟨g, 0, none⟩))).setIfInBounds 1 (.int .i64 from_)).setIfInBounds 2 (.int .i64 half)).setIfInBounds 7 (.map (some mb)) = (stC g (st0 from_ half) mb 0 0 zeroT).toArray := by
  rw [area_zero, set_arr, set_arr, set_arr, set_arr]
  rfl
set_option maxRecDepth 100000 in
set_option maxHeartbeats 16000000 in
theorem area_any (g D c : Nat) (R : List Value) (k : Dk) (from_ half : Nat) (w : World) (h : DkAt w g D c R k) (h2 : 2 ≤ half) (h3 : from_ + 2 * half ≤ k.n) (h4 : k.n ≤ 1000000) :
    Calls Tryz.prog 36 #[.pointer (some ⟨g, 0, none⟩), .int .i64 from_, .int .i64 (2 * half : Nat)] w fun e w' => e = .returned (.tuple #[.pointer (some ⟨w.heap.size + 1, 0, none⟩), .int .i64 0]) ∧ StB w' (w.heap.size + 1) g (st0 from_ half) w.heap.size 0 0 zeroT ∧ MapB w' w.heap.size [] ∧ Below w.heap.size w w' := by
  have hf0 : (0 : Int) ≤ (from_ : Int) := by omega
  obtain ⟨C, hC⟩ : ∃ C : Nat, C = 2 * half := ⟨_, rfl⟩
  rw [← hC]
  have hc4 : (4 : Int) ≤ (C : Int) := by omega
  have hcm : (C : Int).tmod 2 = 0 := by rw [Int.tmod_eq_emod_of_nonneg (by omega)]; omega
  have hcm2 : (C : Int) % 2 = 0 := by omega
  have hcd : (C : Int).tdiv 2 = (half : Int) := by rw [Int.tdiv_eq_ediv_of_nonneg (by omega)]; omega
  have hcd2 : (C : Int) / 2 = (half : Int) := by omega
  have hfn : (from_ : Int) ≤ (k.n : Int) := by omega
  have hfw : IntKind.i64.wrap ((k.n : Int) - (from_ : Int)) = (k.n : Int) - (from_ : Int) := by rw [IntKind.wrap_i64]; omega
  have hcn : (C : Int) ≤ (k.n : Int) - (from_ : Int) := by omega
  have cs := size_any g D c R k w h
  generalize k.n = n at *
  have hmm : (Instr.makeMap 91 none).run Tryz.prog w = .ok (.map (some w.heap.size)) (w.alloc (.map #[] 0)) := rfl
  have HH := Lib.hid hC
  clear h h3 hC
  go_enter Tryz.func36, Tryz.ntmps36
  go_wp2_with (go_at_call 57; refine cs.mono ?_; rintro e w9 ⟨rfl, rfl⟩)
  rw [area_cells g w.heap.size from_ half]
  have hs1 : (w.alloc (.map #[] 0)).heap.size = w.heap.size + 1 := by simp
  have hst : StB ((w.alloc (.map #[] 0)).alloc (.cells (stC g (st0 from_ half) w.heap.size 0 0 zeroT).toArray 104 (0, 0))) (w.heap.size + 1) g (st0 from_ half) w.heap.size 0 0 zeroT := by
    unfold StB; rw [← hs1]; exact heap_alloc_new _ _
  have hB1 : Below w.heap.size w (w.alloc (.map #[] 0)) := (Below.refl _ w).alloc (Nat.le_refl _) _
  have hB2 : Below (w.alloc (.map #[] 0)).heap.size (w.alloc (.map #[] 0)) ((w.alloc (.map #[] 0)).alloc (.cells (stC g (st0 from_ half) w.heap.size 0 0 zeroT).toArray 104 (0, 0))) := (Below.refl _ _).alloc (Nat.le_refl _) _
  have HF := Lib.hid (And.intro hst (And.intro ((MapB.new w).below hB2) (hB1.trans (hB2.mono hB1.size))))
  clear hst hB1 hB2
  generalize (stC g (st0 from_ half) w.heap.size 0 0 zeroT).toArray = cc at *
  go_ret2
  exact ⟨rfl, HF.out⟩
end Go.Proofs.YtnbefiaeihialaaGreat
