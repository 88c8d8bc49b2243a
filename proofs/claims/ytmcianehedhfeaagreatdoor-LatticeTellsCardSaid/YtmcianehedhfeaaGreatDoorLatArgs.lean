/- What the lattice laws' arguments are. -/
import Derived.Test.YtmcianehedhfeaaGreatDoorStrs
import Derived.Lib.SmallJoins
set_option linter.unusedVariables false
set_option linter.unusedSimpArgs false
namespace Go.Proofs.YtmcianehedhfeaaGreatDoor
open Go.ChangeShapes Go.WideShapes Go.ChangeAt Go.RowKit Go.Deep Go.Joins
theorem Tryz.cellsLabel : Tryz.prog.cellsOf 27 = 2 := by kernel_rfl
set_option maxRecDepth 100000 in
theorem lab_of {H : Type} {enc : TypeId × Value → H} {w : World} {base b0 : Nat} {r : Reach} {spare : Nat → Bool} {held : Bool} {v : Value} {d : DataW H} {p : List MemPlace}
    (hv : Value.okWide Tryz.prog w r b0 27 v) (h : DataW.Trod enc Tryz.prog w base spare held 27 v d p) : ∃ (a : Int) (m : Nat), v = .agg #[.int .i64 a, .int .u64 (m : Int)] ∧ ((Lit.int .i64 a).wf = true ∧ m < 18446744073709551616) := by
  obtain ⟨c0, c1, y0, y1, m, rfl, _, _, hy0, hy1⟩ := open_agg2 Tryz.underlying27 (by kernel_rfl) Tryz.cellsLabel hv h
  obtain ⟨a, e0, _, wa⟩ := DataW.trod_int Tryz.underlying3 hy0
  obtain ⟨t, e1, _, wt⟩ := DataW.trod_int Tryz.underlying25 hy1
  simp only [List.cons.injEq, and_true] at e0 e1
  subst e0 e1
  have hb : 0 ≤ t ∧ t ≤ 18446744073709551615 := by simpa [Lit.wf, IntKind.min, IntKind.max, IntKind.signed, IntKind.bits] using wt
  refine ⟨a, t.toNat, ?_, wa, by omega⟩
  rw [show ((t.toNat : Nat) : Int) = t by omega]
theorem Tryz.cellsLattice : Tryz.prog.cellsOf 24 = 2 := by kernel_rfl
theorem strs_cell {H : Type} {enc : TypeId × Value → H} {w : World} {base : Nat} {spare : Nat → Bool} {held : Bool} {c0 : Value} {y : DataW H × List MemPlace} {fuel : Nat}
    (hf : DataW.trod enc Tryz.prog w base spare held fuel 22 [c0] = some y) : ∃ A n c xs, c0 = .slice A n c ∧ StrsIn w A n xs := by
  rcases open_strs Tryz.underlying22 Tryz.underlying9 (by kernel_rfl) hf with ⟨hcs, _⟩ | ⟨a, l, c', m, Sx, hcs, _, hl, hm, hmm, hx, hcell⟩
  · simp only [List.cons.injEq, and_true] at hcs
    exact ⟨none, 0, 0, [], hcs, ⟨rfl, by omega, fun h => absurd h (by omega)⟩⟩
  · simp only [List.cons.injEq, and_true] at hcs
    have hnm : l ≤ m := by rw [hmm]; split <;> omega
    have hS : ∀ j, j < l → str ((List.range l).map Sx) j = Sx j := fun j hj => by
      unfold str
      rw [List.getD_eq_getElem?_getD, List.getElem?_map, List.getElem?_range hj]
      rfl
    refine ⟨some a, l, c', (List.range l).map Sx, hcs, ⟨by simp, by simp only [maxLen] at hm; omega, fun h0 => ?_⟩⟩
    have q := (hcell 0 (by omega)).1
    have q' : w.cell? a = some (.string (Sx 0)) := by simpa [Addr.add] using q
    obtain ⟨b, off, rfl⟩ := addr_plain q'
    refine ⟨b, off, rfl, fun j hj => ?_⟩
    rw [hS j hj, ← (hcell j (by omega)).1, plain_add]
set_option maxRecDepth 100000 in
theorem lat_of {H : Type} {enc : TypeId × Value → H} {w : World} {base b0 : Nat} {r : Reach} {spare : Nat → Bool} {held : Bool} {v : Value} {d : DataW H} {p : List MemPlace}
    (hv : Value.okWide Tryz.prog w r b0 24 v) (h : DataW.Trod enc Tryz.prog w base spare held 24 v d p) :
    ∃ A n c B k q lv cp, v = .agg #[.slice A n c, .slice B k q] ∧ (StrsIn w A n lv ∧ StrsIn w B k cp) := by
  obtain ⟨c0, c1, y0, y1, m, rfl, _, _, hy0, hy1⟩ := open_agg2 Tryz.underlying24 (by kernel_rfl) Tryz.cellsLattice hv h
  obtain ⟨A, n, c, lv, rfl, h0⟩ := strs_cell hy0
  obtain ⟨B, k, q, cp, rfl, h1⟩ := strs_cell hy1
  exact ⟨A, n, c, B, k, q, lv, cp, rfl, h0, h1⟩
end Go.Proofs.YtmcianehedhfeaaGreatDoor
