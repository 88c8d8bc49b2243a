/- A lattice that came in. -/
import Derived.Test.YtmcianehedhfeaaGreatDoorLatF
import Derived.Test.YtmcianehedhfeaaGreatDoorLatArgs
set_option linter.unusedVariables false
set_option linter.unusedSimpArgs false
namespace Go.Proofs.YtmcianehedhfeaaGreatDoor
open Go.ChangeShapes Go.WideShapes Go.ChangeAt Go.RowKit Go.Deep Go.Joins
theorem sl_cell {H : Type} {enc : TypeId × Value → H} {w : World} {base : Nat} {spare : Nat → Bool} {held : Bool} {c0 : Value} {y : DataW H × List MemPlace} {fuel : Nat}
    (hf : DataW.trod enc Tryz.prog w base spare held fuel 22 [c0] = some y) : ∃ xs, SlIn w c0 xs ∧ xs.length ≤ 9223372036854775807 := by
  rcases open_strs Tryz.underlying22 Tryz.underlying9 (by kernel_rfl) hf with ⟨hcs, _⟩ | ⟨a, l, c', m, Sx, hcs, _, hl, hm, hmm, hx, hcell⟩
  · simp only [List.cons.injEq, and_true] at hcs
    exact ⟨[], ⟨none, 0, hcs, ⟨rfl, by decide, fun h => absurd h (by decide)⟩, fun _ => rfl⟩, by decide⟩
  · simp only [List.cons.injEq, and_true] at hcs
    have hnm : l ≤ m := by rw [hmm]; split <;> omega
    have hS : ∀ j, j < l → str ((List.range l).map Sx) j = Sx j := fun j hj => by
      unfold str
      rw [List.getD_eq_getElem?_getD, List.getElem?_map, List.getElem?_range hj]
      rfl
    have hlen : ((List.range l).map Sx).length = l := by simp
    have hmx : l ≤ 9223372036854775807 := by simp only [maxLen] at hm; omega
    refine ⟨(List.range l).map Sx, ⟨some a, c', by rw [hlen]; exact hcs, ⟨rfl, by rw [hlen]; exact hmx, fun h0 => ?_⟩, fun h => by cases h⟩, by rw [hlen]; exact hmx⟩
    rw [hlen] at h0
    have q := (hcell 0 (by omega)).1
    have q' : w.cell? a = some (.string (Sx 0)) := by simpa [Addr.add] using q
    obtain ⟨b, off, rfl⟩ := addr_plain q'
    refine ⟨b, off, rfl, fun j hj => ?_⟩
    rw [hlen] at hj
    rw [hS j hj, ← (hcell j (by omega)).1, plain_add]
set_option maxRecDepth 100000 in
theorem latv_of {H : Type} {enc : TypeId × Value → H} {w : World} {base b0 : Nat} {r : Reach} {spare : Nat → Bool} {held : Bool} {v : Value} {d : DataW H} {p : List MemPlace}
    (hv : Value.okWide Tryz.prog w r b0 24 v) (h : DataW.Trod enc Tryz.prog w base spare held 24 v d p) :
    ∃ V1 V2 lv cp, v = .agg #[V1, V2] ∧ (SlIn w V1 lv ∧ SlIn w V2 cp ∧ (lv.length ≤ 9223372036854775807 ∧ cp.length ≤ 9223372036854775807)) := by
  obtain ⟨c0, c1, y0, y1, m, rfl, _, _, hy0, hy1⟩ := open_agg2 Tryz.underlying24 (by kernel_rfl) Tryz.cellsLattice hv h
  obtain ⟨lv, h0, h0'⟩ := sl_cell hy0
  obtain ⟨cp, h1, h1'⟩ := sl_cell hy1
  exact ⟨c0, c1, lv, cp, rfl, h0, h1, h0', h1'⟩
end Go.Proofs.YtmcianehedhfeaaGreatDoor
