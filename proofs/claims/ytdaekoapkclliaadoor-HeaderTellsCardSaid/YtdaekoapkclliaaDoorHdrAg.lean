/- What the header laws' arguments are. -/
import Derived.Test.YtdaekoapkclliaaDoorHdrN
import Derived.Test.YtdaekoapkclliaaDoorArgs
import Derived.Lib.SmallJoins
set_option linter.unusedVariables false
set_option linter.unusedSimpArgs false
namespace Go.Proofs.YtdaekoapkclliaaDoor
open Go.ChangeShapes Go.WideShapes Go.ChangeAt Go.RowKit Go.Deep Go.Joins
theorem Tryd.cellsFld : Tryd.prog.cellsOf 38 = 2 := by kernel_rfl
set_option maxRecDepth 100000 in
theorem fld_of {H : Type} {enc : TypeId × Value → H} {w : World} {base b0 : Nat} {r : Reach} {spare : Nat → Bool} {held : Bool} {v : Value} {d : DataW H} {p : List MemPlace}
    (hv : Value.okWide Tryd.prog w r b0 38 v) (h : DataW.Trod enc Tryd.prog w base spare held 38 v d p) : ∃ (a b : ByteArray), v = .agg #[.string a, .string b] ∧ (a.size ≤ 9223372036854775807 ∧ b.size ≤ 9223372036854775807) := by
  obtain ⟨c0, c1, y0, y1, m, rfl, _, _, hy0, hy1⟩ := open_agg2 Tryd.underlying38 (by kernel_rfl) Tryd.cellsFld hv h
  obtain ⟨a, e0, _, wa⟩ := DataW.trod_string Tryd.underlying9 hy0
  obtain ⟨b, e1, _, wb⟩ := DataW.trod_string Tryd.underlying9 hy1
  simp only [List.cons.injEq, and_true] at e0 e1
  subst e0 e1
  unfold maxLen at wa wb
  exact ⟨a, b, rfl, by omega, by omega⟩
set_option maxRecDepth 100000 in
theorem fldsIn_of {H : Type} {enc : TypeId × Value → H} {w : World} {base : Nat} {spare : Nat → Bool} {held : Bool} {v : Value} {d : DataW H} {p : List MemPlace} {A : Option Addr} {n c : Nat}
    (hv : v = .slice A n c) (h : DataW.Trod enc Tryd.prog w base spare held 22 v d p) : ∃ xs, FldsIn w A n xs := by
  obtain ⟨hn, hcell⟩ := fieldsAt_of Tryd.underlying22 Tryd.underlying38 (by kernel_rfl) Tryd.cellsFld (by decide) hv h
  by_cases h0 : 0 < n
  · obtain ⟨b, off, rfl, hc⟩ := hcell h0
    obtain ⟨xs, hl, hx⟩ := list_of ((⟨#[]⟩, ⟨#[]⟩) : Fld) n (fun i f => w.cell? ⟨b, off + i * 2, none⟩ = some (.string f.1) ∧ w.cell? ⟨b, off + i * 2 + 1, none⟩ = some (.string f.2)) (fun i hi => by
      obtain ⟨u, y, m, q, ht⟩ := hc i hi 0 _ rfl
      obtain ⟨u', y', m', q', ht'⟩ := hc i hi 1 _ rfl
      obtain ⟨s, e, _, _⟩ := DataW.trod_string Tryd.underlying9 ht
      obtain ⟨s', e', _, _⟩ := DataW.trod_string Tryd.underlying9 ht'
      simp only [List.cons.injEq, and_true] at e e'
      subst e e'
      exact ⟨(s, s'), q, q'⟩)
    exact ⟨xs, hl, by omega, fun _ => ⟨b, off, rfl, fun j hj => hx j hj⟩⟩
  · obtain rfl : n = 0 := by omega
    exact ⟨[], rfl, by omega, fun h => absurd h (by omega)⟩
end Go.Proofs.YtdaekoapkclliaaDoor
