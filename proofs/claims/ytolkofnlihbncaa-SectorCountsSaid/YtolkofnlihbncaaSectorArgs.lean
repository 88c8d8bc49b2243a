/- What the sector laws' arguments are. -/
import Derived.Test.YtolkofnlihbncaaSectorD
import Derived.Test.YtolkofnlihbncaaArgs
import Derived.Lib.SmallJoins
set_option linter.unusedVariables false
set_option linter.unusedSimpArgs false
namespace Go.Proofs.Ytolkofnlihbncaa
open Go.ChangeShapes Go.WideShapes Go.ChangeAt Go.RowKit Go.Deep Go.Joins
theorem Try.cellsCut : Try.prog.cellsOf 24 = 2 := by kernel_rfl
theorem cut_of {H : Type} {enc : TypeId × Value → H} {w : World} {base b0 : Nat} {r : Reach} {spare : Nat → Bool} {held : Bool} {v : Value} {d : DataW H} {p : List MemPlace}
    (hv : Value.okWide Try.prog w r b0 24 v) (h : DataW.Trod enc Try.prog w base spare held 24 v d p) : ∃ a t, v = .agg #[.int .i64 a, .int .i64 t] ∧ ((Lit.int .i64 a).wf = true ∧ (Lit.int .i64 t).wf = true) := by
  obtain ⟨c0, c1, y0, y1, m, rfl, _, _, hy0, hy1⟩ := open_agg2 Try.underlying24 (by kernel_rfl) Try.cellsCut hv h
  obtain ⟨a, e0, _, wa⟩ := DataW.trod_int Try.underlying3 hy0
  obtain ⟨t, e1, _, wt⟩ := DataW.trod_int Try.underlying3 hy1
  simp only [List.cons.injEq, and_true] at e0 e1
  subst e0 e1
  exact ⟨a, t, rfl, wa, wt⟩
end Go.Proofs.Ytolkofnlihbncaa
