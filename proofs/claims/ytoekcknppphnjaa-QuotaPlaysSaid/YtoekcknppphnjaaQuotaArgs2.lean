/- A slice of numbers, opened: a nil one has no room. -/
import Derived.Test.YtoekcknppphnjaaArgs
set_option linter.unusedVariables false
set_option linter.unusedSimpArgs false
namespace Go.Proofs.Ytoekcknppphnjaa
open Go.ChangeShapes Go.WideShapes Go.ChangeAt Go.RowKit Go.Deep
theorem intsAtC_of {H : Type} {enc : TypeId × Value → H} {P : Program} {w : World} {base : Nat} {spare : Nat → Bool} {held : Bool} {t e : TypeId} {v : Value} {d : DataW H} {p : List MemPlace} {A : Option Addr} {n c : Nat} (ht : P.underlying t = some (.slice e)) (he : P.underlying e = some (.int .i64)) (hc : P.cellsOf e = 1)
    (hv : v = .slice A n c) (h : DataW.Trod enc P w base spare held t v d p) : ∃ xs, IntsAt w A n xs ∧ (A = none → n = 0 ∧ c = 0) := by
  obtain ⟨xs, hx⟩ := intsAt_of ht he hc hv h
  refine ⟨xs, hx, fun hA => ?_⟩
  subst hv
  obtain ⟨fuel, hf⟩ := h
  rcases open_ints ht he hc hf with ⟨hcs, _⟩ | ⟨x, l, c', zs, hcs, _⟩
  · simp [Value.cells] at hcs
    exact ⟨hcs.2.1, hcs.2.2⟩
  · simp [Value.cells] at hcs
    rw [hA] at hcs
    cases hcs.1
end Go.Proofs.Ytoekcknppphnjaa
