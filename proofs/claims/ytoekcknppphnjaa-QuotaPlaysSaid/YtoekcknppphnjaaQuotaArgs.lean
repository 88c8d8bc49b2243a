/- A row of acts, opened. -/
import Derived.Test.YtoekcknppphnjaaQuotaF
import Derived.Test.YtoekcknppphnjaaArgs
set_option linter.unusedVariables false
set_option linter.unusedSimpArgs false
namespace Go.Proofs.Ytoekcknppphnjaa
open Go.ChangeShapes Go.WideShapes Go.ChangeAt Go.RowKit Go.Deep
theorem actsAt_of {H : Type} {enc : TypeId × Value → H} {w : World} {base : Nat} {spare : Nat → Bool} {held : Bool} {v : Value} {d : DataW H} {p : List MemPlace} {A : Option Addr} {n c : Nat}
    (hv : v = .slice A n c) (h : DataW.Trod enc Try.prog w base spare held 23 v d p) : ∃ xs, ActsAt w A n xs := by
  obtain ⟨hm, hc⟩ := fieldsAt_of Try.underlying23 Try.underlying34 (by kernel_rfl) (by kernel_rfl) (by decide) hv h
  by_cases h0 : 0 < n
  · obtain ⟨b, off, e, hF⟩ := hc h0
    obtain ⟨xs, hl, hq⟩ := list_of (⟨0, 0, 0⟩ : Act) n (fun j x => x.Ok ∧ w.cell? ⟨b, off + j * 3, none⟩ = some (.int .i64 x.kind) ∧ w.cell? ⟨b, off + j * 3 + 1, none⟩ = some (.int .i64 x.level) ∧ w.cell? ⟨b, off + j * 3 + 2, none⟩ = some (.int .i64 x.n)) (fun i hi => by
      obtain ⟨u0, y0, m0, c0, t0⟩ := hF i hi 0 _ rfl
      obtain ⟨u1, y1, m1, c1, t1⟩ := hF i hi 1 _ rfl
      obtain ⟨u2, y2, m2, c2, t2⟩ := hF i hi 2 _ rfl
      obtain ⟨k, e0, _, wk⟩ := DataW.trod_int Try.underlying3 t0
      obtain ⟨l, e1, _, wl⟩ := DataW.trod_int Try.underlying3 t1
      obtain ⟨m, e2, _, wm⟩ := DataW.trod_int Try.underlying3 t2
      simp only [List.cons.injEq, and_true] at e0 e1 e2
      subst e0 e1 e2
      exact ⟨⟨k, l, m⟩, ⟨wk, wl, wm⟩, c0, c1, c2⟩)
    exact ⟨xs, hl, hm, fun _ => ⟨b, off, e, fun j hj => hq j hj⟩⟩
  · exact ⟨[], by simp; omega, hm, fun h => absurd h h0⟩
end Go.Proofs.Ytoekcknppphnjaa
