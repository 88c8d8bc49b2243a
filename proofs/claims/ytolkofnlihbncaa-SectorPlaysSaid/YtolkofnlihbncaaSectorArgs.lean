/- What the sector laws' arguments are. -/
import Derived.Test.YtolkofnlihbncaaSectorF
import Derived.Test.YtolkofnlihbncaaArgs
import Derived.Lib.SmallJoins
set_option linter.unusedVariables false
set_option linter.unusedSimpArgs false
namespace Go.Proofs.Ytolkofnlihbncaa
open Go.ChangeShapes Go.WideShapes Go.ChangeAt Go.RowKit Go.Deep Go.Joins
theorem Try.cellsCut : Try.prog.cellsOf 24 = 2 := by kernel_rfl
theorem cut_of {H : Type} {enc : TypeId × Value → H} {w : World} {base b0 : Nat} {r : Reach} {spare : Nat → Bool} {held : Bool} {v : Value} {d : DataW H} {p : List MemPlace}
    (hv : Value.okWide Try.prog w r b0 24 v) (h : DataW.Trod enc Try.prog w base spare held 24 v d p) : ∃ a t, v = .agg #[.int .i64 a, .int .i64 t] ∧ ((Lit.int .i64 a).wf = true ∧ (Lit.int .i64 t).wf = true) := by
  obtain ⟨c0, c1, y0, y1, m, rfl, _, _, hy0, hy1⟩ := open_agg2 Try.underlying24 (by kernel_rfl) Try.cellsCut hv h
  obtain ⟨a, e0, _, wa⟩ := DataW.trod_int Try.underlying3 hy0
  obtain ⟨t, e1, _, wt⟩ := DataW.trod_int Try.underlying3 hy1
  simp only [List.cons.injEq, and_true] at e0 e1
  subst e0 e1
  exact ⟨a, t, rfl, wa, wt⟩
theorem actsAt_of {H : Type} {enc : TypeId × Value → H} {w : World} {base : Nat} {spare : Nat → Bool} {held : Bool} {v : Value} {d : DataW H} {p : List MemPlace} {A : Option Addr} {n c : Nat}
    (hv : v = .slice A n c) (h : DataW.Trod enc Try.prog w base spare held 22 v d p) : ∃ xs, ActsAt w A n xs := by
  obtain ⟨hm, hc⟩ := rowsAt_of (k := 5) Try.underlying22 (by kernel_rfl) (by decide) hv h
  by_cases h0 : 0 < n
  · obtain ⟨b, off, e, hF⟩ := hc h0
    obtain ⟨xs, hl, hq⟩ := list_of (⟨0, 0, ⟨#[]⟩, 0, 0⟩ : Act) n (fun j x => x.Ok ∧ w.cell? ⟨b, off + j * 5, none⟩ = some (.int .i64 x.kind) ∧ w.cell? ⟨b, off + j * 5 + 1, none⟩ = some (.int .i64 x.at_) ∧ w.cell? ⟨b, off + j * 5 + 2, none⟩ = some (.string x.data) ∧
        w.cell? ⟨b, off + j * 5 + 3, none⟩ = some (.int .i64 x.ca) ∧ w.cell? ⟨b, off + j * 5 + 4, none⟩ = some (.int .i64 x.ct)) (fun i hi => by
      obtain ⟨cs, m, y, hl, hcell, ht⟩ := hF i hi
      match cs, hl with
      | [c0, c1, c2, c3, c4], _ =>
        obtain ⟨ys, n', _, _, _, hys, hf⟩ := DataW.trod_struct Try.underlying36 ht
        match ys, hys with
        | [y0, y1, y2, y3], _ =>
          have t0 : DataW.trod enc Try.prog w base spare held n' 3 [c0] = some y0 := hf 0 _ rfl
          have t1 : DataW.trod enc Try.prog w base spare held n' 3 [c1] = some y1 := hf 1 _ rfl
          have t2 : DataW.trod enc Try.prog w base spare held n' 9 [c2] = some y2 := hf 2 _ rfl
          have t3 : DataW.trod enc Try.prog w base spare held n' 24 [c3, c4] = some y3 := hf 3 _ rfl
          obtain ⟨zs, n2, _, _, _, hzs, hg⟩ := DataW.trod_struct Try.underlying24 t3
          match zs, hzs with
          | [z0, z1], _ =>
            have u0 : DataW.trod enc Try.prog w base spare held n2 3 [c3] = some z0 := hg 0 _ rfl
            have u1 : DataW.trod enc Try.prog w base spare held n2 3 [c4] = some z1 := hg 1 _ rfl
            obtain ⟨k, e0, _, _⟩ := DataW.trod_int Try.underlying3 t0
            obtain ⟨l, e1, _, _⟩ := DataW.trod_int Try.underlying3 t1
            obtain ⟨s, e2, _, ws⟩ := DataW.trod_string Try.underlying9 t2
            obtain ⟨a, e3, _, wa⟩ := DataW.trod_int Try.underlying3 u0
            obtain ⟨t, e4, _, wt⟩ := DataW.trod_int Try.underlying3 u1
            simp only [List.cons.injEq, and_true] at e0 e1 e2 e3 e4
            subst e0 e1 e2 e3 e4
            exact ⟨⟨k, l, s, a, t⟩, ⟨by simp only [maxLen] at ws; exact ws, wa, wt⟩, hcell 0 (by decide), hcell 1 (by decide), hcell 2 (by decide), hcell 3 (by decide), hcell 4 (by decide)⟩)
    exact ⟨xs, hl, hm, fun _ => ⟨b, off, e, fun j hj => hq j hj⟩⟩
  · exact ⟨[], by simp; omega, hm, fun h => absurd h h0⟩

end Go.Proofs.Ytolkofnlihbncaa
