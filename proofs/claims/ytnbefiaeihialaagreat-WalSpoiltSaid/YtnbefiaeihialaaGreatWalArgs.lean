/- What the log's laws' arguments are. -/
import Derived.Test.YtnbefiaeihialaaGreatWalAd
import Derived.Test.YtnbefiaeihialaaGreatArgs
import Derived.Lib.SmallJoins
import Derived.SizedLaws
set_option linter.unusedVariables false
set_option linter.unusedSimpArgs false
namespace Go.Proofs.YtnbefiaeihialaaGreat
open Go.ChangeShapes Go.WideShapes Go.ChangeAt Go.RowKit Go.Deep Go.Joins
set_option maxRecDepth 100000 in
theorem chsIn_of {H : Type} {enc : TypeId × Value → H} {w : World} {base : Nat} {spare : Nat → Bool} {held : Bool} {v : Value} {d : DataW H} {p : List MemPlace} {A : Option Addr} {n c : Nat}
    (hv : v = .slice A n c) (h : DataW.Trod enc Tryz.prog w base spare held 22 v d p) : ∃ xs, ChsIn w A n xs := by
  obtain ⟨hm, hc⟩ := rowsAt_of (k := 3) Tryz.underlying22 (by kernel_rfl) (by decide) hv h
  by_cases h0 : 0 < n
  · obtain ⟨b, off, e, hF⟩ := hc h0
    obtain ⟨xs, hl, hq⟩ := list_of (⟨⟨#[]⟩, ⟨#[]⟩, false⟩ : Ch) n (fun j x => w.cell? ⟨b, off + j * 3, none⟩ = some (.string x.key) ∧ w.cell? ⟨b, off + j * 3 + 1, none⟩ = some (.string x.val) ∧ w.cell? ⟨b, off + j * 3 + 2, none⟩ = some (.bool x.gone)) (fun i hi => by
      obtain ⟨cs, m, y, hl, hcell, ht⟩ := hF i hi
      match cs, hl with
      | [c0, c1, c2], _ =>
        obtain ⟨ys, n', _, _, _, hys, hf⟩ := DataW.trod_struct Tryz.underlying25 ht
        match ys, hys with
        | [y0, y1, y2], _ =>
          have t0 : DataW.trod enc Tryz.prog w base spare held n' 9 [c0] = some y0 := hf 0 _ rfl
          have t1 : DataW.trod enc Tryz.prog w base spare held n' 9 [c1] = some y1 := hf 1 _ rfl
          have t2 : DataW.trod enc Tryz.prog w base spare held n' 4 [c2] = some y2 := hf 2 _ rfl
          obtain ⟨k, e0, _, _⟩ := DataW.trod_string Tryz.underlying9 t0
          obtain ⟨l, e1, _, _⟩ := DataW.trod_string Tryz.underlying9 t1
          obtain ⟨s, e2, _⟩ := DataW.trod_bool Tryz.underlying4 t2
          simp only [List.cons.injEq, and_true] at e0 e1 e2
          subst e0 e1 e2
          exact ⟨⟨k, l, s⟩, hcell 0 (by decide), hcell 1 (by decide), hcell 2 (by decide)⟩)
    exact ⟨xs, hl, hm, fun _ => ⟨b, off, e, fun j hj => hq j hj⟩⟩
  · exact ⟨[], by simp; omega, hm, fun h => absurd h h0⟩
theorem chs_cell {H : Type} {enc : TypeId × Value → H} {w : World} {base : Nat} {spare : Nat → Bool} {held : Bool} {c0 : Value} {y : DataW H × List MemPlace} {fuel : Nat}
    (hf : DataW.trod enc Tryz.prog w base spare held fuel 22 [c0] = some y) : ∃ A n c xs, c0 = .slice A n c ∧ ChsIn w A n xs := by
  rcases open_slice Tryz.underlying22 hf with ⟨hcs, hx⟩ | ⟨a, len, cap, m, n', D, Pl, hcs, _⟩
  · simp only [List.cons.injEq, and_true] at hcs
    exact ⟨none, 0, 0, [], hcs, ⟨rfl, by omega, fun h => absurd h (by omega)⟩⟩
  · simp only [List.cons.injEq, and_true] at hcs
    subst hcs
    obtain ⟨xs, hx⟩ := chsIn_of (v := .slice (some a) len cap) (d := y.1) (p := y.2) rfl ⟨fuel, by simpa [Value.cells] using hf⟩
    exact ⟨_, _, _, xs, rfl, hx⟩
/-- Rows of rows, but for their number. -/
structure RowsAt (w : World) (A : Option Addr) (n : Nat) (rows : List (List Ch)) : Prop where
  len : rows.length = n
  cells : 0 < n → ∃ b off, A = some ⟨b, off, none⟩ ∧ ∀ j, j < n → ∃ Aj cj, w.cell? ⟨b, off + j, none⟩ = some (.slice Aj (row rows j).length cj) ∧ ChsIn w Aj (row rows j).length (row rows j)
theorem RowsAt.in_ {w : World} {A : Option Addr} {n : Nat} {rows : List (List Ch)} (h : RowsAt w A n rows) (hn : n ≤ 140737488355328) : RowsIn w A n rows := ⟨h.len, hn, h.cells⟩
set_option maxRecDepth 100000 in
theorem rows_of {H : Type} {enc : TypeId × Value → H} {w : World} {base : Nat} {spare : Nat → Bool} {held : Bool} {v : Value} {d : DataW H} {p : List MemPlace} {A : Option Addr} {n c : Nat}
    (hv : v = .slice A n c) (h : DataW.Trod enc Tryz.prog w base spare held 39 v d p) :
    ∃ rows, RowsAt w A n rows ∧ ∀ {ts : List TypeId} {ds : List (DataW H)} (_ : (DataW.weightsEach Tryz.prog ts ds).all (· ≤ reachBytes) = true) (j : Nat), ts[j]? = some 39 → ds[j]? = some d → n ≤ 140737488355328 := by
  have h2 := h
  obtain ⟨hm, hc⟩ := rowsAt_of (k := 1) Tryz.underlying39 (by kernel_rfl) (by decide) hv h
  have hrows : ∃ rows, RowsAt w A n rows := by
    by_cases h0 : 0 < n
    · obtain ⟨b, off, e, hF⟩ := hc h0
      obtain ⟨xs, hl, hq⟩ := list_of ([] : List Ch) n (fun j x => ∃ Aj cj, w.cell? ⟨b, off + j, none⟩ = some (.slice Aj x.length cj) ∧ ChsIn w Aj x.length x) (fun i hi => by
        obtain ⟨cs, m, y, hl, hcell, ht⟩ := hF i hi
        match cs, hl with
        | [c0], _ =>
          obtain ⟨Aj, nj, cj, x, rfl, hx⟩ := chs_cell ht
          have hn := hx.len
          subst hn
          exact ⟨x, Aj, cj, by have := hcell 0 (by decide); simpa using this, hx⟩)
      exact ⟨xs, hl, fun _ => ⟨b, off, e, fun j hj => hq j hj⟩⟩
    · exact ⟨[], by simp; omega, fun h => absurd h h0⟩
  obtain ⟨rows, hr⟩ := hrows
  refine ⟨rows, hr, fun {ts ds} hz j ht hd => ?_⟩
  subst hv
  obtain ⟨fuel, hf⟩ := h2
  rcases open_slice Tryz.underlying39 hf with ⟨hcs, _⟩ | ⟨a, len, cap, m, n', D, Pl, hcs, _, hl, hmx, hmm, hx, _⟩
  · simp [Value.cells] at hcs
    omega
  · simp [Value.cells] at hcs
    obtain ⟨rfl, rfl, rfl⟩ := hcs
    simp only [Prod.mk.injEq] at hx
    rw [hx.1] at hd
    have hw : (((List.range n).map D).length + ((List.range (m - n)).map fun j => D (n + j)).length) * Tryz.prog.bytesOf 22 ∈ DataW.weightsEach Tryz.prog ts ds := by
      refine DataW.weights_mem_each ht hd _ ?_
      simp only [DataW.weights, Tryz.underlying39]
      exact List.mem_cons_self
    have h5 := List.all_eq_true.1 hz _ hw
    have h6 : Tryz.prog.bytesOf 22 = 24 := by kernel_rfl
    rw [h6] at h5
    simp only [decide_eq_true_eq, List.length_map, List.length_range] at h5
    unfold reachBytes at h5
    omega
end Go.Proofs.YtnbefiaeihialaaGreat
