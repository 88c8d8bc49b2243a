/- What the walks are told of arguments: how each kind is opened. -/
import Derived.Test.YtnbefiaeihialaaGreatUtil
import Derived.ProofKit
import Derived.OpenShut
import Derived.ShutString
import Derived.ChangeOld
import Derived.Below
import Derived.Deep.Slices
import Derived.Deep.Fields
import Derived.ChangeSame
set_option linter.unusedVariables false
set_option linter.unusedSimpArgs false
namespace Go.Proofs.YtnbefiaeihialaaGreat
open Go.ChangeShapes Go.WideShapes Go.ChangeAt Go.RowKit Go.Deep
open Go.ChangeMaps (open_string shut_string)
section
variable {H : Type} {enc : TypeId × Value → H} {P : Program} {w : World} {base : Nat} {spare : Nat → Bool} {held : Bool}
theorem addr_plain {a : Addr} {v : Value} (h : w.cell? a = some v) : ∃ b off, a = ⟨b, off, none⟩ := by
  obtain ⟨b, off, spot⟩ := a
  have hspot : spot = none := World.cell?_spot h
  subst hspot
  exact ⟨b, off, rfl⟩
theorem plain_add (b off n : Nat) : (⟨b, off, none⟩ : Addr).add n = ⟨b, off + n, none⟩ := Go.WideShapes.add_plain ..
theorem trod_below {t : TypeId} {v : Value} {d : DataW H} {ps : List MemPlace} (h : DataW.Trod enc P w base spare held t v d ps) : ∀ x ∈ ps, x.block < w.heap.size := by
  obtain ⟨m, hm⟩ := h; exact DataW.trod_lt m _ _ _ hm
theorem intsAt_of {t e : TypeId} {v : Value} {d : DataW H} {p : List MemPlace} {A : Option Addr} {n c : Nat} (ht : P.underlying t = some (.slice e)) (he : P.underlying e = some (.int .i64)) (hc : P.cellsOf e = 1)
    (hv : v = .slice A n c) (h : DataW.Trod enc P w base spare held t v d p) : ∃ xs, IntsAt w A n xs := by
  subst hv
  obtain ⟨fuel, hf⟩ := h
  rcases open_ints ht he hc hf with ⟨hcs, _⟩ | ⟨x, l, c', zs, hcs, _, hl, hm, hz, _, hcell, hwz⟩
  · simp [Value.cells] at hcs
    obtain ⟨rfl, rfl, rfl⟩ := hcs
    exact ⟨[], rfl, by omega, fun h => absurd h (by omega)⟩
  · simp [Value.cells] at hcs
    obtain ⟨rfl, rfl, rfl⟩ := hcs
    have hzl : n ≤ zs.length := by rw [hz]; split <;> omega
    refine ⟨zs.take n, by simp; omega, by simp only [maxLen] at hm; omega, fun h => ?_⟩
    obtain ⟨b, off, rfl, hcb⟩ := ints_at hcell (by omega)
    refine ⟨b, off, rfl, fun j hj => ?_⟩
    rw [hcb j (by omega), nth_eq, List.getElem?_take, if_pos hj, List.getD_eq_getElem?_getD]
theorem open_slice_fields {t e : TypeId} {fs : Array Field} {fuel : Nat} {cs : List Value} {x : DataW H × List MemPlace} (ht : P.underlying t = some (.slice e)) (he : P.underlying e = some (.struct fs))
    (hone : oneCellFields P fs = true) (hC : P.cellsOf e = fs.size) (h : DataW.trod enc P w base spare held fuel t cs = some x) :
    (cs = [.slice none 0 0] ∧ x = (.nil, [])) ∨
    ∃ (a : Addr) (len cap m : Nat) (D : Nat → DataW H) (Pl : Nat → List MemPlace), cs = [.slice (some a) len cap] ∧ base ≤ a.block ∧ len ≤ cap ∧ cap ≤ maxLen ∧ m = (if spare a.block then cap else len) ∧
      x = (.slice ((List.range len).map D) ((List.range (m - len)).map fun j => D (len + j)), MemPlace.row a (m * fs.size) ++ (List.range m).flatMap Pl) ∧
      ∀ i, i < m → ∃ (ys : List (DataW H × List MemPlace)) (n : Nat), D i = .agg (ys.map (·.1)) ∧ Pl i = ys.flatMap (·.2) ∧ ys.length = fs.size ∧
        ∀ (j : Nat) (f : Field), fs[j]? = some f → ∃ (v : Value) (y : DataW H × List MemPlace), w.cell? (a.add (i * fs.size + j)) = some v ∧ ys[j]? = some y ∧ DataW.trod enc P w base spare held n f.type [v] = some y := by
  rcases open_slice ht h with h0 | ⟨a, len, cap, m, n, D, Pl, hcs, hb, hl, hm, hmm, hx, hi⟩
  · exact .inl h0
  · refine .inr ⟨a, len, cap, m, D, Pl, hcs, hb, hl, hm, hmm, by rw [hC] at hx; exact hx, fun i him => ?_⟩
    obtain ⟨cs', hc, ht'⟩ := hi i him
    rw [hC] at hc
    obtain ⟨ys, n', hn', hy, hlen, hyl, hf⟩ := DataW.trod_struct he ht'
    obtain ⟨_, hcl, hat⟩ := World.cells?_some hc
    simp only [Prod.mk.injEq] at hy
    refine ⟨ys, n', hy.1, hy.2, hyl, fun j f hj => ?_⟩
    obtain ⟨ho, hk⟩ := hone_of hone j f hj
    have hjl : j < fs.size := (Array.getElem?_eq_some_iff.1 hj).1
    have hcell := hat j hjl
    have hv : cs'[j]? = some (cs'[j]'(by omega)) := List.getElem?_eq_getElem (by omega)
    have h1 := hf j f hj
    rw [ho, hk] at h1
    have hone' : (cs'.drop j).take 1 = [cs'[j]'(by omega)] := by
      rw [List.drop_eq_getElem_cons (by omega)]
      rfl
    rw [hone'] at h1
    have hys : ys[j]? = some (ys[j]'(by omega)) := List.getElem?_eq_getElem (by omega)
    refine ⟨_, _, ?_, hys, h1.trans hys⟩
    rw [← Go.Deep.add_add, hcell, hv]
/-- A slice of structs of one-cell fields: each field's cell, and that it reads. -/
theorem fieldsAt_of {t e : TypeId} {fs : Array Field} {v : Value} {d : DataW H} {p : List MemPlace} {A : Option Addr} {n c : Nat} (ht : P.underlying t = some (.slice e)) (he : P.underlying e = some (.struct fs))
    (hone : oneCellFields P fs = true) (hC : P.cellsOf e = fs.size) (h0 : 0 < fs.size) (hv : v = .slice A n c) (h : DataW.Trod enc P w base spare held t v d p) :
    n ≤ 9223372036854775807 ∧ (0 < n → ∃ b off, A = some ⟨b, off, none⟩ ∧ ∀ i, i < n → ∀ (j : Nat) (f : Field), fs[j]? = some f → ∃ (u : Value) (y : DataW H × List MemPlace) (m : Nat),
      w.cell? ⟨b, off + (i * fs.size + j), none⟩ = some u ∧ DataW.trod enc P w base spare held m f.type [u] = some y) := by
  subst hv
  obtain ⟨fuel, hf⟩ := h
  rcases open_slice_fields ht he hone hC hf with ⟨hcs, _⟩ | ⟨a, len, cap, m, D, Pl, hcs, _, hl, hm, hmm, _, hi⟩
  · simp [Value.cells] at hcs
    obtain ⟨rfl, rfl, rfl⟩ := hcs
    exact ⟨by omega, fun h => absurd h (by omega)⟩
  · simp [Value.cells] at hcs
    obtain ⟨rfl, rfl, rfl⟩ := hcs
    have hnm : n ≤ m := by rw [hmm]; split <;> omega
    refine ⟨by simp only [maxLen] at hm; omega, fun hn => ?_⟩
    obtain ⟨_, _, _, _, _, h00⟩ := hi 0 (by omega)
    obtain ⟨u, y, hc0, _⟩ := h00 0 _ (Array.getElem?_eq_getElem h0)
    rw [Nat.zero_mul] at hc0
    have hc0' : w.cell? a = some u := by simpa [Addr.add] using hc0
    obtain ⟨b, off, rfl⟩ := addr_plain hc0'
    refine ⟨b, off, rfl, fun i hin j f hj => ?_⟩
    obtain ⟨_, m', _, _, _, hF⟩ := hi i (by omega)
    obtain ⟨u, y, hc, _, ht⟩ := hF j f hj
    rw [plain_add] at hc
    exact ⟨u, y, m', hc, ht⟩
/-- A slice of whatever elements: the cells of each, and that it reads. -/
theorem rowsAt_of {t e : TypeId} {v : Value} {d : DataW H} {p : List MemPlace} {A : Option Addr} {n c k : Nat} (ht : P.underlying t = some (.slice e))
    (hC : P.cellsOf e = k) (h0 : 0 < k) (hv : v = .slice A n c) (h : DataW.Trod enc P w base spare held t v d p) :
    n ≤ 9223372036854775807 ∧ (0 < n → ∃ b off, A = some ⟨b, off, none⟩ ∧ ∀ i, i < n → ∃ (cs : List Value) (m : Nat) (y : DataW H × List MemPlace),
      cs.length = k ∧ (∀ j, j < k → w.cell? ⟨b, off + (i * k + j), none⟩ = cs[j]?) ∧ DataW.trod enc P w base spare held m e cs = some y) := by
  subst hv
  obtain ⟨fuel, hf⟩ := h
  rcases open_slice ht hf with ⟨hcs, _⟩ | ⟨a, len, cap, m, n', D, Pl, hcs, _, hl, hm, hmm, _, hi⟩
  · simp [Value.cells] at hcs
    obtain ⟨rfl, rfl, rfl⟩ := hcs
    exact ⟨by omega, fun h => absurd h (by omega)⟩
  · simp [Value.cells] at hcs
    obtain ⟨rfl, rfl, rfl⟩ := hcs
    have hnm : n ≤ m := by rw [hmm]; split <;> omega
    refine ⟨by simp only [maxLen] at hm; omega, fun hn => ?_⟩
    obtain ⟨cs0, hc0, _⟩ := hi 0 (by omega)
    rw [hC] at hc0
    obtain ⟨_, hl0, hat0⟩ := World.cells?_some hc0
    have hq := hat0 0 h0
    rw [List.getElem?_eq_getElem (by omega), Nat.zero_mul] at hq
    have hq' : w.cell? a = some (cs0[0]'(by omega)) := by simpa [Addr.add] using hq
    obtain ⟨b, off, rfl⟩ := addr_plain hq'
    refine ⟨b, off, rfl, fun i hin => ?_⟩
    obtain ⟨cs', hc, ht'⟩ := hi i (by omega)
    rw [hC] at hc
    obtain ⟨_, hcl, hat⟩ := World.cells?_some hc
    refine ⟨cs', n', _, hcl, fun j hj => ?_, ht'⟩
    rw [← hat j hj, plain_add, plain_add, Nat.add_assoc]
/-- Out of 'there is one at each place' a list. -/
theorem list_of {α : Type} (z : α) (n : Nat) (Q : Nat → α → Prop) (h : ∀ i, i < n → ∃ x, Q i x) : ∃ xs : List α, xs.length = n ∧ ∀ i, i < n → Q i (xs.getD i z) := by
  induction n with
  | zero => exact ⟨[], rfl, fun i hi => absurd hi (by omega)⟩
  | succ n ih =>
    obtain ⟨xs, hl, hq⟩ := ih fun i hi => h i (by omega)
    obtain ⟨x, hx⟩ := h n (by omega)
    refine ⟨xs ++ [x], by simp [hl], fun i hi => ?_⟩
    rw [List.getD_eq_getElem?_getD, List.getElem?_append]
    by_cases e : i < n
    · rw [if_pos (by omega), ← List.getD_eq_getElem?_getD]; exact hq i e
    · rw [if_neg (by omega), show i - xs.length = 0 by omega]
      simpa [show i = n by omega] using hx
end
end Go.Proofs.YtnbefiaeihialaaGreat
