/- A row of texts that came in. -/
import Derived.Test.YtnbefiaeihialaaGreatChg
import Derived.Test.YtnbefiaeihialaaGreatArgs
import Derived.Deep.Strs
import Derived.SizedLaws
set_option linter.unusedVariables false
set_option linter.unusedSimpArgs false
namespace Go.Proofs.YtnbefiaeihialaaGreat
open Go.ChangeShapes Go.WideShapes Go.ChangeAt Go.RowKit Go.Deep
def str (xs : List ByteArray) (j : Nat) : ByteArray := xs.getD j ⟨#[]⟩
structure StrsIn (w : World) (A : Option Addr) (n : Nat) (xs : List ByteArray) : Prop where
  len : xs.length = n
  max : n ≤ 9223372036854775807
  cells : 0 < n → ∃ b off, A = some ⟨b, off, none⟩ ∧ ∀ j, j < n → w.cell? ⟨b, off + j, none⟩ = some (.string (str xs j))
theorem StrsIn.below {w w' : World} {A : Option Addr} {n : Nat} {xs : List ByteArray} (h : StrsIn w A n xs) (hb : Below w.heap.size w w') : StrsIn w' A n xs :=
  ⟨h.len, h.max, fun hn => by
    obtain ⟨b, off, e, hc⟩ := h.cells hn
    refine ⟨b, off, e, fun j hj => ?_⟩
    have q := hc j hj
    exact (hb.cell (p := ⟨b, off + j, none⟩) (World.block_lt_of_cell? _ _ q)).trans q⟩
theorem weightsAll_mem {H : Type} {P : Program} {e : TypeId} {d : DataW H} : ∀ {ds : List (DataW H)}, d ∈ ds → ∀ n ∈ d.weights P e, n ∈ DataW.weightsAll P e ds
  | d0 :: r, hd, n, hn => by
    simp only [DataW.weightsAll, List.mem_append]
    rcases List.mem_cons.1 hd with rfl | hd
    · exact .inl hn
    · exact .inr (weightsAll_mem hd n hn)
theorem strsIn_of {H : Type} {enc : TypeId × Value → H} {w : World} {base : Nat} {spare : Nat → Bool} {held : Bool} {v : Value} {d : DataW H} {p : List MemPlace} {A : Option Addr} {n c : Nat}
    (hv : v = .slice A n c) (h : DataW.Trod enc Tryz.prog w base spare held 58 v d p) :
    ∃ xs, StrsIn w A n xs ∧ ∀ {ts : List TypeId} {ds : List (DataW H)} (_ : (DataW.weightsEach Tryz.prog ts ds).all (· ≤ reachBytes) = true) (j : Nat), ts[j]? = some 58 → ds[j]? = some d → ∀ k, k < n → (str xs k).size ≤ reachBytes := by
  subst hv
  obtain ⟨fuel, hf⟩ := h
  rcases open_strs Tryz.underlying58 Tryz.underlying9 (by kernel_rfl) hf with ⟨hcs, _⟩ | ⟨a, l, c', m, Sx, hcs, _, hl, hm, hmm, hx, hcell⟩
  · simp [Value.cells] at hcs
    obtain ⟨rfl, rfl, rfl⟩ := hcs
    exact ⟨[], ⟨rfl, by omega, fun h => absurd h (by omega)⟩, fun _ _ _ _ k hk => absurd hk (by omega)⟩
  · simp [Value.cells] at hcs
    obtain ⟨rfl, rfl, rfl⟩ := hcs
    have hnm : n ≤ m := by rw [hmm]; split <;> omega
    have hS : ∀ j, j < n → str ((List.range n).map Sx) j = Sx j := fun j hj => by
      unfold str
      rw [List.getD_eq_getElem?_getD, List.getElem?_map, List.getElem?_range hj]
      rfl
    refine ⟨(List.range n).map Sx, ⟨by simp, by simp only [maxLen] at hm; omega, fun h0 => ?_⟩, fun {ts ds} hz j ht hd k hk => ?_⟩
    · have q := (hcell 0 (by omega)).1
      have q' : w.cell? a = some (.string (Sx 0)) := by simpa [Addr.add] using q
      obtain ⟨b, off, rfl⟩ := addr_plain q'
      refine ⟨b, off, rfl, fun j hj => ?_⟩
      rw [hS j hj, ← (hcell j (by omega)).1, plain_add]
    · rw [hS k hk]
      simp only [Prod.mk.injEq] at hx
      rw [hx.1] at hd
      have hk2 : (DataW.lit (.string (Sx k).data.toList) : DataW H) ∈ (List.range n).map fun i => (DataW.lit (.string (Sx i).data.toList) : DataW H) := List.mem_map.2 ⟨k, List.mem_range.2 hk, rfl⟩
      have hw : (Sx k).data.toList.length ∈ DataW.weightsEach Tryz.prog ts ds := by
        refine DataW.weights_mem_each ht hd _ ?_
        simp only [DataW.weights, Tryz.underlying58]
        refine List.mem_cons_of_mem _ (List.mem_append_left _ (weightsAll_mem hk2 _ ?_))
        simp [DataW.weights]
      have := List.all_eq_true.1 hz _ hw
      rw [bsize] at this
      simpa using this
end Go.Proofs.YtnbefiaeihialaaGreat
