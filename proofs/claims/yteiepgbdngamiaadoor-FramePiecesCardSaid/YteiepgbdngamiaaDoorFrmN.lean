/- Package frame's law folder: a row of texts; few. -/
import Derived.Test.YteiepgbdngamiaaDoorFrmM
import Derived.Test.YteiepgbdngamiaaDoorArgs
import Derived.Deep.Strs
import Derived.SizedLaws
set_option linter.unusedVariables false
set_option linter.unusedSimpArgs false
namespace Go.Proofs.YteiepgbdngamiaaDoor
open Go.ChangeShapes Go.WideShapes Go.ChangeAt Go.RowKit Go.Deep
def str (xs : List ByteArray) (j : Nat) : ByteArray := xs.getD j ⟨#[]⟩
structure StrsIn (w : World) (A : Option Addr) (n : Nat) (xs : List ByteArray) : Prop where
  len : xs.length = n
  max : n ≤ 9223372036854775807
  cells : 0 < n → ∃ b off, A = some ⟨b, off, none⟩ ∧ ∀ j, j < n → w.cell? ⟨b, off + j, none⟩ = some (.string (str xs j))
theorem StrsIn.below {w w' : World} {A : Option Addr} {n : Nat} {xs : List ByteArray} (h : StrsIn w A n xs) (hb : Below w.heap.size w w') : StrsIn w' A n xs :=
  ⟨h.len, h.max, fun hn => by
    obtain ⟨b, off, e, hc⟩ := h.cells hn
    refine ⟨b, off, e, fun j hj => ?_⟩
    have q := hc j hj
    exact (hb.cell (p := ⟨b, off + j, none⟩) (World.block_lt_of_cell? _ _ q)).trans q⟩
theorem weightsAll_mem {H : Type} {P : Program} {e : TypeId} {d : DataW H} : ∀ {ds : List (DataW H)}, d ∈ ds → ∀ n ∈ d.weights P e, n ∈ DataW.weightsAll P e ds
  | d0 :: r, hd, n, hn => by
    simp only [DataW.weightsAll, List.mem_append]
    rcases List.mem_cons.1 hd with rfl | hd
    · exact .inl hn
    · exact .inr (weightsAll_mem hd n hn)
theorem strsIn_of {H : Type} {enc : TypeId × Value → H} {w : World} {base : Nat} {spare : Nat → Bool} {held : Bool} {v : Value} {d : DataW H} {p : List MemPlace} {A : Option Addr} {n c : Nat}
    (hv : v = .slice A n c) (h : DataW.Trod enc Tryd.prog w base spare held 22 v d p) :
    ∃ xs, StrsIn w A n xs ∧ ∀ {ts : List TypeId} {ds : List (DataW H)} (_ : (DataW.weightsEach Tryd.prog ts ds).all (· ≤ reachBytes) = true) (j : Nat), ts[j]? = some 22 → ds[j]? = some d → ∀ k, k < n → (str xs k).size ≤ reachBytes := by
  subst hv
  obtain ⟨fuel, hf⟩ := h
  rcases open_strs Tryd.underlying22 Tryd.underlying9 (by kernel_rfl) hf with ⟨hcs, _⟩ | ⟨a, l, c', m, Sx, hcs, _, hl, hm, hmm, hx, hcell⟩
  · simp [Value.cells] at hcs
    obtain ⟨rfl, rfl, rfl⟩ := hcs
    exact ⟨[], ⟨rfl, by omega, fun h => absurd h (by omega)⟩, fun _ _ _ _ k hk => absurd hk (by omega)⟩
  · simp [Value.cells] at hcs
    obtain ⟨rfl, rfl, rfl⟩ := hcs
    have hnm : n ≤ m := by rw [hmm]; split <;> omega
    have hS : ∀ j, j < n → str ((List.range n).map Sx) j = Sx j := fun j hj => by
      unfold str
      rw [List.getD_eq_getElem?_getD, List.getElem?_map, List.getElem?_range hj]
      rfl
    refine ⟨(List.range n).map Sx, ⟨by simp, by simp only [maxLen] at hm; omega, fun h0 => ?_⟩, fun {ts ds} hz j ht hd k hk => ?_⟩
    · have q := (hcell 0 (by omega)).1
      have q' : w.cell? a = some (.string (Sx 0)) := by simpa [Addr.add] using q
      obtain ⟨b, off, rfl⟩ := addr_plain q'
      refine ⟨b, off, rfl, fun j hj => ?_⟩
      rw [hS j hj, ← (hcell j (by omega)).1, plain_add]
    · rw [hS k hk]
      simp only [Prod.mk.injEq] at hx
      rw [hx.1] at hd
      have hk2 : (DataW.lit (.string (Sx k).data.toList) : DataW H) ∈ (List.range n).map fun i => (DataW.lit (.string (Sx i).data.toList) : DataW H) := List.mem_map.2 ⟨k, List.mem_range.2 hk, rfl⟩
      have hw : (Sx k).data.toList.length ∈ DataW.weightsEach Tryd.prog ts ds := by
        refine DataW.weights_mem_each ht hd _ ?_
        simp only [DataW.weights, Tryd.underlying22]
        refine List.mem_cons_of_mem _ (List.mem_append_left _ (weightsAll_mem hk2 _ ?_))
        simp [DataW.weights]
      have := List.all_eq_true.1 hz _ hw
      rw [bsize] at this
      simpa using this
/-- The bytes of the first j texts, and one for each. -/
def tot (xs : List ByteArray) : Nat → Nat
  | 0 => 0
  | j + 1 => tot xs j + 1 + (str xs j).size
theorem tot_mono (xs : List ByteArray) {i j : Nat} (h : i ≤ j) : tot xs i ≤ tot xs j := by
  induction h with
  | refl => exact Nat.le_refl _
  | step _ ih => exact Nat.le_trans ih (by show tot xs _ ≤ tot xs _ + 1 + _; omega)
theorem tot_succ (xs : List ByteArray) (j : Nat) : tot xs (j + 1) = tot xs j + 1 + (str xs j).size := rfl
def FewPost (xs : List ByteArray) (n : Nat) (w : World) (e : Ending) (w' : World) : Prop := (∃ b, e = .returned (.bool b) ∧ (b = true → n ≤ 100 ∧ tot xs n ≤ 6000)) ∧ w = w'
set_option maxRecDepth 100000 in
set_option maxHeartbeats 400000 in
theorem few_any (A : Option Addr) (n c : Nat) (xs : List ByteArray) (w : World) (h : StrsIn w A n xs) (hz : ∀ k, k < n → (str xs k).size ≤ reachBytes) :
    Calls Tryd.prog 10 #[.slice A n c] w (FewPost xs n w) := by
  obtain ⟨hl, hm, hc⟩ := h
  have HC := Lib.hid hc
  have HZ := Lib.hid hz
  clear hl hc hz
  go_enter Tryd.func10, Tryd.ntmps10
  go_wp2
  go_loop [3, 4] (fun s i => ∃ j : Nat, j ≤ n ∧ j ≤ 100 ∧ tot xs j ≤ 6000 ∧ s = .int .i64 (tot xs j) ∧ i = .int .i64 j) (fun _ i => n - (intOf i).toNat)
  case atStart => exact ⟨0, Nat.zero_le _, by decide, Nat.zero_le _, rfl, rfl⟩
  case round =>
    obtain ⟨j, hj, hj3, hj4, rfl, rfl⟩ := hrel
    have hj0 : (0 : Int) ≤ (j : Int) := by omega
    by_cases hlt : j < n
    · obtain ⟨b, off, rfl, hcs⟩ := HC.out (by omega)
      have q := hcs j hlt
      have hz := HZ.out j hlt
      have hj2 : (j : Int) < (n : Int) := by omega
      have ht := tot_succ xs j
      clear hcs
      generalize str xs j = x at *
      generalize tot xs j = tj at *
      unfold reachBytes at hz
      rcases (show 100 ≤ j ∨ (j < 100 ∧ 6000 < tj + 1 + x.size) ∨ (j < 100 ∧ tj + 1 + x.size ≤ 6000) by omega) with hh | ⟨h1, h2⟩ | ⟨h1, h2⟩
      · have hh' : (100 : Int) ≤ (j : Int) := by omega
        clear ht
        go_wp2
        go_ret
        exact ⟨⟨false, rfl, by intro h; cases h⟩, rfl⟩
      · have h1' : (j : Int) < 100 := by omega
        have h2' : (6000 : Int) < (tj : Int) + 1 + (x.size : Int) := by omega
        clear ht
        go_wp2
        go_ret
        exact ⟨⟨false, rfl, by intro h; cases h⟩, rfl⟩
      · have h1' : (j : Int) < 100 := by omega
        have h2' : (tj : Int) + 1 + (x.size : Int) ≤ 6000 := by omega
        have HT := Lib.hid ht
        clear ht
        go_wp2
        go_round
        case rel => exact ⟨j + 1, by omega, by omega, by rw [HT.out]; omega, by rw [HT.out]; go_num, by go_num⟩
        case measure => simp [intOf]; omega
    · obtain rfl : j = n := by omega
      go_wp2
      go_ret
      exact ⟨⟨true, rfl, fun _ => ⟨hj3, hj4⟩⟩, rfl⟩
end Go.Proofs.YteiepgbdngamiaaDoor
