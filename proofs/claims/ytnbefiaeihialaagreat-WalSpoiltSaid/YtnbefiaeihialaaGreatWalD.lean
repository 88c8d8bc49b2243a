/- A store on a disk, in plain words: what Commit lays, what Open finds. -/
import Derived.Test.YtnbefiaeihialaaGreatSecP
set_option linter.unusedVariables false
set_option linter.unusedSimpArgs false
namespace Go.Proofs.YtnbefiaeihialaaGreat
/-- A store: its part of the disk, the half that it uses, its numbers, its pairs. -/
structure St where
  from_ : Nat
  half : Nat
  side : Nat
  gen : Nat
  next : Nat
  free : Nat
  M : List Pr
/-- A half's sectors. -/
def rdS (k : Dk) (from_ half side i : Nat) : Bs := sec k (from_ + side * half + i)
/-- What lay writes. -/
def layW (first half at_ : Nat) (b : Bs) : List (Nat × Bs) :=
  (if at_ + secN b.length < half then [(first + secN b.length, [])] else []) ++ (List.range (secN b.length)).reverse.map fun i => (first + i, chunk b i)
def whole (M : List Pr) : Bs := prT (M.map prOf)
/-- What Commit writes, and the store behind; none: it is full. -/
def planF (sha : Bs → Bs) (st : St) (l : List Ch) : Option (List (Nat × Bs) × St) :=
  if st.free + secN (46 + (prT l).length) ≤ st.half then
    some (layW (st.from_ + st.side * st.half + st.free) st.half st.free (recF sha st.gen st.next (prT l)), { st with next := st.next + 1, free := st.free + secN (46 + (prT l).length), M := appM st.M l })
  else if st.half < secN (46 + (whole (appM st.M l)).length) then none
  else some ((st.from_ + (1 - st.side) * st.half, []) :: layW (st.from_ + (1 - st.side) * st.half + 0) st.half 0 (recF sha (st.gen + 1) 0 (whole (appM st.M l))), { st with side := 1 - st.side, gen := st.gen + 1, next := 1, free := secN (46 + (whole (appM st.M l)).length), M := appM st.M l })
/-- The records that lie in a half, from its first sector on. -/
inductive Chain (sha : Bs → Bs) (rd : Nat → Bs) (half g : Nat) : Nat → Nat → List Pr → Prop
  | zero : Chain sha rd half g 0 0 []
  | step {f n : Nat} {M : List Pr} {t : Bs} {l : List Ch} : Chain sha rd half g f n M → findF sha rd half f = some (g, n, t) → paT t = some l → Chain sha rd half g (f + secN (46 + t.length)) (n + 1) (appM M l)
/-- A store that lies on its disk: c bounds its numbers. -/
structure Good (sha : Bs → Bs) (k : Dk) (m c : Nat) (st : St) : Prop where
  still : Still k m
  side : st.side ≤ 1
  half : 2 ≤ st.half
  area : st.from_ + 2 * st.half ≤ k.n
  gen : 1 ≤ st.gen ∧ st.gen ≤ c
  next : 1 ≤ st.next ∧ st.next ≤ c
  srt : Srt st.M
  mok : MOk st.M
  sz : secN (46 + szM st.M) ≤ st.free
  free : st.free ≤ st.half
  chain : Chain sha (rdS k st.from_ st.half st.side) st.half st.gen st.free st.next st.M
  stop : findF sha (rdS k st.from_ st.half st.side) st.half st.free = none
  other : ∀ g n t, findF sha (rdS k st.from_ st.half (1 - st.side)) st.half 0 = some (g, n, t) → n = 0 → g < st.gen
theorem sec_len2 {k : Dk} (h : k.Ok) {i : Nat} (hi : i < k.n) : (sec k i).length = 64 := sec_len h hi
theorem rdS_len {sha : Bs → Bs} {k : Dk} {m c : Nat} {st : St} (h : Good sha k m c st) {s i : Nat} (hs : s ≤ 1) (hi : i < st.half) : (rdS k st.from_ st.half s i).length = 64 := by
  have h1 := h.area
  have h2 : s * st.half ≤ 1 * st.half := Nat.mul_le_mul_right _ hs
  exact sec_len h.still.ok (by omega)
/-- A record needs but its own sectors. -/
theorem find_fit {sha : Bs → Bs} {rd : Nat → Bs} {half a g n : Nat} {t : Bs} (hr : ∀ i, i < half → (rd i).length = 64) (h : findF sha rd half a = some (g, n, t)) : t.length = lenF (rd a) ∧ a + secN (46 + t.length) ≤ half := by
  have e : findF sha rd half a = findF sha (fun i => if i < half then rd i else List.replicate 64 0) half a := by
    unfold findF
    by_cases h1 : half ≤ a
    · rw [if_pos h1, if_pos h1]
    · rw [if_neg h1, if_neg h1]
      have e0 : (fun i => if i < half then rd i else List.replicate 64 0) a = rd a := by show (if a < half then _ else _) = _; rw [if_pos (by omega)]
      rw [e0]
      by_cases h2 : half < a + secN (46 + lenF (rd a))
      · rw [if_pos h2, if_pos h2]
      · rw [if_neg h2, if_neg h2]
        have ej : joinR (fun i => if i < half then rd i else List.replicate 64 0) a (secN (46 + lenF (rd a))) = joinR rd a (secN (46 + lenF (rd a))) := joinR_congr _ (fun i hi => by show (if a + i < half then _ else _) = _; rw [if_pos (by omega)])
        rw [ej]
  rw [e] at h
  have h2 := find_sec (fun i => by
    show (if i < half then rd i else List.replicate 64 0).length = 64
    by_cases h1 : i < half
    · rw [if_pos h1]; exact hr i h1
    · rw [if_neg h1]; simp) h
  have ha : a < half := by have := secN_pos (46 + t.length); omega
  rw [if_pos ha] at h2
  exact h2
theorem Chain.le {sha : Bs → Bs} {rd : Nat → Bs} {half g f n : Nat} {M : List Pr} (hr : ∀ i, i < half → (rd i).length = 64) (h : Chain sha rd half g f n M) : f ≤ half := by
  induction h with
  | zero => exact Nat.zero_le _
  | step h1 h2 h3 ih => exact (find_fit hr h2).2
/-- What lies ahead of a sector stays where that sector and what is behind it turns. -/
theorem Chain.keep {sha : Bs → Bs} {rd rd' : Nat → Bs} {half g f n : Nat} {M : List Pr} (hr : ∀ i, i < half → (rd i).length = 64) (h : Chain sha rd half g f n M) (hk : ∀ i, i < f → rd' i = rd i) : Chain sha rd' half g f n M := by
  induction h with
  | zero => exact .zero
  | @step f n M t l h1 h2 h3 ih =>
    have hp := secN_pos (46 + t.length)
    obtain ⟨e1, e2⟩ := find_fit hr h2
    have e3 : findF sha rd' half f = findF sha rd half f := by
      symm
      refine find_congr (hk f (by omega)).symm (fun i hi hh => ?_)
      rw [← e1] at hi
      exact (hk (f + i) (by omega)).symm
    exact .step (ih (fun i hi => hk i (by omega))) (e3.trans h2) h3
/-! What lay leaves. -/
theorem layW_in {first half at_ : Nat} {b : Bs} {n : Nat} (hf : first + (half - at_) ≤ n) (hat : at_ + secN b.length ≤ half) : ∀ p ∈ layW first half at_ b, p.1 < n ∧ p.2.length ≤ 64 := by
  intro p hp
  unfold layW at hp
  rcases List.mem_append.1 hp with h | h
  · split at h
    · rw [List.mem_singleton.1 h]; exact ⟨by show first + secN b.length < n; omega, by simp⟩
    · cases h
  · obtain ⟨i, hi, rfl⟩ := List.mem_map.1 h
    have hi2 : i < secN b.length := List.mem_range.1 (List.mem_reverse.1 hi)
    exact ⟨by show first + i < n; omega, chunk_len _ _⟩
theorem lastW_lay (first : Nat) (b : Bs) (x : Bs) : ∀ (q i : Nat), i < q → lastW ((List.range q).reverse.map fun i => (first + i, chunk b i)) (first + i) x = pad (chunk b i) := by
  intro q
  induction q generalizing x with
  | zero => intro i hi; omega
  | succ q ih =>
    intro i hi
    have e : ((List.range (q + 1)).reverse.map fun i => (first + i, chunk b i)) = (first + q, chunk b q) :: ((List.range q).reverse.map fun i => (first + i, chunk b i)) := by
      rw [List.range_succ, List.reverse_append]; rfl
    rw [e]
    unfold lastW
    by_cases h : i = q
    · subst h
      rw [if_pos rfl]
      refine lastW_none _ _ _ fun p hp => ?_
      obtain ⟨j, hj, rfl⟩ := List.mem_map.1 hp
      have := List.mem_range.1 (List.mem_reverse.1 hj)
      show first + j ≠ first + i; omega
    · rw [if_neg (by omega)]
      exact ih _ i (by omega)
theorem lay_at (first half at_ : Nat) (b : Bs) (x : Bs) {i : Nat} (hi : i < secN b.length) : lastW (layW first half at_ b) (first + i) x = pad (chunk b i) := by
  unfold layW; rw [lastW_app]; exact lastW_lay _ _ _ _ _ hi
theorem lay_next (first half at_ : Nat) (b : Bs) (x : Bs) (h : at_ + secN b.length < half) : lastW (layW first half at_ b) (first + secN b.length) x = pad [] := by
  unfold layW; rw [lastW_app, if_pos h]
  rw [lastW_none]
  · show (if _ then _ else _) = _; rw [if_pos rfl]
  · intro p hp
    obtain ⟨j, hj, rfl⟩ := List.mem_map.1 hp
    have := List.mem_range.1 (List.mem_reverse.1 hj)
    show first + j ≠ _; omega
theorem lay_off (first half at_ : Nat) (b : Bs) (x : Bs) {j : Nat} (hj : j < first ∨ first + (half - at_) ≤ j) (hat : at_ + secN b.length ≤ half) : lastW (layW first half at_ b) j x = x := by
  refine lastW_none _ _ _ fun p hp => ?_
  unfold layW at hp
  rcases List.mem_append.1 hp with h | h
  · split at h
    · rw [List.mem_singleton.1 h]; show first + secN b.length ≠ j; omega
    · cases h
  · obtain ⟨i, hi, rfl⟩ := List.mem_map.1 h
    have := List.mem_range.1 (List.mem_reverse.1 hi)
    show first + i ≠ j; omega
end Go.Proofs.YtnbefiaeihialaaGreat
