/- Open in plain words; a store that lies is opened as it is; a new store lies. -/
import Derived.Test.YtnbefiaeihialaaGreatWalE
set_option linter.unusedVariables false
set_option linter.unusedSimpArgs false
namespace Go.Proofs.YtnbefiaeihialaaGreat
/-- Of two halves the one with the greater generation. -/
def pick1 (f : Option (Nat × Nat × Bs)) (sd : Nat) (acc : Nat × Nat) : Nat × Nat :=
  match f with
  | some (g, n, _) => if n = 0 ∧ acc.2 < g then (sd, g) else acc
  | none => acc
def pickF (sha : Bs → Bs) (k : Dk) (from_ half : Nat) : Nat × Nat := pick1 (findF sha (rdS k from_ half 1) half 0) 1 (pick1 (findF sha (rdS k from_ half 0) half 0) 0 (0, 0))
/-- The records of a half, one behind the other; none: one is spoilt. -/
def walkO (sha : Bs → Bs) (rd : Nat → Bs) (half g : Nat) : Nat → Nat → Nat → List Pr → Option (Nat × Nat × List Pr)
  | 0, f, n, M => some (f, n, M)
  | x + 1, f, n, M => match findF sha rd half f with
    | none => some (f, n, M)
    | some (g', n', t) => if g' = g ∧ n' = n then match paT t with
      | none => none
      | some l => walkO sha rd half g x (f + secN (46 + t.length)) (n + 1) (appM M l)
      else some (f, n, M)
def openF (sha : Bs → Bs) (k : Dk) (from_ half : Nat) : Option St :=
  if (pickF sha k from_ half).2 = 0 then none
  else (walkO sha (rdS k from_ half (pickF sha k from_ half).1) half (pickF sha k from_ half).2 (half + 1) 0 0 []).map fun r => ⟨from_, half, (pickF sha k from_ half).1, (pickF sha k from_ half).2, r.2.1, r.1, r.2.2⟩
theorem find_lt {sha : Bs → Bs} {rd : Nat → Bs} {half a : Nat} {p : Nat × Nat × Bs} (h : findF sha rd half a = some p) : a < half := by
  unfold findF at h
  split at h
  · cases h
  · omega
theorem walkO_more {sha : Bs → Bs} {rd : Nat → Bs} {half g : Nat} : ∀ (x f n : Nat) (M : List Pr), half < f + x → walkO sha rd half g (x + 1) f n M = walkO sha rd half g x f n M := by
  intro x
  induction x with
  | zero =>
    intro f n M hx
    show walkO sha rd half g 1 f n M = some (f, n, M)
    unfold walkO
    rw [find_far (by omega)]
  | succ x ih =>
    intro f n M hx
    conv => lhs; unfold walkO
    conv => rhs; unfold walkO
    cases hf : findF sha rd half f with
    | none => rfl
    | some p =>
      obtain ⟨g', n', t⟩ := p
      show (if _ then _ else _) = (if _ then _ else _)
      by_cases hc : g' = g ∧ n' = n
      · rw [if_pos hc, if_pos hc]
        cases hp : paT t with
        | none => rfl
        | some l =>
          show walkO sha rd half g (x + 1) _ _ _ = walkO sha rd half g x _ _ _
          exact ih _ _ _ (by have := secN_pos (46 + t.length); omega)
      · rw [if_neg hc, if_neg hc]
theorem Chain.n_le {sha : Bs → Bs} {rd : Nat → Bs} {half g f n : Nat} {M : List Pr} (h : Chain sha rd half g f n M) : n ≤ f := by
  induction h with
  | zero => exact Nat.le_refl _
  | @step f n M t l h1 h2 h3 ih => have := secN_pos (46 + t.length); omega
theorem Chain.walk {sha : Bs → Bs} {rd : Nat → Bs} {half g f n : Nat} {M : List Pr} (h : Chain sha rd half g f n M) : ∀ x, walkO sha rd half g (x + n) 0 0 [] = walkO sha rd half g x f n M := by
  induction h with
  | zero => intro x; rfl
  | @step f n M t l h1 h2 h3 ih =>
    intro x
    rw [show x + (n + 1) = (x + 1) + n by omega, ih (x + 1)]
    conv => lhs; unfold walkO
    rw [h2]
    show (if _ then _ else _) = _
    rw [if_pos ⟨rfl, rfl⟩, h3]
theorem Chain.first {sha : Bs → Bs} {rd : Nat → Bs} {half g f n : Nat} {M : List Pr} (h : Chain sha rd half g f n M) : 1 ≤ n → ∃ t0, findF sha rd half 0 = some (g, 0, t0) := by
  induction h with
  | zero => intro hn; omega
  | @step f n M t l h1 h2 h3 ih =>
    intro _
    rcases Nat.eq_zero_or_pos n with e | e
    · cases h1 with
      | zero => exact ⟨_, h2⟩
      | step => omega
    · exact ih e
theorem open_good {sha : Bs → Bs} {k : Dk} {m c : Nat} {st : St} (h : Good sha k m c st) : openF sha k st.from_ st.half = some st := by
  have hg := h.gen
  have hs := h.side
  obtain ⟨t0, e0⟩ := h.chain.first h.next.1
  have hoth := h.other
  have hpick : pickF sha k st.from_ st.half = (st.side, st.gen) := by
    unfold pickF
    rcases (show st.side = 0 ∨ st.side = 1 by omega) with e | e
    · rw [e] at e0 hoth ⊢
      rw [e0]
      have e1 : pick1 (some (st.gen, 0, t0)) 0 (0, 0) = (0, st.gen) := by show (if _ then _ else _) = _; rw [if_pos ⟨rfl, by show 0 < st.gen; omega⟩]
      rw [e1]
      cases hf : findF sha (rdS k st.from_ st.half 1) st.half 0 with
      | none => rfl
      | some p =>
        obtain ⟨g, n, t⟩ := p
        show (if _ then _ else _) = _
        rw [if_neg]
        rintro ⟨hn, hlt⟩
        have := hoth g n t hf hn
        have hlt2 : st.gen < g := hlt
        omega
    · rw [e] at e0 hoth ⊢
      rw [e0]
      cases hf : findF sha (rdS k st.from_ st.half 0) st.half 0 with
      | none =>
        show (if _ then _ else _) = _
        rw [if_pos ⟨rfl, by show 0 < st.gen; omega⟩]
      | some p =>
        obtain ⟨g, n, t⟩ := p
        show (if 0 = 0 ∧ (pick1 (some (g, n, t)) 0 (0, 0)).2 < st.gen then _ else _) = _
        have hlt : (pick1 (some (g, n, t)) 0 (0, 0)).2 < st.gen := by
          show (if n = 0 ∧ (0 : Nat) < g then ((0 : Nat), g) else (0, 0)).2 < st.gen
          split
          · rename_i hh; exact hoth g n t hf hh.1
          · show 0 < st.gen; omega
        rw [if_pos ⟨rfl, hlt⟩]
  unfold openF
  rw [hpick]
  show (if st.gen = 0 then _ else _) = _
  rw [if_neg (by omega)]
  have hn := h.chain.n_le
  have hf := h.free
  have hw : walkO sha (rdS k st.from_ st.half st.side) st.half st.gen (st.half + 1) 0 0 [] = some (st.free, st.next, st.M) := by
    rw [show st.half + 1 = (st.half - st.next + 1) + st.next by omega, h.chain.walk]
    unfold walkO
    rw [h.stop]
  show Option.map _ (walkO sha (rdS k st.from_ st.half st.side) st.half st.gen (st.half + 1) 0 0 []) = _
  rw [hw]
  rfl
/-- Where only what lies elsewhere has turned a store still lies. -/
theorem Good.away {sha : Bs → Bs} {k k' : Dk} {m m' c c' : Nat} {st : St} (h : Good sha k m c st) (hs : Still k' m') (hn : k'.n = k.n) (hc : c ≤ c') (hk : ∀ j, st.from_ ≤ j → j < st.from_ + 2 * st.half → sec k' j = sec k j) : Good sha k' m' c' st := by
  have hs1 := h.side
  have hms := mul_side hs1 st.half
  have hin : ∀ s, s ≤ 1 → ∀ i, i < st.half → rdS k' st.from_ st.half s i = rdS k st.from_ st.half s i := fun s hs i hi => by
    have h2 : s * st.half ≤ 1 * st.half := Nat.mul_le_mul_right _ hs
    exact hk _ (by omega) (by omega)
  have hlen0 : ∀ i, i < st.half → (rdS k st.from_ st.half st.side i).length = 64 := fun i hi => rdS_len h hs1 hi
  have hg := h.gen
  have hnx := h.next
  have hfr := h.free
  have hfe : ∀ s, s ≤ 1 → ∀ a, findF sha (rdS k' st.from_ st.half s) st.half a = findF sha (rdS k st.from_ st.half s) st.half a := fun s hs a => by
    by_cases ha : a < st.half
    · exact find_congr (hin s hs a ha) (fun i _ hi => hin s hs _ hi)
    · rw [find_far (by omega), find_far (by omega)]
  refine ⟨hs, hs1, h.half, by rw [hn]; exact h.area, ⟨hg.1, by omega⟩, ⟨hnx.1, by omega⟩, h.srt, h.mok, h.sz, h.free, h.chain.keep hlen0 (fun i hi => hin _ hs1 i (by omega)), ?_, fun g n t hf hz => ?_⟩
  · rw [hfe _ hs1]; exact h.stop
  · rw [hfe _ (by omega)] at hf
    exact h.other g n t hf hz
/-- What Make writes. -/
def makeW (sha : Bs → Bs) (from_ half : Nat) : List (Nat × Bs) := [(from_ + half, []), (from_, [])] ++ layW from_ half 0 (recF sha 1 0 [])
def makeS (from_ half : Nat) : St := ⟨from_, half, 0, 1, 1, 1, []⟩
theorem sec46 : secN 46 = 1 := by decide
theorem make_good {sha : Bs → Bs} (hsha : ∀ x, (sha x).length = 32) {k : Dk} {m from_ half : Nat} (h : Still k m) (hh : 2 ≤ half) (ha : from_ + 2 * half ≤ k.n) :
    (wrL k (makeW sha from_ half)).2 = 0 ∧ Good sha (wrL k (makeW sha from_ half)).1 (m + (makeW sha from_ half).length) 1 (makeS from_ half) ∧ (wrL k (makeW sha from_ half)).1.n = k.n ∧ (∀ j, j < k.n → (j < from_ ∨ from_ + 2 * half ≤ j) → sec (wrL k (makeW sha from_ half)).1 j = sec k j) := by
  obtain ⟨b, hb⟩ : ∃ b, b = recF sha 1 0 [] := ⟨_, rfl⟩
  have hbl : b.length = 46 := by rw [hb]; exact recF_len hsha 1 0 []
  have hbs : secN b.length = 1 := by rw [hbl]; exact sec46
  have hfit2 : 0 + secN b.length ≤ half := by omega
  obtain ⟨ws, hws⟩ : ∃ ws, ws = makeW sha from_ half := ⟨_, rfl⟩
  have hwe : ws = [(from_ + half, []), (from_, [])] ++ layW from_ half 0 b := by rw [hws, hb]; rfl
  rw [← hws]
  have hin : ∀ p ∈ ws, p.1 < k.n ∧ p.2.length ≤ 64 := by
    intro p hp
    rw [hwe] at hp
    rcases List.mem_append.1 hp with hp | hp
    · rcases List.mem_cons.1 hp with rfl | hp
      · exact ⟨by show from_ + half < k.n; omega, by simp⟩
      · rw [List.mem_singleton.1 hp]; exact ⟨by show from_ < k.n; omega, by simp⟩
    · exact layW_in (by omega) hfit2 p hp
  obtain ⟨r1, r2, r3, r4⟩ := h.row hin
  have hlw : ∀ j x, lastW ws j x = lastW (layW from_ half 0 b) j (if j = from_ then pad [] else if j = from_ + half then pad [] else x) := fun j x => by rw [hwe, lastW_app]; rfl
  have hrd := fun i (hi : i < half) => rd_after h hin (f := from_) (half := half) (s := 0) (i := i) (by omega)
  have hro := fun i (hi : i < half) => rd_after h hin (f := from_) (half := half) (s := 1) (i := i) (by omega)
  have hfind : findF sha (rdS (wrL k ws).1 from_ half 0) half 0 = some (1, 0, []) := by
    refine find_laid hsha (by omega) (by omega) (by simp) (by show 0 + secN 46 ≤ half; rw [sec46]; omega) (fun i hi => ?_)
    rw [hrd _ (by have : i < secN 46 := hi; rw [sec46] at this; omega), ← hb, hlw, show from_ + 0 * half + (0 + i) = from_ + i by omega]
    exact lay_at _ _ _ _ _ (by rw [hbl]; exact hi)
  refine ⟨r1, ⟨r2, Nat.zero_le _, hh, by rw [r3]; exact ha, ⟨Nat.le_refl _, Nat.le_refl _⟩, ⟨Nat.le_refl _, Nat.le_refl _⟩, srt_nil, fun p hp => (by cases hp), ?_, by show 1 ≤ half; omega, ?_, ?_, ?_⟩, r3, fun j hj hjo => ?_⟩
  · show secN (46 + szM []) ≤ 1
    rw [szM_nil]; exact Nat.le_of_eq sec46
  · have := Chain.step (Chain.zero (sha := sha) (rd := rdS (wrL k ws).1 from_ half 0) (half := half) (g := 1)) hfind paT_nil
    exact this
  · show findF sha (rdS (wrL k ws).1 from_ half 0) half 1 = none
    have h1 : rdS (wrL k ws).1 from_ half 0 1 = pad [] := by
      rw [hrd 1 (by omega), hlw]
      have hx := lay_next from_ half 0 b (if from_ + 0 * half + 1 = from_ then pad [] else if from_ + 0 * half + 1 = from_ + half then pad [] else rdS k from_ half 0 1) (by omega)
      rw [show from_ + secN b.length = from_ + 0 * half + 1 by omega] at hx
      exact hx
    exact find_none (by rw [h1]; exact Nat.le_of_eq pad_nil_len.symm) (by rw [h1, pad_nil_63]; decide)
  · intro g n t hf _
    exfalso
    have h1 : rdS (wrL k ws).1 from_ half 1 0 = pad [] := by
      rw [hro 0 (by omega), hlw, lay_off _ _ _ _ _ (by omega) hfit2, if_neg (by omega), if_pos (by omega)]
    have hn : findF sha (rdS (wrL k ws).1 from_ half 1) half 0 = none := find_none (by rw [h1]; exact Nat.le_of_eq pad_nil_len.symm) (by rw [h1, pad_nil_63]; decide)
    have hf2 : findF sha (rdS (wrL k ws).1 from_ half 1) half 0 = some (g, n, t) := hf
    rw [hn] at hf2
    cases hf2
  · rw [r4 j hj, hlw, if_neg (by omega), if_neg (by omega)]
    exact lay_off _ _ _ _ _ (by omega) hfit2
end Go.Proofs.YtnbefiaeihialaaGreat
