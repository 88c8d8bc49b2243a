/- A store on a disk: Make, Commit and Open fit one another. -/
import Derived.Test.YtnbefiaeihialaaGreatWalD
set_option linter.unusedVariables false
set_option linter.unusedSimpArgs false
namespace Go.Proofs.YtnbefiaeihialaaGreat
section
variable {sha : Bs → Bs} (hsha : ∀ x, (sha x).length = 32)
theorem secN_mono {a b : Nat} (h : a ≤ b) : secN a ≤ secN b := by unfold secN; omega
theorem secN_le {a b : Nat} (h : secN a ≤ b) : a + 1 ≤ 64 * b := by unfold secN at h; omega
theorem pad_nil_63 : (pad []).getD 63 0 = (0 : UInt8) := by decide
theorem pad_nil_len : (pad []).length = 64 := by decide
include hsha in
theorem rec_sec (g n : Nat) (t : Bs) : secN (recF sha g n t).length = secN (46 + t.length) := by rw [recF_len hsha]
theorem mul_side {s : Nat} (h : s ≤ 1) (x : Nat) : s * x + (1 - s) * x = x := by
  rcases (show s = 0 ∨ s = 1 by omega) with rfl | rfl
  · simp
  · simp
/-- A row of writes into one half leaves the other one. -/
theorem rd_after {k : Dk} {ws : List (Nat × Bs)} {m : Nat} (h : Still k m) (hw : ∀ p ∈ ws, p.1 < k.n ∧ p.2.length ≤ 64) {f half s i : Nat} (hi : f + s * half + i < k.n) :
    rdS (wrL k ws).1 f half s i = lastW ws (f + s * half + i) (rdS k f half s i) := (h.row hw).2.2.2 _ hi
include hsha in
/-- Behind a commit that is laid the store lies on its disk. -/
theorem commit_good {k : Dk} {m c : Nat} {st : St} (h : Good sha k m c st) {l : List Ch} (hl : ChsOk l) {ws : List (Nat × Bs)} {st' : St} (hp : planF sha st l = some (ws, st')) (hc : c < 4294967295) (hz : (prT l).length < 4294967296) (hz2 : (whole (appM st.M l)).length < 4294967296) :
    (wrL k ws).2 = 0 ∧ Good sha (wrL k ws).1 (m + ws.length) (c + 1) st' ∧ (wrL k ws).1.n = k.n ∧ (∀ j, j < k.n → (j < st.from_ ∨ st.from_ + 2 * st.half ≤ j) → sec (wrL k ws).1 j = sec k j) ∧ st'.M = appM st.M l ∧ st'.from_ = st.from_ ∧ st'.half = st.half := by
  have hs1 := h.side
  have hh := h.half
  have har := h.area
  have hms := mul_side hs1 st.half
  have hsm : st.side * st.half ≤ st.half := by omega
  have hom : (1 - st.side) * st.half ≤ st.half := by omega
  have hsrt := h.srt.app l
  have hmok := h.mok.app h.srt hl
  have hgz := h.gen
  have hnz := h.next
  have hfz := h.free
  have hszz := h.sz
  unfold planF at hp
  split at hp
  · rename_i hfit
    injection hp with hp
    injection hp with hp1 hp2
    obtain ⟨b, hb⟩ : ∃ b, b = recF sha st.gen st.next (prT l) := ⟨_, rfl⟩
    rw [← hb] at hp1
    have hbs : secN b.length = secN (46 + (prT l).length) := by rw [hb]; exact rec_sec hsha _ _ _
    have hfit2 : st.free + secN b.length ≤ st.half := by rw [hbs]; exact hfit
    subst hp1 hp2
    have hin : ∀ p ∈ layW (st.from_ + st.side * st.half + st.free) st.half st.free b, p.1 < k.n ∧ p.2.length ≤ 64 := layW_in (by omega) hfit2
    obtain ⟨r1, r2, r3, r4⟩ := h.still.row hin
    have hrd := fun i (hi : i < st.half) => rd_after h.still hin (f := st.from_) (half := st.half) (s := st.side) (i := i) (by omega)
    have hro := fun i (hi : i < st.half) => rd_after h.still hin (f := st.from_) (half := st.half) (s := 1 - st.side) (i := i) (by omega)
    have hkeep : ∀ i, i < st.free → rdS (wrL k (layW (st.from_ + st.side * st.half + st.free) st.half st.free b)).1 st.from_ st.half st.side i = rdS k st.from_ st.half st.side i := fun i hi => by
      rw [hrd i (by omega), lay_off _ _ _ _ _ (.inl (by omega)) hfit2]
    have hoth : ∀ i, i < st.half → rdS (wrL k (layW (st.from_ + st.side * st.half + st.free) st.half st.free b)).1 st.from_ st.half (1 - st.side) i = rdS k st.from_ st.half (1 - st.side) i := fun i hi => by
      rw [hro i hi]
      refine lay_off _ _ _ _ _ ?_ hfit2
      rcases (show st.side = 0 ∨ st.side = 1 by omega) with e | e
      · right; rw [e]; omega
      · left; rw [e]; omega
    have hlen0 : ∀ i, i < st.half → (rdS k st.from_ st.half st.side i).length = 64 := fun i hi => rdS_len h hs1 hi
    have hfind : findF sha (rdS (wrL k (layW (st.from_ + st.side * st.half + st.free) st.half st.free b)).1 st.from_ st.half st.side) st.half st.free = some (st.gen, st.next, prT l) := by
      refine find_laid hsha (by omega) (by omega) hz (by omega) (fun i hi => ?_)
      rw [hrd _ (by omega), ← hb, show st.from_ + st.side * st.half + (st.free + i) = st.from_ + st.side * st.half + st.free + i by omega]
      exact lay_at _ _ _ _ _ (by rw [hbs]; exact hi)
    have hpa := parse_print hl
    refine ⟨r1, ⟨r2, hs1, hh, by show st.from_ + 2 * st.half ≤ _; rw [r3]; exact har, ⟨hgz.1, by show st.gen ≤ c + 1; omega⟩, ⟨by show 1 ≤ st.next + 1; omega, by show st.next + 1 ≤ c + 1; omega⟩, hsrt, hmok, ?_, hfit, ?_, ?_, ?_⟩, r3, fun j hj hjo => ?_, rfl, rfl, rfl⟩
    · show secN (46 + szM (appM st.M l)) ≤ st.free + secN (46 + (prT l).length)
      have := szM_app h.srt l
      unfold secN at hszz ⊢; omega
    · have := Chain.step (h.chain.keep hlen0 hkeep) hfind hpa
      rw [app_norm] at this
      exact this
    · show findF sha _ st.half (st.free + secN (46 + (prT l).length)) = none
      by_cases he : st.free + secN b.length < st.half
      · have h1 : rdS (wrL k (layW (st.from_ + st.side * st.half + st.free) st.half st.free b)).1 st.from_ st.half st.side (st.free + secN b.length) = pad [] := by
          rw [hrd _ he, ← lay_next (st.from_ + st.side * st.half + st.free) st.half st.free b (rdS k st.from_ st.half st.side (st.free + secN b.length)) he]
          congr 1; omega
        rw [← hbs]
        exact find_none (by rw [h1]; exact Nat.le_of_eq pad_nil_len.symm) (by rw [h1, pad_nil_63]; decide)
      · exact find_far (by rw [← hbs]; omega)
    · intro g n t hf hn
      refine h.other g n t ?_ hn
      rw [← hf]
      refine find_congr (hoth 0 (by omega)).symm (fun i _ hi2 => ?_)
      exact (hoth _ hi2).symm
    · rw [r4 j hj]
      refine lay_off _ _ _ _ _ ?_ hfit2
      omega
  · rename_i hno
    split at hp
    · cases hp
    · rename_i hfit0
      injection hp with hp
      injection hp with hp1 hp2
      obtain ⟨b, hb⟩ : ∃ b, b = recF sha (st.gen + 1) 0 (whole (appM st.M l)) := ⟨_, rfl⟩
      rw [← hb] at hp1
      have hbs : secN b.length = secN (46 + (whole (appM st.M l)).length) := by rw [hb]; exact rec_sec hsha _ _ _
      have hfit2 : 0 + secN b.length ≤ st.half := by rw [hbs]; omega
      subst hp1 hp2
      have hin : ∀ p ∈ (st.from_ + (1 - st.side) * st.half, ([] : Bs)) :: layW (st.from_ + (1 - st.side) * st.half + 0) st.half 0 b, p.1 < k.n ∧ p.2.length ≤ 64 := by
        intro p hp
        rcases List.mem_cons.1 hp with rfl | hp
        · exact ⟨by show st.from_ + (1 - st.side) * st.half < k.n; omega, by simp⟩
        · exact layW_in (by omega) hfit2 p hp
      obtain ⟨ws, hws⟩ : ∃ ws, ws = (st.from_ + (1 - st.side) * st.half, ([] : Bs)) :: layW (st.from_ + (1 - st.side) * st.half + 0) st.half 0 b := ⟨_, rfl⟩
      have hlw : ∀ j x, lastW ws j x = lastW (layW (st.from_ + (1 - st.side) * st.half + 0) st.half 0 b) j (if j = st.from_ + (1 - st.side) * st.half then pad [] else x) := fun j x => by rw [hws]; rfl
      rw [← hws] at hin ⊢
      obtain ⟨r1, r2, r3, r4⟩ := h.still.row hin
      have hrd := fun i (hi : i < st.half) => rd_after h.still hin (f := st.from_) (half := st.half) (s := 1 - st.side) (i := i) (by omega)
      have hro := fun i (hi : i < st.half) => rd_after h.still hin (f := st.from_) (half := st.half) (s := st.side) (i := i) (by omega)
      have hoff : ∀ j x, (j < st.from_ + (1 - st.side) * st.half ∨ st.from_ + (1 - st.side) * st.half + st.half ≤ j) → lastW ws j x = x := fun j x hj => by
        rw [hlw, if_neg (by omega)]
        exact lay_off _ _ _ _ _ (by omega) hfit2
      have hoth : ∀ i, i < st.half → rdS (wrL k ws).1 st.from_ st.half st.side i = rdS k st.from_ st.half st.side i := fun i hi => by
        rw [hro i hi]
        refine hoff _ _ ?_
        rcases (show st.side = 0 ∨ st.side = 1 by omega) with e | e
        · left; rw [e]; omega
        · right; rw [e]; omega
      have hfind : findF sha (rdS (wrL k ws).1 st.from_ st.half (1 - st.side)) st.half 0 = some (st.gen + 1, 0, whole (appM st.M l)) := by
        refine find_laid hsha (by omega) (by omega) hz2 (by omega) (fun i hi => ?_)
        rw [hrd _ (by omega), ← hb, hlw, show st.from_ + (1 - st.side) * st.half + (0 + i) = st.from_ + (1 - st.side) * st.half + 0 + i by omega]
        exact lay_at _ _ _ _ _ (by rw [hbs]; exact hi)
      have hpa := parse_print hmok.chs
      have hwm : ∀ M : List Pr, (M.map prOf).map Ch.norm = M.map prOf := fun M => by
        rw [List.map_map]; rfl
      rw [hwm] at hpa
      have hss : 1 - (1 - st.side) = st.side := by omega
      refine ⟨r1, ⟨r2, by show 1 - st.side ≤ 1; omega, hh, by show st.from_ + 2 * st.half ≤ _; rw [r3]; exact har, ⟨by show 1 ≤ st.gen + 1; omega, by show st.gen + 1 ≤ c + 1; omega⟩, ⟨Nat.le_refl _, by show 1 ≤ c + 1; omega⟩, hsrt, hmok, ?_, by show secN (46 + (whole (appM st.M l)).length) ≤ st.half; omega, ?_, ?_, ?_⟩, r3, fun j hj hjo => ?_, rfl, rfl, rfl⟩
      · exact Nat.le_refl _
      · have := Chain.step (Chain.zero (sha := sha) (rd := rdS (wrL k ws).1 st.from_ st.half (1 - st.side)) (half := st.half) (g := st.gen + 1)) hfind hpa
        rw [Nat.zero_add, app_whole hsrt] at this
        exact this
      · show findF sha (rdS (wrL k ws).1 st.from_ st.half (1 - st.side)) st.half (secN (46 + (whole (appM st.M l)).length)) = none
        by_cases he : 0 + secN b.length < st.half
        · have h1 : rdS (wrL k ws).1 st.from_ st.half (1 - st.side) (secN b.length) = pad [] := by
            rw [hrd _ (by omega), hlw]
            exact lay_next (st.from_ + (1 - st.side) * st.half + 0) st.half 0 b _ he
          rw [← hbs]
          exact find_none (by rw [h1]; exact Nat.le_of_eq pad_nil_len.symm) (by rw [h1, pad_nil_63]; decide)
        · exact find_far (by rw [← hbs]; omega)
      · intro g n t hf hn
        show g < st.gen + 1
        have hf2 : findF sha (rdS k st.from_ st.half st.side) st.half 0 = some (g, n, t) := by
          have hf3 : findF sha (rdS (wrL k ws).1 st.from_ st.half st.side) st.half 0 = some (g, n, t) := by
            have := hf
            simp only [hss] at this
            exact this
          rw [← hf3]
          exact find_congr (hoth 0 (by omega)).symm (fun i _ hi2 => (hoth _ hi2).symm)
        -- its first record is of this generation
        have hfirst : ∀ {f n : Nat} {M : List Pr}, Chain sha (rdS k st.from_ st.half st.side) st.half st.gen f n M → 1 ≤ n → ∃ n0 t0, findF sha (rdS k st.from_ st.half st.side) st.half 0 = some (st.gen, n0, t0) := by
          intro f n M hch
          induction hch with
          | zero => intro hn; omega
          | @step f n M t l h1 h2 h3 ih =>
            intro _
            rcases Nat.eq_zero_or_pos n with e | e
            · cases h1 with
              | zero => exact ⟨_, _, h2⟩
              | step => omega
            · exact ih e
        obtain ⟨n0, t0, e0⟩ := hfirst h.chain hnz.1
        rw [e0] at hf2
        injection hf2 with hf2
        injection hf2 with hf2 _
        omega
      · rw [r4 j hj]
        refine hoff _ _ ?_
        omega
end
end Go.Proofs.YtnbefiaeihialaaGreat
