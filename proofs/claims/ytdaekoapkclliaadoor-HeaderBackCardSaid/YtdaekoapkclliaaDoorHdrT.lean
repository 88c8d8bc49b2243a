/- How long the fields of a text are. -/
import Derived.Test.YtdaekoapkclliaaDoorHdrP
import Derived.Test.YtdaekoapkclliaaDoorHdrS
set_option linter.unusedVariables false
set_option linter.unusedSimpArgs false
namespace Go.Proofs.YtdaekoapkclliaaDoor
open Go.RowKit
def sumD : List Fd → Nat
  | [] => 0
  | f :: r => f.1.length + f.2.length + sumD r
theorem cutG_len : ∀ (s cur : Bs) (ls : List Bs) (r : Bs), cutG cur s = some (ls, r) → ls.flatten.length + r.length ≤ cur.length + s.length
  | s, cur, ls, r, h => by
    revert ls r h
    induction cur, s using cutG.induct with
    | case1 cur => intro ls r h; rw [cutG] at h; cases h
    | case2 r0 => intro ls r h; rw [cutG, if_pos rfl] at h; cases h; simp; omega
    | case3 cur r0 hc ih =>
      intro ls r h
      rw [cutG, if_neg hc] at h
      cases hq : cutG [] r0 with
      | none => rw [hq] at h; cases h
      | some p =>
        rw [hq] at h
        cases h
        have := ih p.1 p.2 hq
        simp at this ⊢
        omega
    | case4 cur c r0 hn ih =>
      intro ls r h
      rw [cutG.eq_3 cur c r0 hn] at h
      have := ih _ _ h
      simp at this ⊢
      omega
theorem unfG_flat : ∀ (ls : List Bs) (cur : Bs), (unfG cur ls).flatten = cur ++ ls.flatten
  | [], cur => by simp [unfG]
  | l :: ls, cur => by
    rw [unfG]
    split
    · rw [unfG_flat ls]; simp
    · show (cur :: unfG l ls).flatten = _
      rw [List.flatten_cons, unfG_flat ls]; rfl
theorem unf_flat {ls ws : List Bs} (h : unf ls = some ws) : ws.flatten = ls.flatten := by
  cases ls with
  | nil => cases h; rfl
  | cons l r =>
    rw [unf] at h
    split at h
    · cases h
    · cases h; rw [unfG_flat]; rfl
theorem cut58_sum (w : Bs) : (Lib.cut w [58]).1.length + (Lib.cut w [58]).2.1.length ≤ w.length := by
  unfold Lib.cut; split <;> simp
  omega
theorem fieldOf_len {w : Bs} {f : Fd} (h : fieldOf w = some f) : f.1.length + f.2.length ≤ w.length := by
  unfold fieldOf at h
  split at h
  · cases h
    have := cut58_sum w
    have := trB_len (Lib.cut w [58]).2.1
    show (Lib.cut w [58]).1.length + (trB (Lib.cut w [58]).2.1).length ≤ _
    omega
  · cases h
theorem fdsF_sum : ∀ {ws : List Bs} {fs : List Fd}, fdsF ws = some fs → sumD fs ≤ ws.flatten.length
  | [], fs, h => by cases h; simp [sumD]
  | w :: ws, fs, h => by
    rw [fdsF] at h
    cases hf : fieldOf w with
    | none => rw [hf] at h; cases h
    | some f =>
      rw [hf] at h
      cases hr : fdsF ws with
      | none => rw [hr] at h; cases h
      | some g =>
        rw [hr] at h
        cases h
        have := fdsF_sum hr
        have := fieldOf_len hf
        rw [List.flatten_cons, List.length_append]
        show f.1.length + f.2.length + sumD g ≤ _
        omega
theorem pa_sum {s : Bs} (h : (paF s).2.2 = 0) : sumD (paF s).1 ≤ s.length := by
  cases hc : cutG [] s with
  | none => rw [pa_none hc]; simp [sumD]
  | some p =>
    obtain ⟨ls, r⟩ := p
    have hl := cutG_len s [] ls r hc
    by_cases hf : Fine ls
    · cases hu : unf ls with
      | none => rw [pa_unf hc hf hu]; simp [sumD]
      | some ws =>
        cases hd : fdsF ws with
        | none => rw [pa_fds hc hf hu hd]; simp [sumD]
        | some fs =>
          rw [pa_end hc hf hu hd]
          split
          · simp [sumD]
          · have h1 := fdsF_sum hd
            rw [unf_flat hu] at h1
            simp at hl
            show sumD fs ≤ _
            have h2 : (ls.flatten).length = (ls.map List.length).sum := List.length_flatten
            omega
    · have hx : ∃ x ∈ ls, 998 < x.length := Classical.byContradiction fun hn => hf fun x hx => Nat.not_lt.1 fun h3 => hn ⟨x, hx, h3⟩
      obtain ⟨x, h1, h2⟩ := hx
      rw [pa_long hc h1 h2]; simp [sumD]
theorem prT_sum (l : List Fd) : (prT l).length ≤ 3 * sumD l + 6 * l.length + 2 := by
  have key : ∀ l : List Fd, (ctL (prL l)).length ≤ 3 * sumD l + 6 * l.length := by
    intro l
    induction l with
    | nil => simp [prL, ctL]
    | cons f r ih =>
      have h1 := fold_ct f.1 f.2
      show (ctL (foldL f.1 f.2 ++ prL r)).length ≤ _
      rw [ctL_app, List.length_append]
      simp only [sumD, List.length_cons]
      omega
  have := key l
  unfold prT
  split
  · rw [List.length_append]; simp; omega
  · simp
theorem prT_no {l : List Fd} (h : prE l ≠ 0) : prT l = [] := by unfold prT; rw [if_neg h]
end Go.Proofs.YtdaekoapkclliaaDoor
