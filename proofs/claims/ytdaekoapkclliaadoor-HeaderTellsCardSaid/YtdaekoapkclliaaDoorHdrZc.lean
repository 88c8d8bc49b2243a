/- The document's Parse in plain words: index by index, line by line. -/
import Derived.Test.YtdaekoapkclliaaDoorHdrZb
set_option linter.unusedVariables false
set_option linter.unusedSimpArgs false
namespace Go.Proofs.YtdaekoapkclliaaDoor
open Go.RowKit
/-- ls are the lines so far, the next one begins at f, one looks at i. -/
def CutI (s : Bs) (ls : List Bs) (f i : Nat) : Prop := f ≤ i ∧ i ≤ s.length ∧ cutG [] s = (cutG ((s.drop f).take (i - f)) (s.drop i)).map fun p => (ls ++ p.1, p.2)
theorem CutI.start (s : Bs) : CutI s [] 0 0 := ⟨Nat.le_refl _, Nat.zero_le _, by simp⟩
theorem CutI.miss {s : Bs} {ls : List Bs} {f i : Nat} (h : CutI s ls f i) (hi : i + 1 < s.length) (h1 : ¬ (s[i] = 13 ∧ s[i + 1] = 10)) : CutI s ls f (i + 1) := by
  obtain ⟨a, b, c⟩ := h
  refine ⟨by omega, by omega, ?_⟩
  have hd : s.drop i = s[i] :: s.drop (i + 1) := List.drop_eq_getElem_cons (by omega)
  have hd2 : s.drop (i + 1) = s[i + 1] :: s.drop (i + 1 + 1) := List.drop_eq_getElem_cons hi
  rw [c, hd, cutG_c (by rw [hd2]; intro t e; injection e with e1 e2; injection e2 with e2 _; exact h1 ⟨e1, e2⟩)]
  congr 2
  rw [show i + 1 - f = (i - f) + 1 by omega, List.take_succ_eq_append_getElem (by rw [List.length_drop]; omega)]
  congr 1
  rw [List.getElem_drop]
  congr 2
  omega
theorem CutI.stop {s : Bs} {ls : List Bs} {i : Nat} (h : CutI s ls i i) (hi : i + 1 < s.length) (h1 : s[i] = 13) (h2 : s[i + 1] = 10) : cutG [] s = some (ls, s.drop (i + 2)) := by
  obtain ⟨a, b, c⟩ := h
  rw [c, drop_two hi, h1, h2, show i - i = 0 by omega, List.take_zero, cutG, if_pos rfl]
  simp
theorem CutI.hit {s : Bs} {ls : List Bs} {f i : Nat} (h : CutI s ls f i) (hf : f < i) (hi : i + 1 < s.length) (h1 : s[i] = 13) (h2 : s[i + 1] = 10) : CutI s (ls ++ [(s.drop f).take (i - f)]) (i + 2) (i + 2) := by
  obtain ⟨a, b, c⟩ := h
  refine ⟨Nat.le_refl _, by omega, ?_⟩
  have hne : (s.drop f).take (i - f) ≠ [] := by
    intro e
    have := congrArg List.length e
    rw [List.length_take, List.length_drop] at this
    simp at this
    omega
  rw [c, drop_two hi, h1, h2, cutG, if_neg hne, show i + 2 - (i + 2) = 0 by omega, List.take_zero, Option.map_map]
  congr 1
  funext p
  simp
theorem CutI.none_ {s : Bs} {ls : List Bs} {f i : Nat} (h : CutI s ls f i) (hi : s.length ≤ i + 1) : cutG [] s = none := by
  obtain ⟨a, b, c⟩ := h
  have hl : (s.drop i).length ≤ 1 := by rw [List.length_drop]; omega
  have : ∀ cur, cutG cur (s.drop i) = none := fun cur => by
    generalize s.drop i = t at *
    match t, hl with
    | [], _ => rfl
    | [c], _ => rw [cutG_c (by intro t e; cases e)]; rfl
  rw [c, this]; rfl
/-- The lines' groups: a line and the ones that go on behind it. -/
def grp : List Bs → List Bs
  | [] => []
  | l :: r => unfG l r
theorem unfG_stop {cur : Bs} {ls : List Bs} (h : ∀ l r, ls = l :: r → isBl (l.headD 0) = false) : unfG cur ls = cur :: grp ls := by
  cases ls with
  | nil => rfl
  | cons l r => rw [unfG, if_neg (by rw [h l r rfl]; decide)]; rfl
theorem unf_grp {ls : List Bs} (h : ∀ l r, ls = l :: r → isBl (l.headD 0) = false) : unf ls = some (grp ls) := by
  cases ls with
  | nil => rfl
  | cons l r => rw [unf, if_neg (by rw [h l r rfl]; decide)]; rfl
theorem unf_no {l : Bs} {r : List Bs} (h : isBl (l.headD 0) = true) : unf (l :: r) = none := by rw [unf, if_pos h]
/-- Between the fields: the first k lines have told F. -/
structure RO (ls : List Bs) (k : Nat) (F : List Fd) : Prop where
  fd : fdsF (grp ls) = (fdsF (grp (ls.drop k))).map (F ++ ·)
  here : ∀ h : k < ls.length, 0 < k → isBl (ls[k].headD 0) = false
  first : 0 < k → ∀ l r, ls = l :: r → isBl (l.headD 0) = false
theorem RO.start (ls : List Bs) : RO ls 0 [] := ⟨by rw [List.drop_zero]; cases fdsF (grp ls) <;> rfl, fun _ h => absurd h (by omega), fun h => absurd h (by omega)⟩
/-- Within a field that began at k: w is what it is so far, m the next line. -/
structure RN (ls : List Bs) (k m : Nat) (w : Bs) : Prop where
  lt : k < m
  grow : grp (ls.drop k) = unfG w (ls.drop m)
  flat : w.length ≤ ls.flatten.length
  mid : w.length + (ls.drop m).flatten.length ≤ ls.flatten.length
theorem flat_drop (ls : List Bs) (k : Nat) : (ls.drop k).flatten.length ≤ ls.flatten.length := by
  have : ls.flatten.length = (ls.take k).flatten.length + (ls.drop k).flatten.length := by rw [← List.length_append, ← List.flatten_append, List.take_append_drop]
  omega
theorem RN.start {ls : List Bs} {k : Nat} (h : k < ls.length) : RN ls k (k + 1) ls[k] := by
  have e : ls.drop k = ls[k] :: ls.drop (k + 1) := List.drop_eq_getElem_cons h
  have h1 := flat_drop ls k
  rw [e, List.flatten_cons, List.length_append] at h1
  exact ⟨by omega, by rw [e]; rfl, by omega, by omega⟩
theorem RN.more {ls : List Bs} {k m : Nat} {w : Bs} (h : RN ls k m w) (hm : m < ls.length) (hb : isBl (ls[m].headD 0) = true) : RN ls k (m + 1) (w ++ ls[m]) := by
  have e : ls.drop m = ls[m] :: ls.drop (m + 1) := List.drop_eq_getElem_cons hm
  have h1 := h.mid
  rw [e, List.flatten_cons, List.length_append] at h1
  exact ⟨by have := h.lt; omega, by rw [h.grow, e, unfG, if_pos hb], by rw [List.length_append]; omega, by rw [List.length_append]; omega⟩
theorem RN.done {ls : List Bs} {k m : Nat} {w : Bs} (h : RN ls k m w) (hb : ∀ hm : m < ls.length, isBl (ls[m].headD 0) = false) : grp (ls.drop k) = w :: grp (ls.drop m) := by
  rw [h.grow]
  refine unfG_stop fun l r e => ?_
  have hm : m < ls.length := by
    rcases Nat.lt_or_ge m ls.length with h | h
    · exact h
    · rw [List.drop_eq_nil_of_le h] at e; cases e
  have e2 : ls.drop m = ls[m] :: ls.drop (m + 1) := List.drop_eq_getElem_cons hm
  rw [e2] at e
  rw [← (List.cons.inj e).1]
  exact hb hm
theorem RO.bad {ls : List Bs} {k m : Nat} {F : List Fd} {w : Bs} (h : RO ls k F) (hg : grp (ls.drop k) = w :: grp (ls.drop m)) (hf : fieldOf w = none) : fdsF (grp ls) = none := by
  rw [h.fd, hg, fdsF, hf]; rfl
theorem RO.next {ls : List Bs} {k m : Nat} {F : List Fd} {w : Bs} {f : Fd} (h : RO ls k F) (hk : k < ls.length) (hnb : isBl (ls[k].headD 0) = false) (hg : grp (ls.drop k) = w :: grp (ls.drop m)) (hf : fieldOf w = some f) (hkm : k < m) (hb : ∀ hm : m < ls.length, isBl (ls[m].headD 0) = false) : RO ls m (F ++ [f]) := by
  refine ⟨?_, fun hm _ => hb hm, fun _ => ?_⟩
  · rw [h.fd, hg, fdsF, hf]
    show ((fdsF (grp (ls.drop m))).map (f :: ·)).map _ = _
    rw [Option.map_map]
    congr 1
    funext x
    simp
  · rcases Nat.eq_zero_or_pos k with h0 | h0
    · subst h0
      intro l r e
      subst e
      exact hnb
    · exact h.first h0
theorem RO.first_ {ls : List Bs} {k : Nat} {F : List Fd} (h : RO ls k F) (hk : k < ls.length) (hnb : isBl (ls[k].headD 0) = false) : ∀ l r, ls = l :: r → isBl (l.headD 0) = false := by
  rcases Nat.eq_zero_or_pos k with h0 | h0
  · subst h0
    intro l r e
    subst e
    exact hnb
  · exact h.first h0
theorem RO.done {ls : List Bs} {F : List Fd} (h : RO ls ls.length F) : unf ls = some (grp ls) ∧ fdsF (grp ls) = some F := by
  constructor
  · refine unf_grp ?_
    rcases Nat.eq_zero_or_pos ls.length with h0 | h0
    · rw [List.eq_nil_of_length_eq_zero h0]; intro l r e; cases e
    · exact h.first h0
  · rw [h.fd, List.drop_length]
    show some (F ++ []) = _
    rw [List.append_nil]
/-- A blank first line: only the very first can be met. -/
theorem RO.blank {ls : List Bs} {k : Nat} {F : List Fd} (h : RO ls k F) (hk : k < ls.length) (hb : isBl (ls[k].headD 0) = true) : unf ls = none := by
  rcases Nat.eq_zero_or_pos k with h0 | h0
  · subst h0
    cases ls with
    | nil => simp at hk
    | cons l r => exact unf_no hb
  · rw [h.here hk h0] at hb; cases hb
end Go.Proofs.YtdaekoapkclliaaDoor
