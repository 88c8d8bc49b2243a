/- The document's fold in plain words: index by index. -/
import Derived.Test.YtdaekoapkclliaaDoorHdrY
set_option linter.unusedVariables false
set_option linter.unusedSimpArgs false
namespace Go.Proofs.YtdaekoapkclliaaDoor
open Go.RowKit
/-- The longest line's length. -/
def mxL : List Bs → Nat
  | [] => 0
  | x :: r => max x.length (mxL r)
theorem mxL_app (a b : List Bs) : mxL (a ++ b) = max (mxL a) (mxL b) := by
  induction a with
  | nil => simp [mxL]
  | cons x r ih => rw [List.cons_append, mxL, mxL, ih]; omega
theorem mxL_le {ls : List Bs} {m : Nat} : mxL ls ≤ m ↔ ∀ x ∈ ls, x.length ≤ m := by
  induction ls with
  | nil => simp [mxL]
  | cons x r ih =>
    rw [mxL, List.forall_mem_cons, ← ih]; omega
/-- Of the words of b the first k are known; the next one begins at f; one looks at i. -/
def WI (b : Bs) (k f i : Nat) : Prop := f ≤ i ∧ i ≤ b.length ∧ ∃ done : List Bs, done.length = k ∧ wd b = done ++ pre ((b.drop f).take (i - f)) (wd (b.drop i))
theorem WI.start (b : Bs) : WI b 0 0 0 := ⟨Nat.le_refl _, Nat.zero_le _, [], rfl, by simp [pre_nil (wd_ne b)]⟩
theorem WI.miss {b : Bs} {k f i : Nat} (h : WI b k f i) (hi : i < b.length) (hc : b[i] ≠ 32) : WI b k f (i + 1) := by
  obtain ⟨h1, h2, dn, h3, h4⟩ := h
  refine ⟨by omega, hi, dn, h3, ?_⟩
  have hd : b.drop i = b[i] :: b.drop (i + 1) := List.drop_eq_getElem_cons hi
  rw [h4, hd, wd, if_neg hc, pre_cons (wd_ne _)]
  congr 2
  rw [show i + 1 - f = (i - f) + 1 by omega, List.take_succ_eq_append_getElem (by rw [List.length_drop]; omega)]
  congr 1
  rw [List.getElem_drop]
  congr 2
  omega
theorem WI.hit {b : Bs} {k f i : Nat} (h : WI b k f i) (hi : i < b.length) (hc : b[i] = 32) : (wd b).getD k [] = (b.drop f).take (i - f) ∧ k < (wd b).length ∧ WI b (k + 1) (i + 1) (i + 1) := by
  obtain ⟨h1, h2, dn, h3, h4⟩ := h
  have hd : b.drop i = b[i] :: b.drop (i + 1) := List.drop_eq_getElem_cons hi
  rw [hd, hc, wd, if_pos rfl] at h4
  have h5 : wd b = dn ++ (b.drop f).take (i - f) :: wd (b.drop (i + 1)) := by rw [h4]; simp [pre]
  refine ⟨?_, by rw [h5, List.length_append, List.length_cons]; omega, Nat.le_refl _, hi, dn ++ [(b.drop f).take (i - f)], by simp [h3], ?_⟩
  · rw [h5, List.getD_eq_getElem?_getD, List.getElem?_append_right (by omega), h3]; simp
  · rw [h5, show i + 1 - (i + 1) = 0 by omega, List.take_zero, pre_nil (wd_ne _)]; simp
theorem WI.last {b : Bs} {k f : Nat} (h : WI b k f b.length) : (wd b).getD k [] = b.drop f ∧ (wd b).length = k + 1 := by
  obtain ⟨h1, h2, dn, h3, h4⟩ := h
  have h5 : wd b = dn ++ [b.drop f] := by
    rw [h4, List.drop_length]
    have : (b.drop f).take (b.length - f) = b.drop f := List.take_of_length_le (by rw [List.length_drop]; exact Nat.le_refl _)
    rw [this]
    show dn ++ pre (b.drop f) [[]] = _
    simp [pre]
  refine ⟨?_, by rw [h5, List.length_append, h3]; rfl⟩
  rw [h5, List.getD_eq_getElem?_getD, List.getElem?_append_right (by omega), h3]; simp
/-- What fold has made of the first k words. -/
structure FoS (n b : Bs) (k : Nat) (o : Bs) (nn lg : Nat) : Prop where
  out : o = ctL (foldS n (wd b) k).1 ++ (foldS n (wd b) k).2
  cur : nn = (foldS n (wd b) k).2.length
  long : lg = max (mxL (foldS n (wd b) k).1) (foldS n (wd b) k).2.length
theorem FoS.start (n b : Bs) : FoS n b 0 (n ++ [58]) (n.length + 1) (n.length + 1) := ⟨by simp [foldS, ctL], by simp [foldS], by simp [foldS, mxL]⟩
/-- One word more, on a new line. -/
theorem FoS.wrap {n b : Bs} {k : Nat} {o : Bs} {nn lg : Nat} (h : FoS n b k o nn lg) (hk : k ≠ 0) {x : Bs} (hx : (wd b).getD k [] = x) (hne : 0 < x.length) (h78 : 78 < nn + 1 + x.length) :
    FoS n b (k + 1) (o ++ [13, 10] ++ 32 :: x) (1 + x.length) (max lg (1 + x.length)) := by
  have e : foldS n (wd b) (k + 1) = ((foldS n (wd b) k).1 ++ [(foldS n (wd b) k).2], 32 :: x) := by
    rw [foldS, hx]
    unfold stp
    rw [if_pos ⟨by simpa using hk, fun e => by rw [e] at hne; simp at hne, by rw [← h.cur]; omega⟩]
  refine ⟨?_, ?_, ?_⟩
  · rw [e, h.out, ctL_app]; simp [ctL]
  · rw [e]; simp; omega
  · rw [e, h.long, mxL_app]; simp [mxL]; omega
/-- One word more, on the same line. -/
theorem FoS.same {n b : Bs} {k : Nat} {o : Bs} {nn lg : Nat} (h : FoS n b k o nn lg) {x : Bs} (hx : (wd b).getD k [] = x) (hno : ¬ (k ≠ 0 ∧ 0 < x.length ∧ 78 < nn + 1 + x.length)) :
    FoS n b (k + 1) (o ++ 32 :: x) (nn + 1 + x.length) (max lg (nn + 1 + x.length)) := by
  have e : foldS n (wd b) (k + 1) = ((foldS n (wd b) k).1, (foldS n (wd b) k).2 ++ 32 :: x) := by
    rw [foldS, hx]
    unfold stp
    rw [if_neg]
    rintro ⟨a1, a2, a3⟩
    refine hno ⟨by simpa using a1, List.length_pos_iff.2 a2, ?_⟩
    rw [h.cur]; omega
  refine ⟨?_, ?_, ?_⟩
  · rw [e, h.out]; simp
  · rw [e, h.cur]; simp; omega
  · rw [e, h.long, h.cur]; simp; omega
theorem FoS.done {n b : Bs} {k : Nat} {o : Bs} {nn lg : Nat} (h : FoS n b k o nn lg) (hk : k = (wd b).length) (hb : b ≠ []) : o ++ [13, 10] = ctL (foldL n b) ∧ lg = mxL (foldL n b) := by
  subst hk
  unfold foldL
  rw [if_neg hb, ctL_app, mxL_app, h.out, h.long]
  exact ⟨by simp [ctL], by simp [mxL]⟩
theorem fold_empty (n : Bs) : n ++ [58] ++ [13, 10] = ctL (foldL n []) ∧ n.length + 1 = mxL (foldL n []) := by
  unfold foldL; rw [if_pos rfl]; exact ⟨by simp [ctL], by simp [mxL]⟩
end Go.Proofs.YtdaekoapkclliaaDoor
