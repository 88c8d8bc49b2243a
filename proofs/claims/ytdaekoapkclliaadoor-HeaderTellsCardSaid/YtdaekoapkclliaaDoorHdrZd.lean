/- Blanks off, byte by byte. -/
import Derived.Test.YtdaekoapkclliaaDoorHdrZc
set_option linter.unusedVariables false
set_option linter.unusedSimpArgs false
namespace Go.Proofs.YtdaekoapkclliaaDoor
open Go.RowKit
theorem dropWhile_all {p : UInt8 → Bool} {l r : Bs} (h : ∀ c ∈ l, p c = true) : (l ++ r).dropWhile p = r.dropWhile p := by
  induction l with
  | nil => rfl
  | cons c t ih => rw [List.cons_append, List.dropWhile_cons, if_pos (h c List.mem_cons_self), ih (fun x hx => h x (List.mem_cons_of_mem _ hx))]
theorem trB_mid {p m q : Bs} (hp : ∀ c ∈ p, isBl c = true) (hq : ∀ c ∈ q, isBl c = true) (hm : m = [] ∨ ∃ h : 0 < m.length, isBl m[0] = false ∧ isBl (m[m.length - 1]'(by omega)) = false) : trB (p ++ m ++ q) = m := by
  have e : trB (p ++ m ++ q) = (((p ++ m ++ q).reverse.dropWhile isBl).reverse).dropWhile isBl := rfl
  rw [e, List.reverse_append, dropWhile_all (fun c hc => hq c (List.mem_reverse.1 hc))]
  rcases hm with rfl | ⟨h0, a1, a2⟩
  · rw [List.append_nil]
    have : p.reverse.dropWhile isBl = [] := by
      have := dropWhile_all (l := p.reverse) (r := []) (fun c hc => hp c (List.mem_reverse.1 hc))
      rw [List.append_nil] at this
      rw [this]; rfl
    rw [this]; rfl
  · have hl : 0 < (p ++ m).reverse.length := by rw [List.length_reverse, List.length_append]; omega
    have h1 := dropWhile_self (p := isBl) hl
    have hlast : (p ++ m).reverse[0]'hl = m[m.length - 1]'(by omega) := by
      rw [List.getElem_reverse]
      rw [List.getElem_append_right (by rw [List.length_append]; omega)]
      congr 1
      rw [List.length_append]; omega
    rw [hlast] at h1
    rw [h1.2 a2, List.reverse_reverse, dropWhile_all hp]
    exact (dropWhile_self h0).2 a1
/-- What the two loops leave: v[a..b]. -/
theorem trB_ab {v : Bs} {a b : Nat} (hab : a ≤ b) (hb : b ≤ v.length) (h1 : ∀ (j : Nat) (h : j < v.length), j < a → isBl v[j] = true) (h2 : ∀ (j : Nat) (h : j < v.length), b ≤ j → isBl v[j] = true) (h3 : ∀ h : a < b, isBl (v[a]'(by omega)) = false ∧ isBl (v[b - 1]'(by omega)) = false) : trB v = (v.drop a).take (b - a) := by
  have e : v = v.take a ++ (v.drop a).take (b - a) ++ v.drop b := by
    rw [List.append_assoc]
    have : (v.drop a).take (b - a) ++ v.drop b = v.drop a := by
      have h4 : v.drop b = (v.drop a).drop (b - a) := by rw [List.drop_drop]; congr 1; omega
      rw [h4, List.take_append_drop]
    rw [this, List.take_append_drop]
  conv => lhs; rw [e]
  refine trB_mid (fun c hc => ?_) (fun c hc => ?_) ?_
  · obtain ⟨j, hj, rfl⟩ := List.mem_iff_getElem.1 hc
    rw [List.length_take] at hj
    rw [List.getElem_take]
    exact h1 j (by omega) (by omega)
  · obtain ⟨j, hj, rfl⟩ := List.mem_iff_getElem.1 hc
    rw [List.length_drop] at hj
    rw [List.getElem_drop]
    exact h2 (b + j) (by omega) (by omega)
  · rcases Nat.eq_or_lt_of_le hab with h | h
    · left; rw [h, Nat.sub_self, List.take_zero]
    · right
      have hlen : ((v.drop a).take (b - a)).length = b - a := by rw [List.length_take, List.length_drop]; omega
      refine ⟨by omega, ?_, ?_⟩
      · rw [List.getElem_take, List.getElem_drop]
        exact (h3 h).1
      · rw [List.getElem_take, List.getElem_drop]
        have := (h3 h).2
        have hi : a + (((v.drop a).take (b - a)).length - 1) = b - 1 := by omega
        simp only [hi]
        exact this
theorem head0 {x : ByteArray} (h : 0 < x.size) : x.data.toList.headD 0 = x[0] := by
  have hl : 0 < x.data.toList.length := by rw [bsize]; exact h
  have e : x.data.toList[0] = x[0] := rfl
  cases hd : x.data.toList with
  | nil => rw [hd] at hl; simp at hl
  | cons c t =>
    rw [← e]
    simp [hd]
/-- No colon in the first c bytes. -/
theorem cut_none {w : Bs} (h : ∀ x ∈ w, x ≠ 58) : (Lib.cut w [58]).2.2 = false := by
  have hi : Lib.index w [58] = -1 := by
    induction w with
    | nil => decide
    | cons c t ih => rw [index_one, if_neg (h c List.mem_cons_self), ih (fun x hx => h x (List.mem_cons_of_mem _ hx))]; rfl
  unfold Lib.cut
  rw [hi, if_neg (by decide)]
theorem cut_here {w : Bs} {c : Nat} (hc : c < w.length) (h : ∀ (j : Nat) (h : j < w.length), j < c → w[j] ≠ 58) (h2 : w[c] = 58) : Lib.cut w [58] = (w.take c, w.drop (c + 1), true) := by
  have e : w = w.take c ++ 58 :: w.drop (c + 1) := by
    rw [← h2, ← List.drop_eq_getElem_cons hc, List.take_append_drop]
  conv => lhs; rw [e]
  refine cut_at1 (fun x hx => ?_) _
  obtain ⟨j, hj, rfl⟩ := List.mem_iff_getElem.1 hx
  rw [List.length_take] at hj
  rw [List.getElem_take]
  exact h j (by omega) (by omega)
end Go.Proofs.YtdaekoapkclliaaDoor
