/- Base64 in plain words: folded letters. -/
import Derived.Test.YtlgkghpdmiageaaDoorBasG
import Derived.Lib.Replace
import Derived.Lib.CountLaws
import Derived.Lib.IndexLaws
import Derived.Lib.IndexMore
set_option linter.unusedVariables false
set_option linter.unusedSimpArgs false
namespace Go.Proofs.YtlgkghpdmiageaaDoor
open Go.RowKit
/-- Folded letters, line by line. -/
def foldR (l : List UInt8) : List UInt8 := if h : l = [] then [] else l.take 76 ++ [13, 10] ++ foldR (l.drop 76)
termination_by l.length
decreasing_by
  have := List.length_pos_iff.2 h
  simp; omega
theorem foldR_nil : foldR [] = [] := by rw [foldR]; rfl
theorem foldR_cons {l : List UInt8} (h : l ≠ []) : foldR l = l.take 76 ++ [13, 10] ++ foldR (l.drop 76) := by rw [foldR, dif_neg h]
theorem foldK_from (l : List UInt8) : ∀ (m k : Nat), m = (l.length + 75) / 76 - k → k ≤ (l.length + 75) / 76 → foldK l (chs l.length k) ++ foldR (l.drop (k * 76)) = foldL l
  | 0, k, hm, hk => by
    have : k = (l.length + 75) / 76 := by omega
    rw [List.drop_of_length_le (by omega), foldR_nil, List.append_nil, this]; rfl
  | m + 1, k, hm, hk => by
    have hlt : k * 76 < l.length := by omega
    have ih := foldK_from l m (k + 1) (by omega) (by omega)
    rw [chs_succ hlt, foldK_snoc] at ih
    rw [foldR_cons (by intro e; have := congrArg List.length e; simp at this; omega), List.drop_drop]
    rw [show k * 76 + 76 = (k + 1) * 76 by omega]
    rw [← ih]
    simp [chunk]
theorem foldL_R (l : List UInt8) : foldL l = foldR l := by
  have := foldK_from l _ 0 rfl (Nat.zero_le _)
  rw [Nat.zero_mul, List.drop_zero] at this
  rw [← this]; rfl
theorem foldR_len (l : List UInt8) : (foldR l).length = l.length + 2 * ((l.length + 75) / 76) := by
  by_cases h : l = []
  · rw [h, foldR_nil]; rfl
  · have hp := List.length_pos_iff.2 h
    have ih := foldR_len (l.drop 76)
    rw [foldR_cons h, List.length_append, List.length_append, ih, List.length_take, List.length_drop]
    simp only [List.length_cons, List.length_nil]
    omega
termination_by l.length
decreasing_by
  have := List.length_pos_iff.2 h
  simp; omega
theorem occ_no {c : List UInt8} (h : ∀ x ∈ c, x ≠ 13) (r : List UInt8) : Lib.NoOcc (c ++ 13 :: 10 :: r) [13, 10] c.length := by
  intro j hj
  unfold Lib.occAt
  have := h c[j] (List.getElem_mem _)
  rw [List.drop_append_of_le_length (by omega), List.drop_eq_getElem_cons hj]
  have e : ((13 : UInt8) == c[j]) = false := beq_false_of_ne (fun e => this e.symm)
  simp only [List.cons_append, List.isPrefixOf, e, Bool.false_and]
theorem idx_line {c : List UInt8} (h : ∀ x ∈ c, x ≠ 13) (r : List UInt8) : Lib.index (c ++ 13 :: 10 :: r) [13, 10] = (c.length : Int) :=
  Lib.index_hit (occ_no h r) (by simp) (by unfold Lib.occAt; rw [List.drop_left]; simp [List.isPrefixOf])
theorem replK_fold (l : List UInt8) (h : ∀ x ∈ l, x ≠ 13 ∧ x ≠ 10) : Lib.replaceK [13, 10] [] (Lib.count (foldR l) [13, 10]) (foldR l) = l := by
  by_cases hn : l = []
  · rw [hn, foldR_nil]; rfl
  · have hp := List.length_pos_iff.2 hn
    have ih := replK_fold (l.drop 76) (fun x hx => h x (List.mem_of_mem_drop hx))
    have hc : ∀ x ∈ l.take 76, x ≠ 13 := fun x hx => (h x (List.mem_of_mem_take hx)).1
    have he : foldR l = l.take 76 ++ 13 :: 10 :: foldR (l.drop 76) := by rw [foldR_cons hn]; simp
    have hi := idx_line hc (foldR (l.drop 76))
    rw [← he] at hi
    have hd : (foldR l).drop ((l.take 76).length + 2) = foldR (l.drop 76) := by
      rw [he, ← List.drop_drop, List.drop_left]; rfl
    have ht : (foldR l).take (l.take 76).length = l.take 76 := by rw [he, List.take_left]
    have hcn := Lib.count_hit (sub := [13, 10]) (by simp) hi
    rw [show ([13, 10] : List UInt8).length = 2 from rfl, hd] at hcn
    rw [hcn, Nat.add_comm, Lib.replaceK_hit [13, 10] [] _ (foldR l) _ hi, ht, show ([13, 10] : List UInt8).length = 2 from rfl, hd, ih, List.append_nil, List.take_append_drop]
termination_by l.length
decreasing_by
  have := List.length_pos_iff.2 hn
  simp; omega
theorem repl_fold (l : List UInt8) (h : ∀ x ∈ l, x ≠ 13 ∧ x ≠ 10) : Lib.replaceAll (foldR l) [13, 10] [] = l := by
  unfold Lib.replaceAll Lib.replace Lib.replaceNum
  rw [if_neg (by decide), if_pos (.inl (by decide))]
  exact replK_fold l h
/-- What unfolding tells. -/
def unf (s : List UInt8) : Option (List UInt8) := (dec (Lib.replaceAll s [13, 10] [])).bind fun o => if foldR (enc o) = s then some o else none
theorem unf_fold (y : List UInt8) : unf (foldR (enc y)) = some y := by
  unfold unf; rw [repl_fold _ (enc_nn y), dec_enc]; simp
theorem unf_iff (s y : List UInt8) : unf s = some y ↔ s = foldR (enc y) := by
  constructor
  · intro h
    unfold unf at h
    cases hd : dec (Lib.replaceAll s [13, 10] []) with
    | none => rw [hd] at h; cases h
    | some o =>
      rw [hd] at h
      simp only [Option.bind_some] at h
      split at h
      · rename_i e; cases h; exact e.symm
      · cases h
  · rintro rfl; exact unf_fold y
def unfStr (s : List UInt8) : ByteArray := match unf s with | some o => ⟨o.toArray⟩ | none => ⟨#[]⟩
def unfCode (s : List UInt8) : Int := match unf s with | some _ => 0 | none => 2
end Go.Proofs.YtlgkghpdmiageaaDoor
