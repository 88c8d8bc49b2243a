/- Package quoted: Decode, of the program and of the document. -/
import Derived.Test.YtjkonhpmfolcoaaDoorQuotF
set_option linter.unusedVariables false
set_option linter.unusedSimpArgs false
namespace Go.Proofs.YtjkonhpmfolcoaaDoor
open Go.RowKit
/-- What a told text says, if it is read without asking whether it is told just so. -/
def rawD : List UInt8 → Option (List UInt8)
  | [] => some []
  | 61 :: 13 :: 10 :: t => rawD t
  | 61 :: a :: b :: t => if valL a < 16 ∧ valL b < 16 then (rawD t).map (UInt8.ofNat (16 * valL a + valL b) :: ·) else none
  | 61 :: _ => none
  | c :: r => (rawD r).map (c :: ·)
def dec (s : List UInt8) : Option (List UInt8) := match rawD s with
  | none => none
  | some o => if enc o = s then some o else none
def decS (s : List UInt8) : ByteArray := ⟨((dec s).getD []).toArray⟩
def decC (s : List UInt8) : Int := if (dec s).isSome then 0 else 2
/-- Between the rounds: o was read, what is left begins at i. -/
def DcI (s o : List UInt8) (i : Nat) : Prop := i ≤ s.length ∧ rawD s = (rawD (s.drop i)).map (o ++ ·) ∧ o.length ≤ i
theorem DcI.start (s : List UInt8) : DcI s [] 0 := ⟨Nat.zero_le _, by simp, Nat.le_refl _⟩
theorem rawD_plain {c : UInt8} (h : c ≠ 61) (r : List UInt8) : rawD (c :: r) = (rawD r).map (c :: ·) := by
  rw [rawD.eq_def]
  split <;> first | (rename_i e; injection e with e1 e2; first | exact absurd e1 h | (subst e1 e2; rfl)) | (rename_i e; cases e)
theorem DcI.plain {s o : List UInt8} {i : Nat} (h : DcI s o i) (hi : i < s.length) (hc : s[i] ≠ 61) : DcI s (o ++ [s[i]]) (i + 1) := by
  obtain ⟨a, b, c⟩ := h
  refine ⟨by omega, ?_, by simp; omega⟩
  rw [b, List.drop_eq_getElem_cons hi, rawD_plain hc, Option.map_map]
  congr 1
  funext x
  simp
theorem DcI.soft {s o : List UInt8} {i : Nat} (h : DcI s o i) (hi : i + 2 < s.length) (hc : s[i] = 61) (h1 : s[i + 1] = 13) (h2 : s[i + 2] = 10) : DcI s o (i + 3) := by
  obtain ⟨a, b, c⟩ := h
  refine ⟨by omega, ?_, by omega⟩
  rw [b, List.drop_eq_getElem_cons (by omega), List.drop_eq_getElem_cons (show i + 1 < s.length by omega), List.drop_eq_getElem_cons (show i + 1 + 1 < s.length by omega), hc, h1, h2, rawD]
theorem rawD_code {a b : UInt8} {t : List UInt8} (h : ¬ (a = 13 ∧ b = 10)) : rawD (61 :: a :: b :: t) = if valL a < 16 ∧ valL b < 16 then (rawD t).map (UInt8.ofNat (16 * valL a + valL b) :: ·) else none := by
  rw [rawD.eq_def]
  split <;> first | (rename_i e; cases e; done) | skip
  all_goals
    rename_i e
    injection e with e1 e2
    try injection e2 with e2 e3
    try injection e3 with e3 e4
    first | (subst e2 e3 e4; first | exact absurd ⟨rfl, rfl⟩ h | rfl) | (exfalso; subst e2; simp_all; done) | (exfalso; simp_all; done)
theorem DcI.code {s o : List UInt8} {i : Nat} (h : DcI s o i) (hi : i + 2 < s.length) (hc : s[i] = 61) (h1 : ¬ (s[i + 1] = 13 ∧ s[i + 2] = 10)) (ha : valL s[i + 1] < 16) (hb : valL s[i + 2] < 16) : DcI s (o ++ [UInt8.ofNat (16 * valL s[i + 1] + valL s[i + 2])]) (i + 3) := by
  obtain ⟨a, b, c⟩ := h
  refine ⟨by omega, ?_, by simp; omega⟩
  rw [b, List.drop_eq_getElem_cons (by omega), List.drop_eq_getElem_cons (show i + 1 < s.length by omega), List.drop_eq_getElem_cons (show i + 1 + 1 < s.length by omega), hc, rawD_code h1, if_pos ⟨ha, hb⟩, Option.map_map]
  congr 1
  funext x
  simp
theorem DcI.bad {s o : List UInt8} {i : Nat} (h : DcI s o i) (hi : i + 2 < s.length) (hc : s[i] = 61) (h1 : ¬ (s[i + 1] = 13 ∧ s[i + 2] = 10)) (hv : ¬ (valL s[i + 1] < 16 ∧ valL s[i + 2] < 16)) : decS s = ⟨#[]⟩ ∧ decC s = 2 := by
  obtain ⟨a, b, c⟩ := h
  have : rawD s = none := by
    rw [b, List.drop_eq_getElem_cons (by omega), List.drop_eq_getElem_cons (show i + 1 < s.length by omega), List.drop_eq_getElem_cons (show i + 1 + 1 < s.length by omega), hc, rawD_code h1, if_neg hv]
    rfl
  simp [decS, decC, dec, this]
theorem DcI.short {s o : List UInt8} {i : Nat} (h : DcI s o i) (hi : i < s.length) (hc : s[i] = 61) (h1 : s.length ≤ i + 2) : decS s = ⟨#[]⟩ ∧ decC s = 2 := by
  obtain ⟨a, b, c⟩ := h
  have : rawD s = none := by
    rw [b, List.drop_eq_getElem_cons hi, hc]
    have hl : (s.drop (i + 1)).length ≤ 1 := by rw [List.length_drop]; omega
    generalize s.drop (i + 1) = t at *
    match t, hl with
    | [], _ => simp [rawD]
    | [c], _ => simp [rawD]
  simp [decS, decC, dec, this]
theorem DcI.done {s o : List UInt8} {i : Nat} (h : DcI s o i) (hi : s.length ≤ i) : rawD s = some o := by
  obtain ⟨a, b, c⟩ := h
  rw [b, List.drop_eq_nil_of_le hi]
  simp [rawD]
theorem dec_yes {s o : List UInt8} (h : rawD s = some o) (he : enc o = s) : decS s = ⟨o.toArray⟩ ∧ decC s = 0 := by simp [decS, decC, dec, h, he]
theorem dec_no {s o : List UInt8} (h : rawD s = some o) (he : enc o ≠ s) : decS s = ⟨#[]⟩ ∧ decC s = 2 := by simp [decS, decC, dec, h, he]
end Go.Proofs.YtjkonhpmfolcoaaDoor
