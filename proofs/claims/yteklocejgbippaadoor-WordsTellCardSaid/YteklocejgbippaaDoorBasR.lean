/- Package mailguardref03: letter, bit; the document's Encode. -/
import Derived.Test.YteklocejgbippaaDoorBasDec
import Derived.Laws.ShiftsVarLaws
set_option linter.unusedVariables false
set_option linter.unusedSimpArgs false
namespace Go.Proofs.YteklocejgbippaaDoor
open Go.RowKit
/-- A bit of bytes; 0 behind them. -/
def bitAt (s : List UInt8) (i : Nat) : Nat := if i / 8 < s.length then (s.getD (i / 8) 0).toNat / 2 ^ (7 - i % 8) % 2 else 0
/-- The first k of the bits from i on, as a number. -/
def bitsN (s : List UInt8) (i : Nat) : Nat → Nat
  | 0 => 0
  | k + 1 => 2 * bitsN s i k + bitAt s (i + k)
theorem bitAt_lt (s : List UInt8) (i : Nat) : bitAt s i < 2 := by
  unfold bitAt; split
  · exact Nat.mod_lt _ (by decide)
  · decide
theorem bitsN_lt (s : List UInt8) (i k : Nat) : bitsN s i k < 2 ^ k := by
  induction k with
  | zero => simp [bitsN]
  | succ k ih =>
    have := bitAt_lt s (i + k)
    rw [bitsN, Nat.pow_succ]; omega
theorem bitAt_shift (a b c : UInt8) (r : List UInt8) (i : Nat) : bitAt (a :: b :: c :: r) (i + 24) = bitAt r i := by
  unfold bitAt
  have e1 : (i + 24) / 8 = i / 8 + 3 := by omega
  have e2 : (i + 24) % 8 = i % 8 := by omega
  rw [e1, e2]
  by_cases h : i / 8 < r.length
  · rw [if_pos h, if_pos (by simp; omega)]
    rfl
  · rw [if_neg h, if_neg (by simp; omega)]
theorem bitsN_shift (a b c : UInt8) (r : List UInt8) (i k : Nat) : bitsN (a :: b :: c :: r) (i + 24) k = bitsN r i k := by
  induction k with
  | zero => rfl
  | succ k ih => rw [bitsN, bitsN, ih, show i + 24 + k = (i + k) + 24 by omega, bitAt_shift]
theorem six_eq (s : List UInt8) (i : Nat) : bitsN s i 6 = 32 * bitAt s i + 16 * bitAt s (i + 1) + 8 * bitAt s (i + 2) + 4 * bitAt s (i + 3) + 2 * bitAt s (i + 4) + bitAt s (i + 5) := by
  simp only [bitsN, Nat.add_zero, Nat.mul_zero, Nat.zero_add]; omega
theorem encT_len (s : List UInt8) : (encT s).length = (8 * s.length + 5) / 6 := by
  match s with
  | [] => rfl
  | [a] => simp [encT]
  | [a, b] => simp [encT]
  | a :: b :: c :: r =>
    have := encT_len r
    simp only [encT, List.length_cons, this]; omega
/-- The m-th letter is the m-th six bits'. -/
theorem encT_get (s : List UInt8) (m : Nat) (h : m < (encT s).length) : (encT s)[m] = L64 (bitsN s (6 * m) 6) := by
  match s, m with
  | [], _ => simp [encT] at h
  | [a], 0 =>
    have ha := a.toNat_lt
    rw [six_eq]; simp only [encT, List.getElem_cons_zero]; apply L64_arg; simp [bitAt]; omega
  | [a], 1 =>
    have ha := a.toNat_lt
    rw [six_eq]; simp only [encT, List.getElem_cons_zero, List.getElem_cons_succ]; apply L64_arg; simp [bitAt]; omega
  | [a], m + 2 => exfalso; simp [encT] at h; omega
  | [a, b], 0 =>
    have ha := a.toNat_lt
    rw [six_eq]; simp only [encT, List.getElem_cons_zero]; apply L64_arg; simp [bitAt]; omega
  | [a, b], 1 =>
    have ha := a.toNat_lt
    have hb := b.toNat_lt
    rw [six_eq]; simp only [encT, List.getElem_cons_zero, List.getElem_cons_succ]; apply L64_arg; simp [bitAt]; omega
  | [a, b], 2 =>
    have hb := b.toNat_lt
    rw [six_eq]; simp only [encT, List.getElem_cons_zero, List.getElem_cons_succ]; apply L64_arg; simp [bitAt]; omega
  | [a, b], m + 3 => exfalso; simp [encT] at h; omega
  | a :: b :: c :: r, 0 =>
    have ha := a.toNat_lt
    rw [six_eq]; simp only [encT, List.getElem_cons_zero]; apply L64_arg; simp [bitAt]; omega
  | a :: b :: c :: r, 1 =>
    have ha := a.toNat_lt
    have hb := b.toNat_lt
    rw [six_eq]; simp only [encT, List.getElem_cons_zero, List.getElem_cons_succ]; apply L64_arg; simp [bitAt]; omega
  | a :: b :: c :: r, 2 =>
    have hb := b.toNat_lt
    have hc := c.toNat_lt
    rw [six_eq]; simp only [encT, List.getElem_cons_zero, List.getElem_cons_succ]; apply L64_arg; simp [bitAt]; omega
  | a :: b :: c :: r, 3 =>
    have hc := c.toNat_lt
    rw [six_eq]; simp only [encT, List.getElem_cons_zero, List.getElem_cons_succ]; apply L64_arg; simp [bitAt]; omega
  | a :: b :: c :: r, m + 4 =>
    have hm : m < (encT r).length := by simp [encT] at h; omega
    have ih := encT_get r m hm
    rw [show 6 * (m + 4) = 6 * m + 24 by omega, bitsN_shift, ← ih]
    simp only [encT, List.getElem_cons_succ]
end Go.Proofs.YteklocejgbippaaDoor
