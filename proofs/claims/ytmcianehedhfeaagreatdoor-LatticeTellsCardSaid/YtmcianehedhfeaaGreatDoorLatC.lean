/- Labels in plain words: who dominates whom; join and meet. They speak of no program. -/
import Derived.Test.YtmcianehedhfeaaGreatDoorLatA
import Derived.Laws.BitsAllLaws
set_option linter.unusedVariables false
set_option linter.unusedSimpArgs false
namespace Go.Proofs.YtmcianehedhfeaaGreatDoor
/-- All of n's bits are m's. -/
def subB (n m : Nat) : Prop := ∀ i, n.testBit i = true → m.testBit i = true
abbrev M64 : Nat := 18446744073709551616
theorem bit_lt {m i : Nat} (hm : m < M64) (hi : m.testBit i = true) : i < 64 := by
  rcases Nat.lt_or_ge i 64 with h | h
  · exact h
  · rw [Nat.testBit_lt_two_pow (Nat.lt_of_lt_of_le hm (show M64 ≤ 2 ^ i from Nat.pow_le_pow_right (n := 2) (by decide) h))] at hi
    cases hi
theorem andNot_zero {n m : Nat} (hn : n < M64) (hm : m < M64) : n &&& (18446744073709551615 - m) = 0 ↔ subB n m := by
  have e : 18446744073709551615 - m = 2 ^ 64 - (m + 1) := by
    show _ = 18446744073709551616 - (m + 1); omega
  rw [e]
  constructor
  · intro h i hi
    have h1 := congrArg (fun x => x.testBit i) h
    simp only [Nat.testBit_and, hi, Bool.true_and, Nat.zero_testBit] at h1
    rw [Nat.testBit_two_pow_sub_succ hm, Bool.and_eq_false_iff] at h1
    rcases h1 with h1 | h1
    · have := bit_lt hn hi
      rw [decide_eq_false_iff_not] at h1; exact absurd this h1
    · simpa using h1
  · intro h
    apply Nat.eq_of_testBit_eq
    intro i
    rw [Nat.testBit_and, Nat.zero_testBit, Nat.testBit_two_pow_sub_succ hm]
    cases hi : n.testBit i with
    | false => rfl
    | true => rw [h i hi]; simp
theorem subB.refl (n : Nat) : subB n n := fun _ h => h
theorem subB.trans {a b c : Nat} (h : subB a b) (k : subB b c) : subB a c := fun i x => k i (h i x)
theorem subB.eq {a b : Nat} (h : subB a b) (k : subB b a) : a = b := by
  apply Nat.eq_of_testBit_eq
  intro i
  rw [Bool.eq_iff_iff]; exact ⟨h i, k i⟩
theorem subB.or_l (a b : Nat) : subB a (a ||| b) := fun i h => by rw [Nat.testBit_or, h]; rfl
theorem subB.or_r (a b : Nat) : subB b (a ||| b) := fun i h => by rw [Nat.testBit_or, h, Bool.or_true]
theorem subB.or {a b c : Nat} (h : subB a c) (k : subB b c) : subB (a ||| b) c := fun i x => by
  rw [Nat.testBit_or, Bool.or_eq_true] at x
  exact x.elim (h i) (k i)
theorem subB.and_l (a b : Nat) : subB (a &&& b) a := fun i h => by
  rw [Nat.testBit_and, Bool.and_eq_true] at h; exact h.1
theorem subB.and_r (a b : Nat) : subB (a &&& b) b := fun i h => by
  rw [Nat.testBit_and, Bool.and_eq_true] at h; exact h.2
theorem subB.and {a b c : Nat} (h : subB c a) (k : subB c b) : subB c (a &&& b) := fun i x => by
  rw [Nat.testBit_and, h i x, k i x]; rfl
theorem subB.zero (m : Nat) : subB 0 m := fun i h => by rw [Nat.zero_testBit] at h; cases h
theorem or_lt {a b : Nat} (ha : a < M64) (hb : b < M64) : a ||| b < M64 := Nat.or_lt_two_pow (n := 64) ha hb
theorem and_lt {a b : Nat} (ha : a < M64) : a &&& b < M64 := Nat.lt_of_le_of_lt Nat.and_le_left ha
theorem notOf_lt (m : Nat) : 18446744073709551615 - m < M64 := by show _ < 18446744073709551616; omega
open Classical in
/-- Does (a, m) dominate (b, n)? -/
noncomputable def domB (a : Int) (m : Nat) (b : Int) (n : Nat) : Bool := decide (b ≤ a ∧ subB n m)
open Classical in
theorem domB_true {a b : Int} {m n : Nat} : domB a m b n = true ↔ b ≤ a ∧ subB n m := by unfold domB; rw [decide_eq_true_iff]
open Classical in
theorem domB_false {a b : Int} {m n : Nat} : domB a m b n = false ↔ ¬ (b ≤ a ∧ subB n m) := by unfold domB; rw [decide_eq_false_iff_not]
end Go.Proofs.YtmcianehedhfeaaGreatDoor
