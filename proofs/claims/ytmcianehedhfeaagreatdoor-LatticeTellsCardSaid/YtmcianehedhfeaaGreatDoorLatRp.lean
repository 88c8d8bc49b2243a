/- The document's lattice in plain words: bits one by one; a label's text name by name. They speak of no program. -/
import Derived.Test.YtmcianehedhfeaaGreatDoorLatR
import Derived.Test.YtmcianehedhfeaaGreatDoorLatC
import Derived.Test.YtmcianehedhfeaaGreatDoorLatH
set_option linter.unusedVariables false
set_option linter.unusedSimpArgs false
namespace Go.Proofs.YtmcianehedhfeaaGreatDoor
theorem bit_test (m i : Nat) : (m / 2 ^ i % 2 = 1) ↔ m.testBit i = true := by rw [Nat.testBit_eq_decide_div_mod_eq, decide_eq_true_iff]
theorem mod_next (m i : Nat) : m % 2 ^ (i + 1) = m % 2 ^ i + (if m / 2 ^ i % 2 = 1 then 2 ^ i else 0) := by
  rw [Nat.mod_pow_succ]
  rcases Nat.mod_two_eq_zero_or_one (m / 2 ^ i) with h | h
  · rw [h]; simp
  · rw [h]; simp
/-- Till bit i all that n has has m. -/
def SubT (n m i : Nat) : Prop := ∀ j, j < i → n / 2 ^ j % 2 = 1 → m / 2 ^ j % 2 = 1
theorem SubT.next {n m i : Nat} (h : SubT n m i) (hi : n / 2 ^ i % 2 = 1 → m / 2 ^ i % 2 = 1) : SubT n m (i + 1) := fun j hj hn => by
  rcases Nat.lt_or_ge j i with h' | h'
  · exact h j h' hn
  · obtain rfl : j = i := by omega
    exact hi hn
theorem SubT.done {n m : Nat} (h : SubT n m 64) (hn : n < M64) : subB n m := fun i hi => (bit_test m i).1 (h i (bit_lt hn hi) ((bit_test n i).2 hi))
theorem SubT.bad {n m i : Nat} (h1 : n / 2 ^ i % 2 = 1) (h2 : ¬ m / 2 ^ i % 2 = 1) : ¬ subB n m := fun h => h2 ((bit_test m i).2 (h i ((bit_test n i).1 h1)))
/-- From bit k to bit i none is there. -/
def NoneT (m k i : Nat) : Prop := ∀ j, k ≤ j → j < i → ¬ m / 2 ^ j % 2 = 1
theorem NoneT.next {m k i : Nat} (h : NoneT m k i) (hi : ¬ m / 2 ^ i % 2 = 1) : NoneT m k (i + 1) := fun j hk hj => by
  rcases Nat.lt_or_ge j i with h' | h'
  · exact h j hk h'
  · obtain rfl : j = i := by omega
    exact hi
theorem NoneT.done {m k : Nat} (h : NoneT m k 64) (hm : m < M64) : m < 2 ^ k := by
  refine Nat.lt_pow_two_of_testBit m fun i hi => ?_
  rcases Nat.lt_or_ge i 64 with h' | h'
  · cases hb : m.testBit i with
    | false => rfl
    | true => exact absurd ((bit_test m i).2 hb) (h i hi h')
  · exact Nat.testBit_lt_two_pow (Nat.lt_of_lt_of_le hm (show M64 ≤ 2 ^ i from Nat.pow_le_pow_right (n := 2) (by decide) h'))
theorem NoneT.bad {m k i : Nat} (hk : k ≤ i) (h : m / 2 ^ i % 2 = 1) : ¬ m < 2 ^ k := fun hm => by
  have h1 := Nat.testBit_lt_two_pow (Nat.lt_of_lt_of_le hm (Nat.pow_le_pow_right (n := 2) (by decide) hk))
  rw [(bit_test m i).1 h] at h1; cases h1
theorem or_bit (m n i : Nat) : (m ||| n) / 2 ^ i % 2 = 1 ↔ m / 2 ^ i % 2 = 1 ∨ n / 2 ^ i % 2 = 1 := by
  rw [bit_test, bit_test, bit_test, Nat.testBit_or, Bool.or_eq_true]
theorem and_bit (m n i : Nat) : (m &&& n) / 2 ^ i % 2 = 1 ↔ m / 2 ^ i % 2 = 1 ∧ n / 2 ^ i % 2 = 1 := by
  rw [bit_test, bit_test, bit_test, Nat.testBit_and, Bool.and_eq_true]
theorem mod64 {m : Nat} (h : m < M64) : m % 2 ^ 64 = m := Nat.mod_eq_of_lt h
theorem fl_snoc : ∀ (l : List Bs) (c : Bs), fl (l ++ [c]) = fl l ++ 47 :: c
  | [], c => by simp [fl]
  | x :: r, c => by rw [List.cons_append, fl, fl, fl_snoc r c]; simp
theorem tl_snoc (l : List Bs) (c : Bs) : tl (l ++ [c]) = if l = [] then 47 :: 47 :: c else tl l ++ 47 :: c := by
  unfold tl
  rw [if_neg (by simp), fl_snoc]
  by_cases h : l = []
  · rw [if_pos h, h]; rfl
  · rw [if_neg h, if_neg h]; rfl
/-- What the document's Parse tells, level by level. -/
theorem lp_none {lv cp : List Bs} (h : LatOk lv cp) {s : Bs} (hn : ∀ v (hv : v < lv.length), atLv cp lv[v] s = none) : lpF lv cp s = (0, 0, 2) :=
  lpF_none fun a m hl => by
    have := (atLv_is h hl.1).2 hl
    rw [hn a hl.1] at this; cases this
theorem lp_at {lv cp : List Bs} (h : LatOk lv cp) {s : Bs} {v m : Nat} (hv : v < lv.length) (e : atLv cp lv[v] s = some m) : lpF lv cp s = (v, m, 0) :=
  lpF_some h ((atLv_is h hv).1 e)
end Go.Proofs.YtmcianehedhfeaaGreatDoor
