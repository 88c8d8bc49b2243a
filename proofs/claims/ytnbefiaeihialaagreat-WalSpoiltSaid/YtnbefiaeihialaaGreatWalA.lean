/- Package wal in plain words: numbers, changes, their text; keys and values in order. -/
import Derived.Sort.KeysCollected
import Derived.Maps.OwnSet
import Derived.WideAt
set_option linter.unusedVariables false
set_option linter.unusedSimpArgs false
namespace Go.Proofs.YtnbefiaeihialaaGreat
abbrev Bs := List UInt8
/-- A number's bytes, the highest first. -/
def bigF (n : Nat) : Nat → Bs
  | 0 => []
  | k + 1 => UInt8.ofNat (n / 256 ^ k) :: bigF n k
theorem bigF_len (n k : Nat) : (bigF n k).length = k := by induction k with | zero => rfl | succ k ih => simp [bigF, ih]
/-- The number of bytes. -/
def numF (s : Bs) : Nat := s.foldl (fun v c => v * 256 + c.toNat) 0
theorem numF_app (a : Bs) (c : UInt8) : numF (a ++ [c]) = numF a * 256 + c.toNat := by simp [numF]
theorem foldl_num (s : Bs) : ∀ v, s.foldl (fun v c => v * 256 + c.toNat) v = v * 256 ^ s.length + numF s := by
  induction s with
  | nil => intro v; simp [numF]
  | cons c r ih =>
    intro v
    rw [List.foldl_cons, ih]
    have e : numF (c :: r) = r.foldl (fun v c => v * 256 + c.toNat) (0 * 256 + c.toNat) := rfl
    rw [e, ih, List.length_cons, Nat.pow_succ]
    rw [Nat.add_mul, Nat.zero_mul, Nat.zero_add, Nat.mul_assoc, Nat.mul_comm 256 (256 ^ r.length), Nat.add_assoc]
theorem numF_cons (c : UInt8) (r : Bs) : numF (c :: r) = c.toNat * 256 ^ r.length + numF r := by
  have e : numF (c :: r) = r.foldl (fun v c => v * 256 + c.toNat) (0 * 256 + c.toNat) := rfl
  rw [e, foldl_num, Nat.zero_mul, Nat.zero_add]
theorem numF_lt (s : Bs) : numF s < 256 ^ s.length := by
  induction s with
  | nil => simp [numF]
  | cons c r ih =>
    rw [numF_cons, List.length_cons, Nat.pow_succ]
    have := c.toNat_lt
    have h2 : c.toNat * 256 ^ r.length ≤ 255 * 256 ^ r.length := Nat.mul_le_mul_right _ (by omega)
    omega
theorem numF_bigF (n k : Nat) : numF (bigF n k) = n % 256 ^ k := by
  induction k with
  | zero => simp [bigF, numF, Nat.mod_one]
  | succ k ih =>
    rw [bigF, numF_cons, bigF_len, ih]
    have e : (UInt8.ofNat (n / 256 ^ k)).toNat = n / 256 ^ k % 256 := by simp
    rw [e]
    have h1 := Nat.mod_mul (x := n) (a := 256 ^ k) (b := 256)
    rw [Nat.pow_succ, h1, Nat.mul_comm]
    omega
theorem numF_big {n k : Nat} (h : n < 256 ^ k) : numF (bigF n k) = n := by rw [numF_bigF, Nat.mod_eq_of_lt h]
/-- A change of a key. -/
structure Ch where
  key : ByteArray
  val : ByteArray
  gone : Bool
def pr1 (c : Ch) : Bs := if c.gone = true then 1 :: (bigF c.key.size 2 ++ bigF 0 2 ++ c.key.data.toList) else 0 :: (bigF c.key.size 2 ++ bigF c.val.size 2 ++ c.key.data.toList ++ c.val.data.toList)
def Ch.Ok (c : Ch) : Prop := c.key.size ≤ 65535 ∧ c.val.size ≤ 65535
instance (c : Ch) : Decidable c.Ok := inferInstanceAs (Decidable (_ ∧ _))
def ChsOk (l : List Ch) : Prop := ∀ c ∈ l, c.Ok
instance (l : List Ch) : Decidable (ChsOk l) := inferInstanceAs (Decidable (∀ c ∈ l, c.Ok))
def prT (l : List Ch) : Bs := l.flatMap pr1
theorem prT_app (a b : List Ch) : prT (a ++ b) = prT a ++ prT b := List.flatMap_append ..
/-- What a change comes to behind printing and parsing. -/
def Ch.norm (c : Ch) : Ch := if c.gone = true then ⟨c.key, ⟨#[]⟩, true⟩ else c
/-- One change off a text, and what is left. -/
def pa1 (s : Bs) : Option (Ch × Bs) :=
  if s.length < 5 ∨ 1 < (s.getD 0 0).toNat then none
  else if s.length < 5 + numF ((s.drop 1).take 2) + numF ((s.drop 3).take 2) ∨ ((s.getD 0 0).toNat = 1 ∧ 0 < numF ((s.drop 3).take 2)) then none
  else some (⟨⟨((s.drop 5).take (numF ((s.drop 1).take 2))).toArray⟩, ⟨((s.drop (5 + numF ((s.drop 1).take 2))).take (numF ((s.drop 3).take 2))).toArray⟩, decide ((s.getD 0 0).toNat = 1)⟩, s.drop (5 + numF ((s.drop 1).take 2) + numF ((s.drop 3).take 2)))
theorem pa1_lt {s : Bs} {c : Ch} {r : Bs} (h : pa1 s = some (c, r)) : r.length < s.length := by
  unfold pa1 at h
  split at h
  · cases h
  · rename_i h0
    split at h
    · cases h
    · rename_i h1
      cases h
      rw [List.length_drop]; omega
def paN : Nat → Bs → Option (List Ch)
  | _, [] => some []
  | 0, _ :: _ => none
  | n + 1, c :: s => match pa1 (c :: s) with
    | none => none
    | some (x, r) => (paN n r).map (x :: ·)
def paT (s : Bs) : Option (List Ch) := paN s.length s
theorem paN_enough : ∀ (n m : Nat) (s : Bs), s.length ≤ n → s.length ≤ m → paN n s = paN m s := by
  intro n
  induction n with
  | zero => intro m s h1 h2; obtain rfl : s = [] := List.eq_nil_of_length_eq_zero (by omega); cases m <;> rfl
  | succ n ih =>
    intro m s h1 h2
    cases s with
    | nil => cases m <;> rfl
    | cons c s =>
      cases m with
      | zero => simp at h2
      | succ m =>
        unfold paN
        cases hp : pa1 (c :: s) with
        | none => rfl
        | some p =>
          obtain ⟨x, r⟩ := p
          have := pa1_lt hp
          show (paN n r).map _ = (paN m r).map _
          rw [ih m r (by simp at h1 this; omega) (by simp at h2 this; omega)]
theorem paT_nil : paT [] = some [] := rfl
theorem paT_cons {s : Bs} (h : s ≠ []) : paT s = match pa1 s with | none => none | some (x, r) => (paT r).map (x :: ·) := by
  cases s with
  | nil => exact absurd rfl h
  | cons c s =>
    show paN (s.length + 1) (c :: s) = _
    unfold paN
    cases hp : pa1 (c :: s) with
    | none => rfl
    | some p =>
      obtain ⟨x, r⟩ := p
      have := pa1_lt hp
      show (paN s.length r).map _ = (paT r).map _
      rw [paT, paN_enough s.length r.length r (by simp at this; omega) (Nat.le_refl _)]
theorem bsz (s : ByteArray) : s.data.toList.length = s.size := by rw [Array.length_toList]; rfl
theorem pr1_len (c : Ch) : (pr1 c).length = 5 + c.key.size + (if c.gone = true then 0 else c.val.size) := by
  unfold pr1
  split
  · simp [bigF_len, bsz]; omega
  · simp [bigF_len, bsz]; omega
theorem pa1_pr1 {c : Ch} (h : c.Ok) (r : Bs) : pa1 (pr1 c ++ r) = some (c.norm, r) := by
  obtain ⟨h1, h2⟩ := h
  have hk : numF (bigF c.key.size 2) = c.key.size := numF_big (by omega)
  have hv : numF (bigF c.val.size 2) = c.val.size := numF_big (by omega)
  have h0 : numF (bigF 0 2) = 0 := by decide
  unfold pr1 Ch.norm
  cases hg : c.gone with
  | true =>
    simp only [if_true]
    have e3 : ((1 :: (bigF c.key.size 2 ++ bigF 0 2 ++ c.key.data.toList) ++ r : Bs)).length = 5 + c.key.size + r.length := by simp [bigF_len, bsz]; omega
    have d1 : ((1 :: (bigF c.key.size 2 ++ bigF 0 2 ++ c.key.data.toList) ++ r : Bs).drop 1).take 2 = bigF c.key.size 2 := by
      show (bigF c.key.size 2 ++ bigF 0 2 ++ c.key.data.toList ++ r).take 2 = _
      rw [List.append_assoc, List.append_assoc, List.take_append_of_le_length (by rw [bigF_len]; omega), List.take_of_length_le (by rw [bigF_len]; omega)]
    have d2 : ((1 :: (bigF c.key.size 2 ++ bigF 0 2 ++ c.key.data.toList) ++ r : Bs).drop 3).take 2 = bigF 0 2 := by
      show ((bigF c.key.size 2 ++ bigF 0 2 ++ c.key.data.toList ++ r).drop 2).take 2 = _
      rw [List.append_assoc, List.append_assoc, List.drop_append_of_le_length (by rw [bigF_len]; omega), List.drop_eq_nil_of_le (by rw [bigF_len]; omega), List.nil_append, List.take_append_of_le_length (by rw [bigF_len]; omega), List.take_of_length_le (by rw [bigF_len]; omega)]
    have d3 : (1 :: (bigF c.key.size 2 ++ bigF 0 2 ++ c.key.data.toList) ++ r : Bs).drop 5 = c.key.data.toList ++ r := by
      show (bigF c.key.size 2 ++ bigF 0 2 ++ c.key.data.toList ++ r).drop 4 = _
      rw [List.append_assoc, List.drop_append_of_le_length (by simp [bigF_len]), List.drop_eq_nil_of_le (by simp [bigF_len]), List.nil_append]
    unfold pa1
    rw [e3, d1, d2, hk, h0]
    have hd : ((1 :: (bigF c.key.size 2 ++ bigF 0 2 ++ c.key.data.toList) ++ r : Bs)).getD 0 0 = 1 := rfl
    rw [hd]
    rw [if_neg (by intro e; rcases e with e | e; omega; exact absurd e (by decide)), if_neg (by intro e; rcases e with e | e; omega; obtain ⟨e1, e2⟩ := e; first | omega | exact absurd e1 (by decide)), d3]
    have e4 : (1 :: (bigF c.key.size 2 ++ bigF 0 2 ++ c.key.data.toList) ++ r : Bs).drop (5 + c.key.size) = r := by
      rw [← List.drop_drop, d3, ← bsz c.key, List.drop_left]
    have e5 : (c.key.data.toList ++ r).take c.key.size = c.key.data.toList := by rw [← bsz c.key, List.take_left]
    rw [Nat.add_zero, e4, e5]
    rfl
  | false =>
    simp only [Bool.false_eq_true, if_false]
    have e3 : ((0 :: (bigF c.key.size 2 ++ bigF c.val.size 2 ++ c.key.data.toList ++ c.val.data.toList) ++ r : Bs)).length = 5 + c.key.size + c.val.size + r.length := by simp [bigF_len, bsz]; omega
    have d1 : ((0 :: (bigF c.key.size 2 ++ bigF c.val.size 2 ++ c.key.data.toList ++ c.val.data.toList) ++ r : Bs).drop 1).take 2 = bigF c.key.size 2 := by
      show (bigF c.key.size 2 ++ bigF c.val.size 2 ++ c.key.data.toList ++ c.val.data.toList ++ r).take 2 = _
      rw [List.append_assoc, List.append_assoc, List.append_assoc, List.take_append_of_le_length (by rw [bigF_len]; omega), List.take_of_length_le (by rw [bigF_len]; omega)]
    have d2 : ((0 :: (bigF c.key.size 2 ++ bigF c.val.size 2 ++ c.key.data.toList ++ c.val.data.toList) ++ r : Bs).drop 3).take 2 = bigF c.val.size 2 := by
      show ((bigF c.key.size 2 ++ bigF c.val.size 2 ++ c.key.data.toList ++ c.val.data.toList ++ r).drop 2).take 2 = _
      rw [List.append_assoc, List.append_assoc, List.append_assoc, List.drop_append_of_le_length (by rw [bigF_len]; omega), List.drop_eq_nil_of_le (by rw [bigF_len]; omega), List.nil_append, List.take_append_of_le_length (by rw [bigF_len]; omega), List.take_of_length_le (by rw [bigF_len]; omega)]
    have d3 : (0 :: (bigF c.key.size 2 ++ bigF c.val.size 2 ++ c.key.data.toList ++ c.val.data.toList) ++ r : Bs).drop 5 = c.key.data.toList ++ (c.val.data.toList ++ r) := by
      show (bigF c.key.size 2 ++ bigF c.val.size 2 ++ c.key.data.toList ++ c.val.data.toList ++ r).drop 4 = _
      rw [List.append_assoc, List.append_assoc, List.drop_append_of_le_length (by simp [bigF_len]), List.drop_eq_nil_of_le (by simp [bigF_len]), List.nil_append]
    unfold pa1
    rw [e3, d1, d2, hk, hv]
    have hd : ((0 :: (bigF c.key.size 2 ++ bigF c.val.size 2 ++ c.key.data.toList ++ c.val.data.toList) ++ r : Bs)).getD 0 0 = 0 := rfl
    rw [hd]
    rw [if_neg (by intro e; rcases e with e | e; omega; exact absurd e (by decide)), if_neg (by intro e; rcases e with e | e; omega; obtain ⟨e1, e2⟩ := e; first | omega | exact absurd e1 (by decide)), d3]
    have e4 : (0 :: (bigF c.key.size 2 ++ bigF c.val.size 2 ++ c.key.data.toList ++ c.val.data.toList) ++ r : Bs).drop (5 + c.key.size) = c.val.data.toList ++ r := by
      rw [← List.drop_drop, d3, ← bsz c.key, List.drop_left]
    have e5 : (0 :: (bigF c.key.size 2 ++ bigF c.val.size 2 ++ c.key.data.toList ++ c.val.data.toList) ++ r : Bs).drop (5 + c.key.size + c.val.size) = r := by
      rw [← List.drop_drop, e4, ← bsz c.val, List.drop_left]
    rw [e5, e4, ← bsz c.key, ← bsz c.val, List.take_left, List.take_left]
    obtain ⟨k, v, g⟩ := c
    subst hg
    rfl
theorem parse_print {l : List Ch} (h : ChsOk l) : paT (prT l) = some (l.map Ch.norm) := by
  induction l with
  | nil => rfl
  | cons c r ih =>
    have hc : c.Ok := h c List.mem_cons_self
    have e : prT (c :: r) = pr1 c ++ prT r := rfl
    have hl := pr1_len c
    have ih2 := ih (fun x hx => h x (List.mem_cons_of_mem _ hx))
    rw [e, paT_cons (by intro e2; have := congrArg List.length e2; rw [List.length_append, hl] at this; simp only [List.length_nil] at this; omega), pa1_pr1 hc]
    show (paT (prT r)).map (c.norm :: ·) = _
    rw [ih2]
    rfl
end Go.Proofs.YtnbefiaeihialaaGreat
