/- Base64 in plain words: letters of bytes, bytes of letters; what is encoded is decoded. They speak of no program. -/
import Derived.Lib.TrimByte
set_option linter.unusedVariables false
set_option linter.unusedSimpArgs false
namespace Go.Proofs.YteklocejgbippaaDoor
/-- The letter of a worth. -/
def L64 (v : Nat) : UInt8 := if v < 26 then UInt8.ofNat (65 + v) else if v < 52 then UInt8.ofNat (97 + v - 26) else if v < 62 then UInt8.ofNat (48 + v - 52) else if v = 62 then 43 else 47
/-- A letter's worth and one; 0: none. -/
def worth (c : UInt8) : Nat :=
  if 65 ≤ c.toNat ∧ c.toNat ≤ 90 then c.toNat - 64 else if 97 ≤ c.toNat ∧ c.toNat ≤ 122 then c.toNat - 70 else if 48 ≤ c.toNat ∧ c.toNat ≤ 57 then c.toNat + 5 else if c.toNat = 43 then 63 else if c.toNat = 47 then 64 else 0
theorem worth_L64 : ∀ v, v < 64 → worth (L64 v) = v + 1 := by decide
theorem L64_not : ∀ v, v < 64 → L64 v ≠ 61 ∧ L64 v ≠ 13 ∧ L64 v ≠ 10 := by decide
theorem L64_ge (v : Nat) (h : 64 ≤ v) : L64 v = 47 := by
  unfold L64; rw [if_neg (by omega), if_neg (by omega), if_neg (by omega), if_neg (by omega)]
theorem L64_nn (v : Nat) : L64 v ≠ 61 ∧ L64 v ≠ 13 ∧ L64 v ≠ 10 := by
  rcases Nat.lt_or_ge v 64 with h | h
  · exact L64_not v h
  · rw [L64_ge v h]; decide
theorem worth_le (c : UInt8) : worth c ≤ 64 := by
  have := c.toNat_lt
  unfold worth; repeat' split
  all_goals omega
theorem worth_none {c : UInt8} (h : worth c = 0) (v : Nat) : L64 v ≠ c := by
  intro e
  rcases Nat.lt_or_ge v 64 with hv | hv
  · rw [← e, worth_L64 v hv] at h; omega
  · rw [L64_ge v hv] at e; rw [← e] at h; revert h; decide
/-- The value of up to three bytes. -/
def val3 : List UInt8 → Nat
  | [] => 0
  | [a] => a.toNat * 65536
  | [a, b] => a.toNat * 65536 + b.toNat * 256
  | a :: b :: c :: _ => a.toNat * 65536 + b.toNat * 256 + c.toNat
/-- The j-th of four letters. -/
def quadAt (v n j : Nat) : UInt8 := if n < j then 61 else L64 (v / 2 ^ (18 - 6 * j) % 64)
def quad (v n : Nat) : List UInt8 := [quadAt v n 0, quadAt v n 1, quadAt v n 2, quadAt v n 3]
def enc : List UInt8 → List UInt8
  | [] => []
  | [a] => quad (val3 [a]) 1
  | [a, b] => quad (val3 [a, b]) 2
  | a :: b :: c :: r => quad (val3 [a, b, c]) 3 ++ enc r
theorem enc_step (s : List UInt8) (h : 0 < s.length) : enc s = quad (val3 s) (min 3 s.length) ++ enc (s.drop 3) := by
  match s with
  | [a] => simp [enc]
  | [a, b] => simp [enc]
  | a :: b :: c :: r =>
    have e : min 3 (a :: b :: c :: r).length = 3 := by simp
    rw [e]
    simp [enc, val3]
theorem enc_len (s : List UInt8) : (enc s).length = (s.length + 2) / 3 * 4 := by
  match s with
  | [] => rfl
  | [a] => simp [enc, quad]
  | [a, b] => simp [enc, quad]
  | a :: b :: c :: r =>
    have := enc_len r
    simp [enc, quad, this]; omega
/-- The letters without what fills. -/
def encT : List UInt8 → List UInt8
  | [] => []
  | [a] => [L64 (a.toNat / 4), L64 (a.toNat % 4 * 16)]
  | [a, b] => [L64 (a.toNat / 4), L64 (a.toNat % 4 * 16 + b.toNat / 16), L64 (b.toNat % 16 * 4)]
  | a :: b :: c :: r => L64 (a.toNat / 4) :: L64 (a.toNat % 4 * 16 + b.toNat / 16) :: L64 (b.toNat % 16 * 4 + c.toNat / 64) :: L64 (c.toNat % 64) :: encT r
def fills (n : Nat) : Nat := if n % 3 = 1 then 2 else if n % 3 = 2 then 1 else 0
theorem L64_arg {a b : Nat} (h : a = b) : L64 a = L64 b := by rw [h]
theorem enc_T (s : List UInt8) : enc s = encT s ++ List.replicate (fills s.length) 61 := by
  match s with
  | [] => rfl
  | [a] =>
    have ha := a.toNat_lt
    show quad (val3 [a]) 1 = [L64 (a.toNat / 4), L64 (a.toNat % 4 * 16), 61, 61]
    simp only [quad, quadAt, val3]
    rw [if_neg (by omega), if_neg (by omega), if_pos (by omega), if_pos (by omega), L64_arg (show a.toNat * 65536 / 2 ^ (18 - 6 * 0) % 64 = a.toNat / 4 by omega), L64_arg (show a.toNat * 65536 / 2 ^ (18 - 6 * 1) % 64 = a.toNat % 4 * 16 by omega)]
  | [a, b] =>
    have ha := a.toNat_lt
    have hb := b.toNat_lt
    show quad (val3 [a, b]) 2 = [L64 (a.toNat / 4), L64 (a.toNat % 4 * 16 + b.toNat / 16), L64 (b.toNat % 16 * 4), 61]
    simp only [quad, quadAt, val3]
    rw [if_neg (by omega), if_neg (by omega), if_neg (by omega), if_pos (by omega), L64_arg (show (a.toNat * 65536 + b.toNat * 256) / 2 ^ (18 - 6 * 0) % 64 = a.toNat / 4 by omega), L64_arg (show (a.toNat * 65536 + b.toNat * 256) / 2 ^ (18 - 6 * 1) % 64 = a.toNat % 4 * 16 + b.toNat / 16 by omega), L64_arg (show (a.toNat * 65536 + b.toNat * 256) / 2 ^ (18 - 6 * 2) % 64 = b.toNat % 16 * 4 by omega)]
  | a :: b :: c :: r =>
    have ha := a.toNat_lt
    have hb := b.toNat_lt
    have hc := c.toNat_lt
    have ih := enc_T r
    have e : fills (a :: b :: c :: r).length = fills r.length := by unfold fills; rw [show (a :: b :: c :: r).length % 3 = r.length % 3 by simp; omega]
    rw [e]
    show quad (val3 [a, b, c]) 3 ++ enc r = L64 (a.toNat / 4) :: L64 (a.toNat % 4 * 16 + b.toNat / 16) :: L64 (b.toNat % 16 * 4 + c.toNat / 64) :: L64 (c.toNat % 64) :: encT r ++ List.replicate (fills r.length) 61
    rw [ih]
    simp only [quad, quadAt, val3]
    rw [if_neg (by omega), if_neg (by omega), if_neg (by omega), if_neg (by omega), L64_arg (show (a.toNat * 65536 + b.toNat * 256 + c.toNat) / 2 ^ (18 - 6 * 0) % 64 = a.toNat / 4 by omega), L64_arg (show (a.toNat * 65536 + b.toNat * 256 + c.toNat) / 2 ^ (18 - 6 * 1) % 64 = a.toNat % 4 * 16 + b.toNat / 16 by omega), L64_arg (show (a.toNat * 65536 + b.toNat * 256 + c.toNat) / 2 ^ (18 - 6 * 2) % 64 = b.toNat % 16 * 4 + c.toNat / 64 by omega), L64_arg (show (a.toNat * 65536 + b.toNat * 256 + c.toNat) / 2 ^ (18 - 6 * 3) % 64 = c.toNat % 64 by omega)]
    simp
theorem encT_nn (s : List UInt8) : ∀ x ∈ encT s, ∃ v, v < 64 ∧ x = L64 v := by
  match s with
  | [] => intro x h; cases h
  | [a] =>
    have ha := a.toNat_lt
    intro x h
    simp only [encT, List.mem_cons, List.not_mem_nil, or_false] at h
    rcases h with h | h
    all_goals exact ⟨_, by omega, h⟩
  | [a, b] =>
    have ha := a.toNat_lt
    have hb := b.toNat_lt
    intro x h
    simp only [encT, List.mem_cons, List.not_mem_nil, or_false] at h
    rcases h with h | h | h
    all_goals exact ⟨_, by omega, h⟩
  | a :: b :: c :: r =>
    have ha := a.toNat_lt
    have hb := b.toNat_lt
    have hc := c.toNat_lt
    have ih := encT_nn r
    intro x h
    simp only [encT, List.mem_cons] at h
    rcases h with h | h | h | h | h
    · exact ⟨_, by omega, h⟩
    · exact ⟨_, by omega, h⟩
    · exact ⟨_, by omega, h⟩
    · exact ⟨_, by omega, h⟩
    · exact ih x h
theorem trim_enc (s : List UInt8) : Lib.trimRightB (enc s) 61 = encT s := by
  have h1 := encT_nn s
  rw [enc_T]
  generalize encT s = t at *
  generalize fills s.length = k
  unfold Lib.trimRightB
  rw [List.reverse_append, List.reverse_replicate]
  have h2 : ∀ (k : Nat) (l : List UInt8), (List.replicate k 61 ++ l).dropWhile (· == 61) = l.dropWhile (· == 61) := by
    intro k l
    induction k with
    | zero => rfl
    | succ k ih => rw [List.replicate_succ]; simp
  rw [h2]
  have h3 : t.reverse.dropWhile (· == 61) = t.reverse := by
    cases hr : t.reverse with
    | nil => rfl
    | cons x l =>
      obtain ⟨v, hv, rfl⟩ := h1 x (List.mem_reverse.1 (by rw [hr]; exact List.mem_cons_self))
      have := (L64_not v hv).1
      rw [List.dropWhile_cons_of_neg (by simpa using this)]
  rw [h3, List.reverse_reverse]
/-- The bytes of letters: v and n are what waits. -/
def decL : Nat → Nat → List UInt8 → Option (List UInt8)
  | _, _, [] => some []
  | v, n, c :: r => if worth c = 0 then none else if 8 ≤ n + 6 then (decL ((v * 64 + (worth c - 1)) % 2 ^ (n + 6 - 8)) (n + 6 - 8) r).map fun l => UInt8.ofNat ((v * 64 + (worth c - 1)) / 2 ^ (n + 6 - 8)) :: l else decL (v * 64 + (worth c - 1)) (n + 6) r
theorem decL_few {v n k : Nat} {r : List UInt8} (hk : k < 64) (hn : n < 2) : decL v n (L64 k :: r) = decL (v * 64 + k) (n + 6) r := by
  rw [decL, worth_L64 k hk, if_neg (by omega), if_neg (by omega), Nat.add_sub_cancel]
theorem decL_more {v n k : Nat} {r : List UInt8} (hk : k < 64) (hn : 2 ≤ n) : decL v n (L64 k :: r) = (decL ((v * 64 + k) % 2 ^ (n - 2)) (n - 2) r).map fun l => UInt8.ofNat ((v * 64 + k) / 2 ^ (n - 2)) :: l := by
  rw [decL, worth_L64 k hk, if_neg (by omega), if_pos (by omega), Nat.add_sub_cancel, show n + 6 - 8 = n - 2 by omega]
theorem ofn {c : UInt8} {k : Nat} (h : k = c.toNat) : UInt8.ofNat k = c := by rw [h]; exact UInt8.ofNat_toNat
theorem decL_encT (s : List UInt8) : decL 0 0 (encT s) = some s := by
  match s with
  | [] => rfl
  | [a] =>
    have ha := a.toNat_lt
    rw [encT, decL_few (by omega) (by omega), decL_more (by omega) (by omega)]
    simp only [decL, Option.map_some]
    rw [ofn (c := a) (by omega)]
  | [a, b] =>
    have ha := a.toNat_lt
    have hb := b.toNat_lt
    rw [encT, decL_few (by omega) (by omega), decL_more (by omega) (by omega), decL_more (by omega) (by omega)]
    simp only [decL, Option.map_some]
    rw [ofn (c := a) (by omega), ofn (c := b) (by omega)]
  | a :: b :: c :: r =>
    have ha := a.toNat_lt
    have hb := b.toNat_lt
    have hc := c.toNat_lt
    have ih := decL_encT r
    rw [encT, decL_few (by omega) (by omega), decL_more (by omega) (by omega), decL_more (by omega) (by omega), decL_more (by omega) (by omega)]
    have e1 : ((((0 * 64 + a.toNat / 4) * 64 + (a.toNat % 4 * 16 + b.toNat / 16)) % 2 ^ (0 + 6 - 2) * 64 + (b.toNat % 16 * 4 + c.toNat / 64)) % 2 ^ (0 + 6 - 2 - 2) * 64 + c.toNat % 64) % 2 ^ (0 + 6 - 2 - 2 - 2) = 0 := by omega
    rw [e1]
    simp only [show 0 + 6 - 2 - 2 - 2 = 0 by rfl]
    rw [ih]
    simp only [Option.map_some]
    rw [ofn (c := a) (by omega), ofn (c := b) (by omega), ofn (c := c) (by omega)]
/-- What decoding tells. -/
def dec (s : List UInt8) : Option (List UInt8) := (decL 0 0 (Lib.trimRightB s 61)).bind fun o => if enc o = s then some o else none
theorem dec_enc (y : List UInt8) : dec (enc y) = some y := by
  unfold dec; rw [trim_enc, decL_encT]; simp
theorem dec_iff (s y : List UInt8) : dec s = some y ↔ s = enc y := by
  constructor
  · intro h
    unfold dec at h
    cases hd : decL 0 0 (Lib.trimRightB s 61) with
    | none => rw [hd] at h; cases h
    | some o =>
      rw [hd] at h
      simp only [Option.bind_some] at h
      split at h
      · rename_i e; cases h; exact e.symm
      · cases h
  · rintro rfl; exact dec_enc y
theorem enc_inj {a b : List UInt8} (h : enc a = enc b) : a = b := by
  have := dec_enc a
  rw [h, dec_enc b] at this
  exact (Option.some.inj this).symm
/-- Whole threes go on with what stands behind. -/
theorem enc_app (a t : List UInt8) (h : a.length % 3 = 0) : enc (a ++ t) = enc a ++ enc t := by
  match a with
  | [] => rfl
  | [_] => simp at h
  | [_, _] => simp at h
  | x :: y :: z :: r =>
    have ih := enc_app r t (by simp at h; omega)
    simp [enc, ih]
/-- Every letter of an encoding is one. -/
def isLet (c : UInt8) : Prop := worth c ≠ 0 ∨ c = 61
theorem enc_lets (s : List UInt8) : ∀ x ∈ enc s, isLet x := by
  intro x h
  rw [enc_T] at h
  rcases List.mem_append.1 h with h | h
  · obtain ⟨v, hv, rfl⟩ := encT_nn s x h
    left; rw [worth_L64 v hv]; omega
  · right; exact (List.mem_replicate.1 h).2
theorem isLet_nn {c : UInt8} (h : isLet c) : c ≠ 13 ∧ c ≠ 10 := by
  rcases h with h | rfl
  · constructor
    all_goals rintro rfl; exact h rfl
  · decide
theorem enc_nn (s : List UInt8) : ∀ x ∈ enc s, x ≠ 13 ∧ x ≠ 10 := fun x h => isLet_nn (enc_lets s x h)
end Go.Proofs.YteklocejgbippaaDoor
