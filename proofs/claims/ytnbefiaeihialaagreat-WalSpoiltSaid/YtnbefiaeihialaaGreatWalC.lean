/- A record's bytes; how one is found again. -/
import Derived.Test.YtnbefiaeihialaaGreatWalB
set_option linter.unusedVariables false
set_option linter.unusedSimpArgs false
namespace Go.Proofs.YtnbefiaeihialaaGreat
/-- How many sectors a record of so many bytes has. -/
def secN (n : Nat) : Nat := (n + 64) / 64
def recH (gen n : Nat) (text : Bs) : Bs := [77, 71] ++ bigF gen 4 ++ bigF n 4 ++ bigF text.length 4 ++ text
def recF (sha : Bs → Bs) (gen n : Nat) (text : Bs) : Bs := recH gen n text ++ sha (recH gen n text)
/-- With its mark. -/
def laidF (b : Bs) : Bs := b.take 63 ++ List.replicate (63 - b.length) 0 ++ [77] ++ b.drop 63
def pad (s : Bs) : Bs := s ++ List.replicate (64 - s.length) 0
def chunk (b : Bs) (i : Nat) : Bs := ((laidF b).drop (i * 64)).take 64
def joinR (rd : Nat → Bs) (at_ : Nat) : Nat → Bs
  | 0 => []
  | q + 1 => joinR rd at_ q ++ rd (at_ + q)
def lenF (x : Bs) : Nat := numF ((x.drop 10).take 4)
def bodyF (r : Bs) (L : Nat) : Bs := (r.take 63 ++ r.drop 64).take (46 + L)
def GoodR (sha : Bs → Bs) (r : Bs) (L : Nat) : Prop := r.getD 63 0 = 77 ∧ (bodyF r L).take 2 = [77, 71] ∧ (bodyF r L).drop (14 + L) = sha ((bodyF r L).take (14 + L))
instance (sha : Bs → Bs) (r : Bs) (L : Nat) : Decidable (GoodR sha r L) := inferInstanceAs (Decidable (_ ∧ _))
def tellF (r : Bs) (L : Nat) : Nat × Nat × Bs := (numF (((bodyF r L).drop 2).take 4), numF (((bodyF r L).drop 6).take 4), ((bodyF r L).take (14 + L)).drop 14)
/-- The record at a sector of a half: its generation, its number, its text. -/
def findF (sha : Bs → Bs) (rd : Nat → Bs) (half at_ : Nat) : Option (Nat × Nat × Bs) :=
  if half ≤ at_ then none
  else if half < at_ + secN (46 + lenF (rd at_)) then none
  else if GoodR sha (joinR rd at_ (secN (46 + lenF (rd at_)))) (lenF (rd at_)) then some (tellF (joinR rd at_ (secN (46 + lenF (rd at_)))) (lenF (rd at_)))
  else none
theorem secN_pos (n : Nat) : 1 ≤ secN n := by unfold secN; omega
theorem recH_len (g n : Nat) (t : Bs) : (recH g n t).length = 14 + t.length := by simp [recH, bigF_len]; omega
theorem joinR_congr {rd rd' : Nat → Bs} {a : Nat} : ∀ q, (∀ i, i < q → rd (a + i) = rd' (a + i)) → joinR rd a q = joinR rd' a q
  | 0, _ => rfl
  | q + 1, h => by unfold joinR; rw [joinR_congr q (fun i hi => h i (by omega)), h q (by omega)]
/-- A record is found by the sectors that it has. -/
theorem find_congr {sha : Bs → Bs} {rd rd' : Nat → Bs} {half a : Nat} (h0 : rd a = rd' a) (h : ∀ i, i < secN (46 + lenF (rd a)) → a + i < half → rd (a + i) = rd' (a + i)) : findF sha rd half a = findF sha rd' half a := by
  unfold findF
  by_cases h1 : half ≤ a
  · rw [if_pos h1, if_pos h1]
  · rw [if_neg h1, if_neg h1, ← h0]
    by_cases h2 : half < a + secN (46 + lenF (rd a))
    · rw [if_pos h2, if_pos h2]
    · rw [if_neg h2, if_neg h2, joinR_congr _ (fun i hi => h i hi (by omega))]
theorem joinR_get63 {rd : Nat → Bs} {a : Nat} : ∀ {q : Nat}, 1 ≤ q → 64 ≤ (rd a).length → (joinR rd a q).getD 63 0 = (rd a).getD 63 0
  | 1, _, h => by simp [joinR]
  | q + 2, _, h => by
    have ih := joinR_get63 (rd := rd) (a := a) (q := q + 1) (by omega) h
    have hl : 64 ≤ (joinR rd a (q + 1)).length := by
      clear ih
      induction q with
      | zero => simp [joinR]; exact h
      | succ q ihq => unfold joinR; rw [List.length_append]; omega
    rw [← ih]
    conv => lhs; unfold joinR
    rw [List.getD_eq_getElem?_getD, List.getElem?_append_left (by omega), ← List.getD_eq_getElem?_getD]
/-- Where the mark lacks there is none. -/
theorem find_none {sha : Bs → Bs} {rd : Nat → Bs} {half a : Nat} (hl : 64 ≤ (rd a).length) (h : (rd a).getD 63 0 ≠ 77) : findF sha rd half a = none := by
  unfold findF
  split
  · rfl
  · split
    · rfl
    · rw [if_neg]
      intro hg
      have := hg.1
      rw [joinR_get63 (secN_pos _) hl] at this
      exact h this
theorem find_far {sha : Bs → Bs} {rd : Nat → Bs} {half a : Nat} (h : half ≤ a) : findF sha rd half a = none := by unfold findF; rw [if_pos h]
theorem find_sec {sha : Bs → Bs} {rd : Nat → Bs} {half a g n : Nat} {t : Bs} (hr : ∀ i, (rd i).length = 64) (h : findF sha rd half a = some (g, n, t)) : t.length = lenF (rd a) ∧ a + secN (46 + t.length) ≤ half := by
  unfold findF at h
  split at h
  · cases h
  · split at h
    · cases h
    · rename_i h1 h2
      split at h
      · injection h with h
        have ht : t = ((bodyF (joinR rd a (secN (46 + lenF (rd a)))) (lenF (rd a))).take (14 + lenF (rd a))).drop 14 := by
          have := congrArg (fun p => p.2.2) h
          exact this.symm
        have hj : ∀ q, (joinR rd a q).length = 64 * q := fun q => by
          induction q with
          | zero => rfl
          | succ q ih => unfold joinR; rw [List.length_append, ih, hr]; omega
        have hlen : t.length = lenF (rd a) := by
          rw [ht]
          unfold bodyF
          rw [List.length_drop, List.length_take, List.length_take, List.length_append, List.length_take, List.length_drop, hj]
          have := secN_pos (46 + lenF (rd a))
          have h3 : 46 + lenF (rd a) + 1 ≤ 64 * secN (46 + lenF (rd a)) := by unfold secN; omega
          omega
        exact ⟨hlen, by rw [hlen]; omega⟩
      · cases h
section
variable {sha : Bs → Bs} (hsha : ∀ x, (sha x).length = 32)
theorem rep_app (a b : Nat) : (List.replicate a 0 ++ List.replicate b 0 : Bs) = List.replicate (a + b) 0 := by rw [List.replicate_append_replicate]
theorem laid_len (b : Bs) : (laidF b).length = max b.length 63 + 1 := by
  unfold laidF
  simp only [List.length_append, List.length_take, List.length_replicate, List.length_drop, List.length_singleton]
  omega
theorem chunk_len (b : Bs) (i : Nat) : (chunk b i).length ≤ 64 := by unfold chunk; rw [List.length_take]; omega
theorem pad_len {s : Bs} (h : s.length ≤ 64) : (pad s).length = 64 := by unfold pad; simp; omega
/-- What the sectors hold, filled up. -/
def fullF (b : Bs) (q : Nat) : Bs := laidF b ++ List.replicate (64 * q - (laidF b).length) 0
theorem pad_chunk {b : Bs} {q i : Nat} (hq : (laidF b).length ≤ 64 * q) (hi : i < q) : pad (chunk b i) = ((fullF b q).drop (64 * i)).take 64 := by
  unfold pad chunk fullF
  rw [Nat.mul_comm i 64]
  apply List.ext_getElem?
  intro j
  have hqi : 64 * (i + 1) ≤ 64 * q := Nat.mul_le_mul_left _ hi
  rw [List.getElem?_append, List.length_take, List.length_drop, List.getElem?_take, List.getElem?_take, List.getElem?_drop, List.getElem?_drop, List.getElem?_append, List.getElem?_replicate, List.getElem?_replicate]
  by_cases h1 : j < 64
  · by_cases h2 : 64 * i + j < (laidF b).length
    · rw [if_pos (by omega), if_pos h1, if_pos h1, if_pos h2]
    · rw [if_neg (by omega), if_pos (by omega), if_pos h1, if_neg h2, if_pos (by omega)]
  · rw [if_neg (by omega), if_neg (by omega), if_neg h1]
theorem join_full {b : Bs} {rd : Nat → Bs} {a q : Nat} (h : ∀ i, i < q → rd (a + i) = ((fullF b q).drop (64 * i)).take 64) : ∀ k, k ≤ q → joinR rd a k = (fullF b q).take (64 * k)
  | 0, _ => by simp [joinR]
  | k + 1, hk => by
    unfold joinR
    rw [join_full h k (by omega), h k (by omega), show 64 * (k + 1) = 64 * k + 64 by omega, List.take_add]
theorem full_len {b : Bs} {q : Nat} (hq : (laidF b).length ≤ 64 * q) : (fullF b q).length = 64 * q := by unfold fullF; rw [List.length_append, List.length_replicate]; omega
theorem full_cut {b : Bs} {q : Nat} : (fullF b q).take 63 ++ (fullF b q).drop 64 = b ++ List.replicate (63 - b.length + (64 * q - (laidF b).length)) 0 ∧ (fullF b q).getD 63 0 = 77 ∧ ∀ k, k ≤ b.length → k ≤ 63 → (fullF b q).take k = b.take k := by
  generalize hz : 64 * q - (laidF b).length = z
  have hA : (b.take 63 ++ List.replicate (63 - b.length) 0 : Bs).length = 63 := by simp; omega
  have e : fullF b q = (b.take 63 ++ List.replicate (63 - b.length) 0) ++ (77 :: (b.drop 63 ++ List.replicate z 0)) := by
    unfold fullF; rw [hz]; unfold laidF; simp
  refine ⟨?_, ?_, fun k hk hk2 => ?_⟩
  · have h1 : (fullF b q).take 63 = b.take 63 ++ List.replicate (63 - b.length) 0 := by rw [e, List.take_left' hA]
    have h2 : (fullF b q).drop 64 = b.drop 63 ++ List.replicate z 0 := by
      rw [e, List.drop_append, List.drop_eq_nil_of_le (by omega), hA]; rfl
    rw [h1, h2]
    rcases Nat.lt_or_ge b.length 63 with h | h
    · rw [List.take_of_length_le (by omega), List.drop_eq_nil_of_le (by omega), List.nil_append, List.append_assoc, rep_app]
    · rw [show 63 - b.length = 0 by omega, List.replicate_zero, List.append_nil, ← List.append_assoc, List.take_append_drop, Nat.zero_add]
  · rw [e, List.getD_eq_getElem?_getD, List.getElem?_append_right (by omega), hA]; rfl
  · rw [e, List.take_append_of_le_length (by omega), List.take_append_of_le_length (by rw [List.length_take]; omega), List.take_take, Nat.min_eq_left hk2]
include hsha in
theorem recF_len (g n : Nat) (t : Bs) : (recF sha g n t).length = 46 + t.length := by unfold recF; rw [List.length_append, recH_len, hsha]; omega
include hsha in
/-- A record that lies is found. -/
theorem find_laid {rd : Nat → Bs} {half a g n : Nat} {t : Bs} (hg : g < 4294967296) (hn : n < 4294967296) (ht : t.length < 4294967296) (hf : a + secN (46 + t.length) ≤ half)
    (h : ∀ i, i < secN (46 + t.length) → rd (a + i) = pad (chunk (recF sha g n t) i)) : findF sha rd half a = some (g, n, t) := by
  obtain ⟨b, hb⟩ : ∃ b, b = recF sha g n t := ⟨_, rfl⟩
  obtain ⟨q, hq⟩ : ∃ q, q = secN (46 + t.length) := ⟨_, rfl⟩
  have hbl : b.length = 46 + t.length := by rw [hb]; exact recF_len hsha g n t
  have hll : (laidF b).length ≤ 64 * q := by rw [laid_len, hbl, hq]; unfold secN; omega
  have hq1 : 1 ≤ q := by rw [hq]; exact secN_pos _
  rw [← hb, ← hq] at h
  have h2 : ∀ i, i < q → rd (a + i) = ((fullF b q).drop (64 * i)).take 64 := fun i hi => by rw [h i hi, pad_chunk hll hi]
  have hj := join_full h2 q (Nat.le_refl _)
  rw [List.take_of_length_le (by rw [full_len hll]; exact Nat.le_refl _)] at hj
  have hbe : b = [77, 71] ++ (bigF g 4 ++ (bigF n 4 ++ (bigF t.length 4 ++ (t ++ sha (recH g n t))))) := by rw [hb]; unfold recF recH; simp
  have hb4 : (b.drop 10).take 4 = bigF t.length 4 := by
    rw [hbe]
    have e : ([77, 71] ++ (bigF g 4 ++ (bigF n 4 ++ (bigF t.length 4 ++ (t ++ sha (recH g n t)))) : Bs)).drop 10 = bigF t.length 4 ++ (t ++ sha (recH g n t)) := by
      rw [← List.append_assoc, ← List.append_assoc, List.drop_left' (by simp [bigF_len])]
    rw [e, List.take_left' (bigF_len _ _)]
  have h0 := h2 0 (by omega)
  have hL : lenF (rd a) = t.length := by
    rw [Nat.add_zero] at h0
    unfold lenF
    rw [h0, Nat.mul_zero, List.drop_zero]
    have e : (((fullF b q).take 64).drop 10).take 4 = (b.drop 10).take 4 := by
      have e1 := full_cut (b := b) (q := q) |>.2.2 14 (by omega) (by omega)
      have e2 : (((fullF b q).take 64).drop 10).take 4 = ((fullF b q).take 14).drop 10 := by
        rw [List.take_drop, List.take_take]; rfl
      rw [e2, e1, List.take_drop]
    rw [e, hb4, numF_big ht]
  unfold findF
  rw [if_neg (by omega), hL, ← hq, if_neg (by omega), hj]
  have hbody : bodyF (fullF b q) t.length = b := by
    unfold bodyF
    rw [full_cut.1, ← hbl, List.take_left]
  have hbt : b.take (14 + t.length) = recH g n t := by
    rw [hb]; unfold recF; rw [← recH_len g n t, List.take_left]
  have hbd : b.drop (14 + t.length) = sha (recH g n t) := by
    rw [hb]; unfold recF; rw [← recH_len g n t, List.drop_left]
  rw [if_pos]
  · unfold tellF
    rw [hbody, hbt]
    have e1 : (b.drop 2).take 4 = bigF g 4 := by
      rw [hbe, List.drop_left' (by rfl), List.take_left' (bigF_len _ _)]
    have e2 : (b.drop 6).take 4 = bigF n 4 := by
      rw [hbe, ← List.append_assoc, List.drop_left' (by simp [bigF_len]), List.take_left' (bigF_len _ _)]
    have e3 : (recH g n t).drop 14 = t := by
      unfold recH; rw [List.drop_left' (by simp [bigF_len])]
    rw [e1, e2, e3, numF_big hg, numF_big hn]
  · refine ⟨full_cut.2.1, ?_, ?_⟩
    · rw [hbody, hbe]; rfl
    · rw [hbody, hbd, hbt]
end
end Go.Proofs.YtnbefiaeihialaaGreat
