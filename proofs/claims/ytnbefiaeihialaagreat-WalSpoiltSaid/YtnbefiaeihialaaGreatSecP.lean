/- Sectors of a disk: what a write does to each; a row of writes. -/
import Derived.Test.YtnbefiaeihialaaGreatSectorC
import Derived.Test.YtnbefiaeihialaaGreatWalC
set_option linter.unusedVariables false
set_option linter.unusedSimpArgs false
namespace Go.Proofs.YtnbefiaeihialaaGreat
open Go.RowKit
theorem wroteK_miss {k : Dk} {i : Nat} {s : List UInt8} (h : k.cut ≠ k.since + 1) : wroteK k i s = { k with data := putAt k.data (i * 64) (fill s), since := k.since + 1, all := k.all + 1 } := by unfold wroteK; rw [if_neg h]
theorem wroteC_miss {k : Dk} (h : k.cut ≠ k.since + 1) : wroteC k = 0 := by unfold wroteC; rw [if_neg h]
theorem putAt_get (d x : List UInt8) (o m : Nat) (h : o + x.length ≤ d.length) : (putAt d o x)[m]? = if m < o then d[m]? else if m < o + x.length then x[m - o]? else d[m]? := by
  unfold putAt
  rw [List.getElem?_append, List.getElem?_append]
  simp only [List.length_append, List.length_take, List.getElem?_take, List.getElem?_drop]
  rw [show min o d.length = o by omega]
  by_cases h1 : m < o
  · rw [if_pos (by omega), if_pos h1, if_pos h1, if_pos h1]
  · by_cases h2 : m < o + x.length
    · rw [if_pos h2, if_neg h1, if_neg h1, if_pos h2]
    · rw [if_neg h2, if_neg h1, if_neg h2]
      congr 1; omega
theorem sec_put {k k' : Dk} (hk : k.Ok) {a : Nat} (ha : a < k.n) {x : List UInt8} (hx : x.length = 64) (h1 : k'.n = k.n) (h2 : k'.data = putAt k.data (a * 64) x) {i : Nat} (hi : i < k.n) :
    sec k' i = if i = a then x else sec k i := by
  have hlen := hk.len
  have hfit : a * 64 + x.length ≤ k.data.length := by omega
  refine List.ext_getElem? fun j => ?_
  by_cases hj : j < 64
  · have e1 : (sec k' i)[j]? = k'.data[i * 64 + j]? := by simp [sec, List.getElem?_take, hj]
    rw [e1, h2, putAt_get _ _ _ _ hfit]
    by_cases e : i = a
    · subst e
      rw [if_pos rfl, if_neg (by omega), if_pos (by omega)]
      congr 1; omega
    · rw [if_neg e, sec_get hk hi hj]
      by_cases hlt : i < a
      · rw [if_pos (by omega)]
      · rw [if_neg (by omega), if_neg (by omega)]
  · have l1 : (sec k' i)[j]? = none := by simp [sec, List.getElem?_take, hj]
    rw [l1]
    split
    · rw [List.getElem?_eq_none (by omega)]
    · simp [sec, List.getElem?_take, hj]
/-- A disk that is never cut: its numbers are small. -/
structure Still (k : Dk) (m : Nat) : Prop where
  ok : k.Ok
  cut : k.cut = 0
  down : k.down = false
  since : 0 ≤ k.since ∧ k.since ≤ m
  all : 0 ≤ k.all ∧ k.all ≤ m
theorem Still.mono {k : Dk} {m m' : Nat} (h : Still k m) (hm : m ≤ m') : Still k m' := ⟨h.ok, h.cut, h.down, ⟨h.since.1, by have := h.since; omega⟩, ⟨h.all.1, by have := h.all; omega⟩⟩
theorem fill_pad (s : Bs) : fill s = pad s := rfl
theorem Still.write {k : Dk} {m : Nat} (h : Still k m) {i : Nat} {s : Bs} (hi : i < k.n) (hs : s.length ≤ 64) :
    writeC k i s = 0 ∧ Still (writeK k i s) (m + 1) ∧ (writeK k i s).n = k.n ∧ ∀ j, j < k.n → sec (writeK k i s) j = if j = i then pad s else sec k j := by
  have hmiss : k.cut ≠ k.since + 1 := by have := h.cut; have := h.since; omega
  have hK : writeK k i s = wroteK k i s := by unfold writeK; rw [if_pos ⟨h.down, by omega, hs⟩]; rfl
  have hC : writeC k i s = 0 := by
    unfold writeC
    rw [if_neg (by simp [h.down]), if_neg (fun hh => hh (by omega)), if_neg (by omega), wroteC_miss hmiss]
  have hlen := h.ok.len
  have hfl := fill_len hs
  have hsi := h.since
  have hal := h.all
  refine ⟨hC, ?_, writeK_n _ _ _, fun j hj => ?_⟩
  · rw [hK, wroteK_miss hmiss]
    exact ⟨⟨h.ok.n1, h.ok.n2, (putAt_len (by rw [hfl]; omega)).trans hlen⟩, h.cut, h.down, ⟨by show 0 ≤ k.since + 1; omega, by show k.since + 1 ≤ _; omega⟩, ⟨by show 0 ≤ k.all + 1; omega, by show k.all + 1 ≤ _; omega⟩⟩
  · rw [← fill_pad]
    refine sec_put h.ok hi hfl (writeK_n _ _ _) ?_ hj
    rw [hK, wroteK_miss hmiss]
/-- Writes, one behind the other, till one fails. -/
def wrL (k : Dk) : List (Nat × Bs) → Dk × Int
  | [] => (k, 0)
  | (i, s) :: r => if writeC k i s = 0 then wrL (writeK k i s) r else (writeK k i s, writeC k i s)
theorem wrL_ok {k : Dk} {i : Nat} {s : Bs} {r : List (Nat × Bs)} (h : writeC k i s = 0) : wrL k ((i, s) :: r) = wrL (writeK k i s) r := by
  conv => lhs; unfold wrL
  rw [if_pos h]
theorem wrL_bad {k : Dk} {i : Nat} {s : Bs} {r : List (Nat × Bs)} (h : writeC k i s ≠ 0) : wrL k ((i, s) :: r) = (writeK k i s, writeC k i s) := by
  conv => lhs; unfold wrL
  rw [if_neg h]
theorem wrL_app (k : Dk) (a b : List (Nat × Bs)) : wrL k (a ++ b) = if (wrL k a).2 = 0 then wrL (wrL k a).1 b else wrL k a := by
  induction a generalizing k with
  | nil => rfl
  | cons p r ih =>
    obtain ⟨i, s⟩ := p
    show wrL k ((i, s) :: (r ++ b)) = _
    by_cases h : writeC k i s = 0
    · rw [wrL_ok h, wrL_ok h, ih]
    · rw [wrL_bad h, wrL_bad h, if_neg h]
def lastW : List (Nat × Bs) → Nat → Bs → Bs
  | [], _, x => x
  | (i, s) :: r, j, x => lastW r j (if j = i then pad s else x)
theorem lastW_app (a b : List (Nat × Bs)) (j : Nat) (x : Bs) : lastW (a ++ b) j x = lastW b j (lastW a j x) := by
  induction a generalizing x with
  | nil => rfl
  | cons p r ih => exact ih _
theorem lastW_none : ∀ (l : List (Nat × Bs)) (j : Nat) (x : Bs), (∀ p ∈ l, p.1 ≠ j) → lastW l j x = x
  | [], _, _, _ => rfl
  | (i, s) :: r, j, x, h => by
    unfold lastW
    rw [if_neg (fun e => h (i, s) List.mem_cons_self e.symm), lastW_none r j x (fun p hp => h p (List.mem_cons_of_mem _ hp))]
/-- All are let in. -/
theorem Still.row {k : Dk} : ∀ {l : List (Nat × Bs)} {m : Nat}, Still k m → (∀ p ∈ l, p.1 < k.n ∧ p.2.length ≤ 64) →
    (wrL k l).2 = 0 ∧ Still (wrL k l).1 (m + l.length) ∧ (wrL k l).1.n = k.n ∧ ∀ j, j < k.n → sec (wrL k l).1 j = lastW l j (sec k j) := by
  intro l
  induction l generalizing k with
  | nil => intro m h _; exact ⟨rfl, h, rfl, fun _ _ => rfl⟩
  | cons p r ih =>
    intro m h hl
    obtain ⟨i, s⟩ := p
    obtain ⟨hi, hs⟩ := hl (i, s) List.mem_cons_self
    obtain ⟨a1, a2, a3, a4⟩ := h.write hi hs
    have e : wrL k ((i, s) :: r) = wrL (writeK k i s) r := wrL_ok a1
    obtain ⟨b1, b2, b3, b4⟩ := ih a2 (fun p hp => by rw [a3]; exact hl p (List.mem_cons_of_mem _ hp))
    rw [e]
    refine ⟨b1, ?_, b3.trans a3, fun j hj => ?_⟩
    · have : m + (r.length + 1) = m + 1 + r.length := by omega
      show Still _ (m + (r.length + 1)); rw [this]; exact b2
    · rw [b4 j (by rw [a3]; exact hj), a4 j hj]; rfl
end Go.Proofs.YtnbefiaeihialaaGreat
