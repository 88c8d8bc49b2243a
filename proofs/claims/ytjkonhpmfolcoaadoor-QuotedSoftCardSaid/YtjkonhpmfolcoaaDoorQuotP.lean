/- Package quoted: the plain law: a text's lines, what it is told as, and back. No program in sight. -/
import Derived.Test.YtjkonhpmfolcoaaDoorQuotA
import Derived.Lib.SplitLaws
set_option linter.unusedVariables false
set_option linter.unusedSimpArgs false
namespace Go.Proofs.YtjkonhpmfolcoaaDoor
def consH (c : UInt8) : List (List UInt8) → List (List UInt8)
  | [] => [[c]]
  | l :: ls => (c :: l) :: ls
/-- A text's lines. -/
def lns : List UInt8 → List (List UInt8)
  | [] => [[]]
  | 13 :: 10 :: r => [] :: lns r
  | c :: r => consH c (lns r)
theorem lns_ne (s : List UInt8) : lns s ≠ [] := by
  induction s using lns.induct with
  | case1 => simp [lns]
  | case2 r _ => simp [lns]
  | case3 c r h ih =>
    rw [lns.eq_3 _ _ h]
    cases lns r <;> simp [consH]
/-- Does a line end here? -/
def endsB : List UInt8 → Bool
  | [] => true
  | 13 :: 10 :: _ => true
  | _ => false
theorem crlf_cases (s : List UInt8) : (∃ r, s = 13 :: 10 :: r) ∨ (∀ r, s = 13 :: 10 :: r → False) := by
  by_cases h : ∃ r, s = 13 :: 10 :: r
  · exact .inl h
  · exact .inr fun r e => h ⟨r, e⟩
theorem lns_cons {c : UInt8} {r : List UInt8} (h : ∀ t, c :: r = 13 :: 10 :: t → False) : lns (c :: r) = consH c (lns r) :=
  lns.eq_3 _ _ fun t h1 h2 => h t (by rw [h1, h2])
theorem index_cons (b : UInt8) (l : List UInt8) : Lib.index (b :: l) [13, 10] = if ([13, 10] : List UInt8).isPrefixOf (b :: l) then 0 else if Lib.index l [13, 10] == -1 then -1 else Lib.index l [13, 10] + 1 := by
  rw [Lib.index]
theorem prefix_no {c : UInt8} {r : List UInt8} (h : ∀ t, c :: r = 13 :: 10 :: t → False) : ([13, 10] : List UInt8).isPrefixOf (c :: r) = false := by
  cases r with
  | nil => simp [List.isPrefixOf]
  | cons d t =>
    simp only [List.isPrefixOf, Bool.and_true, Bool.and_eq_false_iff]
    by_cases h1 : c = 13
    · right
      by_cases h2 : d = 10
      · exact absurd (by rw [h1, h2]) (h t)
      · simpa using fun e => h2 e.symm
    · left; simpa using fun e => h1 e.symm
theorem index_ge1 (l : List UInt8) : -1 ≤ Lib.index l [13, 10] := Lib.index_ge l [13, 10]
/-- strings.Split at the ends gives the lines. -/
theorem split_lns (s : List UInt8) : Lib.splitK [13, 10] 0 (Lib.count s [13, 10]) s = lns s := by
  induction s using lns.induct with
  | case1 => rw [Lib.count_miss (by decide)]; rfl
  | case2 r ih =>
    have hix : Lib.index (13 :: 10 :: r) [13, 10] = ((0 : Nat) : Int) := by rw [index_cons, if_pos (by simp [List.isPrefixOf])]; rfl
    rw [Lib.count_hit (by simp) hix]
    simp only [lns]
    rw [show List.drop (0 + ([13, 10] : List UInt8).length) (13 :: 10 :: r) = r from rfl, Nat.add_comm]
    rw [Lib.splitK, if_neg (by rw [hix]; decide), hix]
    simp [ih]
  | case3 c r h ih =>
    have hp := prefix_no (c := c) (r := r) (fun t e => by injection e with e1 e2; exact h t e1 e2)
    have hix := index_cons c r
    rw [hp] at hix
    simp only [Bool.false_eq_true, if_false] at hix
    rw [lns.eq_3 _ _ h, ← ih]
    by_cases hm : Lib.index r [13, 10] = -1
    · have h1 : Lib.index (c :: r) [13, 10] = -1 := by rw [hix, if_pos (by rw [hm]; rfl)]
      rw [Lib.count_miss h1, Lib.count_miss hm]
      rfl
    · have hge := index_ge1 r
      obtain ⟨j, hj⟩ : ∃ j : Nat, Lib.index r [13, 10] = j := ⟨(Lib.index r [13, 10]).toNat, by omega⟩
      have h1 : Lib.index (c :: r) [13, 10] = ((j + 1 : Nat) : Int) := by rw [hix, if_neg (fun e => hm (beq_iff_eq.1 e)), hj]; omega
      rw [Lib.count_hit (by simp) h1, Lib.count_hit (by simp) hj]
      have e1 : List.drop (j + 1 + ([13, 10] : List UInt8).length) (c :: r) = List.drop (j + ([13, 10] : List UInt8).length) r := by simp
      rw [e1]
      generalize Lib.count (List.drop (j + ([13, 10] : List UInt8).length) r) [13, 10] = k
      rw [Nat.add_comm 1 k, Lib.splitK, Lib.splitK, if_neg (by rw [h1]; intro e; have := beq_iff_eq.1 e; omega), if_neg (by rw [hj]; intro e; have := beq_iff_eq.1 e; omega), h1, hj]
      have e2 : (((j + 1 : Nat) : Int).toNat) = j + 1 := by omega
      have e3 : ((j : Int).toNat) = j := by omega
      rw [e2, e3, e1]
      rfl
/-- A line's state: what was told, and how wide the line is. -/
def putS (st : List UInt8 × Nat) (x : List UInt8) : List UInt8 × Nat :=
  if 75 < st.2 + x.length then (st.1 ++ [61, 13, 10] ++ x, x.length) else (st.1 ++ x, st.2 + x.length)
def lineSt (l : List UInt8) : Nat → List UInt8 × Nat
  | 0 => ([], 0)
  | k + 1 => putS (lineSt l k) (signL (l.getD k 0) (decide (k + 1 = l.length)))
def encK (ls : List (List UInt8)) : Nat → List UInt8
  | 0 => []
  | k + 1 => (if k = 0 then [] else encK ls k ++ [13, 10]) ++ (lineSt (ls.getD k []) (ls.getD k []).length).1
/-- What a text is told as: by its lines. -/
def enc (s : List UInt8) : List UInt8 := encK (lns s) (lns s).length
theorem signL_len (c : UInt8) (b : Bool) : 1 ≤ (signL c b).length ∧ (signL c b).length ≤ 3 := by unfold signL; split <;> simp
/-- The same, byte by byte; n: how wide the line is. -/
def encS (n : Nat) : List UInt8 → List UInt8
  | [] => []
  | 13 :: 10 :: r => 13 :: 10 :: encS 0 r
  | c :: r => if 75 < n + (signL c (endsB r)).length then [61, 13, 10] ++ (signL c (endsB r) ++ encS (signL c (endsB r)).length r) else signL c (endsB r) ++ encS (n + (signL c (endsB r)).length) r
theorem encS_cons {n : Nat} {c : UInt8} {r : List UInt8} (h : ∀ t, c :: r = 13 :: 10 :: t → False) :
    encS n (c :: r) = if 75 < n + (signL c (endsB r)).length then [61, 13, 10] ++ (signL c (endsB r) ++ encS (signL c (endsB r)).length r) else signL c (endsB r) ++ encS (n + (signL c (endsB r)).length) r :=
  encS.eq_3 _ _ _ fun t h1 h2 => h t (by rw [h1, h2])
/-- A line from its k-th byte on, at a width. -/
def lineR (n : Nat) : List UInt8 → List UInt8
  | [] => []
  | c :: r => if 75 < n + (signL c r.isEmpty).length then [61, 13, 10] ++ (signL c r.isEmpty ++ lineR (signL c r.isEmpty).length r) else signL c r.isEmpty ++ lineR (n + (signL c r.isEmpty).length) r
theorem lineSt_R (l : List UInt8) : ∀ (j k : Nat), k + j = l.length → (lineSt l l.length).1 = (lineSt l k).1 ++ lineR (lineSt l k).2 (l.drop k)
  | 0, k, h => by
    obtain rfl : k = l.length := by omega
    simp [lineR]
  | j + 1, k, h => by
    rw [lineSt_R l j (k + 1) (by omega)]
    have hk : k < l.length := by omega
    have hd : l.drop k = l[k] :: l.drop (k + 1) := List.drop_eq_getElem_cons hk
    have hg : l.getD k 0 = l[k] := by simp [List.getD_eq_getElem?_getD, List.getElem?_eq_getElem hk]
    have he : (l.drop (k + 1)).isEmpty = decide (k + 1 = l.length) := by
      rw [Bool.eq_iff_iff]; simp [List.isEmpty_iff]; omega
    rw [hd, lineR, he, lineSt, hg]
    unfold putS
    generalize lineSt l k = st
    generalize signL l[k] (decide (k + 1 = l.length)) = x
    split <;> simp
theorem lineSt_all (l : List UInt8) : (lineSt l l.length).1 = lineR 0 l := by
  rw [lineSt_R l l.length 0 (by omega)]
  simp [lineSt]
def joinE : List (List UInt8) → List UInt8
  | [] => []
  | [l] => lineR 0 l
  | l :: ls => lineR 0 l ++ 13 :: 10 :: joinE ls
/-- The lines from a width on: the first one has begun. -/
def joinN (n : Nat) : List (List UInt8) → List UInt8
  | [] => []
  | [l] => lineR n l
  | l :: ls => lineR n l ++ 13 :: 10 :: joinN 0 ls
theorem endsB_eq (r : List UInt8) : endsB r = ((lns r).headD []).isEmpty := by
  induction r using lns.induct with
  | case1 => rfl
  | case2 r _ => simp [endsB, lns]
  | case3 c r h _ =>
    rw [lns.eq_3 _ _ h]
    have : endsB (c :: r) = false := by
      unfold endsB
      split
      · rename_i e; cases e
      · rename_i e; injection e with e1 e2; exact (h _ e1 e2).elim
      · rfl
    rw [this]
    cases lns r <;> simp [consH]
theorem joinN_encS (s : List UInt8) : ∀ n, joinN n (lns s) = encS n s := by
  induction s using lns.induct with
  | case1 => intro n; simp [lns, joinN, lineR, encS]
  | case2 r ih =>
    intro n
    simp only [lns, encS]
    have hne := lns_ne r
    cases hl : lns r with
    | nil => exact absurd hl hne
    | cons a t => rw [← hl, ← ih 0, hl]; simp [joinN, lineR]
  | case3 c r h ih =>
    intro n
    rw [encS.eq_3 _ _ _ h, lns.eq_3 _ _ h]
    have hne := lns_ne r
    have he := endsB_eq r
    cases hl : lns r with
    | nil => exact absurd hl hne
    | cons a t =>
      have he' : endsB r = a.isEmpty := by rw [he, hl]; rfl
      rw [he']
      simp only [consH]
      have key : ∀ m, joinN m (a :: t) = encS m r := fun m => by rw [← ih m, hl]
      cases t with
      | nil =>
        simp only [joinN] at key ⊢
        rw [lineR, key, key]
      | cons b t =>
        simp only [joinN] at key ⊢
        rw [lineR]
        by_cases hw : 75 < n + (signL c a.isEmpty).length
        · rw [if_pos hw, if_pos hw, ← key]; simp
        · rw [if_neg hw, if_neg hw, ← key]; simp
theorem encK_join (ls : List (List UInt8)) : ∀ (j k : Nat), k + j = ls.length → 1 ≤ k → encK ls ls.length = encK ls k ++ (if j = 0 then [] else 13 :: 10 :: joinN 0 (ls.drop k))
  | 0, k, h, _ => by
    obtain rfl : k = ls.length := by omega
    simp
  | j + 1, k, h, h1 => by
    have hk : k < ls.length := by omega
    have hd : ls.drop k = ls[k] :: ls.drop (k + 1) := List.drop_eq_getElem_cons hk
    have hg : ls.getD k [] = ls[k] := by simp [List.getD_eq_getElem?_getD, List.getElem?_eq_getElem hk]
    have hK : encK ls (k + 1) = encK ls k ++ [13, 10] ++ lineR 0 ls[k] := by rw [encK, if_neg (by omega), lineSt_all, hg]
    rw [encK_join ls j (k + 1) (by omega) (by omega), hK, hd, if_neg (show ¬ j + 1 = 0 by omega)]
    by_cases hj : j = 0
    · subst hj
      have : ls.drop (k + 1) = [] := List.drop_eq_nil_of_le (by omega)
      rw [this]
      simp [joinN]
    · rw [if_neg hj]
      have h2 : k + 1 < ls.length := by omega
      have hd2 : ls.drop (k + 1) = ls[k + 1] :: ls.drop (k + 1 + 1) := List.drop_eq_getElem_cons h2
      rw [hd2]
      simp [joinN]
theorem enc_eq (s : List UInt8) : enc s = encS 0 s := by
  rw [← joinN_encS]
  unfold enc
  have hne := lns_ne s
  generalize lns s = ls at *
  cases ls with
  | nil => exact absurd rfl hne
  | cons l t =>
    rw [encK_join (l :: t) t.length 1 (by simp; omega) (Nat.le_refl _)]
    have h1 : encK (l :: t) 1 = lineR 0 l := by simp [encK, lineSt_all]
    rw [h1]
    cases t with
    | nil => simp [joinN]
    | cons b t => simp [joinN]
theorem encS_len (s : List UInt8) : ∀ n, (encS n s).length ≤ 6 * s.length := by
  induction s using lns.induct with
  | case1 => intro n; simp [encS]
  | case2 r ih => intro n; have := ih 0; simp [encS]; omega
  | case3 c r h ih =>
    intro n
    rw [encS.eq_3 _ _ _ h]
    have h3 := signL_len c (endsB r)
    split
    · have := ih (signL c (endsB r)).length; simp; omega
    · have := ih (n + (signL c (endsB r)).length); simp; omega
theorem enc_len (s : List UInt8) : (enc s).length ≤ 6 * s.length := by rw [enc_eq]; exact encS_len s 0
end Go.Proofs.YtjkonhpmfolcoaaDoor
