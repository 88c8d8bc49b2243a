/- Package quoted's law folder: the plain laws of QuotedParts, QuotedLines, QuotedSoft, QuotedPlain. -/
import Derived.Test.YtjkonhpmfolcoaaDoorQuotJ
set_option linter.unusedVariables false
set_option linter.unusedSimpArgs false
namespace Go.Proofs.YtjkonhpmfolcoaaDoor
theorem endsB_app (r t : List UInt8) (h : r.getLast? ≠ some 13) : endsB (r ++ 13 :: 10 :: t) = endsB r := by
  match r, h with
  | [], _ => rfl
  | [c], h =>
    have hc : c ≠ 13 := by simpa using h
    unfold endsB
    split <;> simp_all
  | c :: d :: r, h =>
    unfold endsB
    split
    · rename_i e; simp at e
    · rename_i e; simp at e; rcases e with ⟨rfl, rfl, _⟩; rfl
    · rename_i hn
      split
      · rename_i e; cases e
      · rename_i e; simp at e; rcases e with ⟨rfl, rfl, _⟩; exact (hn _ rfl).elim
      · rfl
theorem encS_parts (s t : List UInt8) : ∀ n, s.getLast? ≠ some 13 → encS n (s ++ 13 :: 10 :: t) = encS n s ++ 13 :: 10 :: encS 0 t := by
  induction s using lns.induct with
  | case1 => intro n _; simp [encS]
  | case2 r ih =>
    intro n h
    have hr : r.getLast? ≠ some 13 := by
      cases r with
      | nil => simp
      | cons a b => simpa using h
    simp only [List.cons_append, encS]
    rw [ih 0 hr]
  | case3 c r h ih =>
    intro n hl
    have hr : r.getLast? ≠ some 13 := by
      cases r with
      | nil => simp
      | cons a b => simpa using hl
    have hno : ∀ u, c :: (r ++ 13 :: 10 :: t) = 13 :: 10 :: u → False := by
      intro u e
      injection e with e1 e2
      cases r with
      | nil =>
        subst e1
        simp at hl
      | cons a b =>
        simp at e2
        exact h b e1 (by rw [e2.1])
    rw [List.cons_append, encS_cons hno, endsB_app r t hr, encS.eq_3 _ _ _ h]
    split
    · rw [ih _ hr]; simp
    · rw [ih _ hr]; simp
theorem enc_parts (s t : List UInt8) (h : s.getLast? ≠ some 13) : enc (s ++ 13 :: 10 :: t) = enc s ++ 13 :: 10 :: enc t := by
  rw [enc_eq, enc_eq, enc_eq]; exact encS_parts s t 0 h
/-- A blank, or a tab. -/
def blk (c : UInt8) : Bool := c == 32 || c == 9
def blkO : Option UInt8 → Bool
  | none => false
  | some c => blk c
def okc (c : UInt8) : Bool := (decide (32 ≤ c.toNat) && decide (c.toNat ≤ 126)) || c == 9
/-- What QuotedLines asks of what is left of a text: p: the byte ahead, n: how many of its line. -/
def okLn (p : Option UInt8) (n : Nat) : List UInt8 → Bool
  | [] => !blkO p
  | 13 :: 10 :: r => !blkO p && okLn (some 10) 0 r
  | c :: r => decide (n + 1 ≤ 76) && okc c && okLn (some c) (n + 1) r
theorem okLn_cons {p : Option UInt8} {n : Nat} {c : UInt8} {r : List UInt8} (h : ∀ t, c :: r = 13 :: 10 :: t → False) : okLn p n (c :: r) = (decide (n + 1 ≤ 76) && okc c && okLn (some c) (n + 1) r) :=
  okLn.eq_3 _ _ _ _ fun t h1 h2 => h t (by rw [h1, h2])
theorem okLn_byte {p : Option UInt8} {n : Nat} {c : UInt8} {r : List UInt8} (h : c ≠ 13) : okLn p n (c :: r) = (decide (n + 1 ≤ 76) && okc c && okLn (some c) (n + 1) r) :=
  okLn_cons fun t e => by injection e with e1 _; exact h e1
theorem hexd_ok {v : Nat} (h : v < 16) : hexd v ≠ 13 ∧ okc (hexd v) = true ∧ blk (hexd v) = false := by
  have := hexd_ge h
  refine ⟨fun e => ?_, ?_, ?_⟩
  · rw [e] at this; simp at this
  · unfold okc; simp; left; omega
  · unfold blk
    simp only [Bool.or_eq_false_iff, beq_eq_false_iff_ne]
    exact ⟨fun e => by rw [e] at this; simp at this, fun e => by rw [e] at this; simp at this⟩
theorem asIs_ok {c : UInt8} {b : Bool} (h : asIs c b = true) : c ≠ 13 ∧ okc c = true ∧ (b = true → blk c = false) := by
  have h1 := asIs_yes h
  refine ⟨fun e => ?_, ?_, fun hb => ?_⟩
  · subst e; simp at h1
  · unfold okc
    simp
    rcases h1 with h | h | h | h
    · left; omega
    · left; omega
    · left; omega
    · right; apply UInt8.toNat_inj.1; exact h.2
  · unfold blk
    simp only [Bool.or_eq_false_iff, beq_eq_false_iff_ne]
    exact ⟨fun e => by subst e; subst hb; simp at h1, fun e => by subst e; subst hb; simp at h1⟩
theorem okLn_sign (c : UInt8) (e : Bool) (t : List UInt8) (p : Option UInt8) (n : Nat) (hn : n + (signL c e).length ≤ 76) :
    ∃ q : UInt8, (e = true → blk q = false) ∧ okLn p n (signL c e ++ t) = okLn (some q) (n + (signL c e).length) t := by
  unfold signL at hn ⊢
  cases h : asIs c e
  · rw [h, if_neg (by decide)] at hn
    simp only [List.length_cons, List.length_nil] at hn
    have h1 : c.toNat / 16 < 16 := by have := c.toNat_lt; omega
    have h2 : c.toNat % 16 < 16 := by omega
    have a1 := hexd_ok h1
    have a2 := hexd_ok h2
    refine ⟨hexd (c.toNat % 16), fun _ => a2.2.2, ?_⟩
    rw [if_neg (by decide)]
    show okLn p n (61 :: hexd (c.toNat / 16) :: hexd (c.toNat % 16) :: t) = _
    rw [okLn_byte (by decide), okLn_byte a1.1, okLn_byte a2.1, a1.2.1, a2.2.1, decide_eq_true (show n + 1 ≤ 76 by omega), decide_eq_true (show n + 1 + 1 ≤ 76 by omega), decide_eq_true (show n + 1 + 1 + 1 ≤ 76 by omega), show okc 61 = true by decide]
    rfl
  · rw [h, if_pos rfl] at hn
    simp only [List.length_cons, List.length_nil] at hn
    have a := asIs_ok h
    refine ⟨c, a.2.2, ?_⟩
    rw [if_pos rfl]
    show okLn p n (c :: t) = _
    rw [okLn_byte a.1, a.2.1, decide_eq_true (show n + 1 ≤ 76 by omega)]
    rfl
theorem okLn_encS (s : List UInt8) : ∀ n p, n ≤ 75 → (endsB s = true → blkO p = false) → okLn p n (encS n s) = true := by
  induction s using lns.induct with
  | case1 => intro n p _ h; simp [encS, okLn, h rfl]
  | case2 r ih =>
    intro n p _ h
    simp only [encS, okLn]
    rw [h rfl, ih 0 (some 10) (by omega) (fun _ => rfl)]
    rfl
  | case3 c r h ih =>
    intro n p hn hp
    rw [encS.eq_3 _ _ _ h]
    have h3 := signL_len c (endsB r)
    split
    · show okLn p n (61 :: 13 :: 10 :: (signL c (endsB r) ++ encS (signL c (endsB r)).length r)) = true
      rw [okLn_byte (by decide), decide_eq_true (show n + 1 ≤ 76 by omega), show okc 61 = true by decide, okLn]
      obtain ⟨q, hq, e⟩ := okLn_sign c (endsB r) (encS (signL c (endsB r)).length r) (some 10) 0 (by omega)
      rw [e, Nat.zero_add, ih _ (some q) (by omega) hq]
      rfl
    · obtain ⟨q, hq, e⟩ := okLn_sign c (endsB r) (encS (n + (signL c (endsB r)).length) r) p n (by omega)
      rw [e, ih _ (some q) (by omega) hq]
theorem okLn_enc (s : List UInt8) : okLn none 0 (enc s) = true := by rw [enc_eq]; exact okLn_encS s 0 none (by omega) (fun _ => rfl)
/-- Without the ends that are no ends. -/
def strip : List UInt8 → List UInt8
  | [] => []
  | 61 :: 13 :: 10 :: r => strip r
  | c :: r => c :: strip r
theorem strip_cons {c : UInt8} {r : List UInt8} (h : ∀ t, c :: r = 61 :: 13 :: 10 :: t → False) : strip (c :: r) = c :: strip r := strip.eq_3 _ _ fun t h1 h2 => h t (by rw [h1, h2])
/-- The signs, one by one. -/
def signs : List UInt8 → List UInt8
  | [] => []
  | 13 :: 10 :: r => 13 :: 10 :: signs r
  | c :: r => signL c (endsB r) ++ signs r
theorem signs_cons {c : UInt8} {r : List UInt8} (h : ∀ t, c :: r = 13 :: 10 :: t → False) : signs (c :: r) = signL c (endsB r) ++ signs r := signs.eq_3 _ _ fun t h1 h2 => h t (by rw [h1, h2])
theorem strip_sign (c : UInt8) (e : Bool) (t : List UInt8) : strip (signL c e ++ t) = signL c e ++ strip t := by
  unfold signL
  cases h : asIs c e
  · have h1 : c.toNat / 16 < 16 := by have := c.toNat_lt; omega
    have h2 : c.toNat % 16 < 16 := by omega
    rw [if_neg (by decide)]
    show strip (61 :: hexd (c.toNat / 16) :: hexd (c.toNat % 16) :: t) = 61 :: hexd (c.toNat / 16) :: hexd (c.toNat % 16) :: strip t
    rw [strip_cons (fun u e => by injection e with _ e; injection e with e _; exact (hexd_ok h1).1 e), strip_cons (fun u e => ?_), strip_cons (fun u e => ?_)]
    · injection e with e _
      have h0 := val_hexd h2
      rw [e] at h0
      exact absurd h0 (by have : valL 61 = 16 := by decide
                          omega)
    · injection e with e _
      have h0 := val_hexd h1
      rw [e] at h0
      exact absurd h0 (by have : valL 61 = 16 := by decide
                          omega)
  · rw [if_pos rfl]
    exact strip_cons fun u e => by injection e with e _; exact asIs_ne h e
theorem strip_encS (s : List UInt8) : ∀ n, strip (encS n s) = signs s := by
  induction s using lns.induct with
  | case1 => intro n; simp [encS, strip, signs]
  | case2 r ih =>
    intro n
    simp only [encS, signs]
    rw [strip_cons (fun t e => by injection e with e _; exact absurd e (by decide)), strip_cons (fun t e => by injection e with e _; exact absurd e (by decide)), ih 0]
  | case3 c r h ih =>
    intro n
    rw [encS.eq_3 _ _ _ h, signs.eq_3 _ _ h]
    split
    · show strip (61 :: 13 :: 10 :: (signL c (endsB r) ++ encS (signL c (endsB r)).length r)) = _
      rw [strip, strip_sign, ih]
    · rw [strip_sign, ih]
theorem strip_enc (s : List UInt8) : strip (enc s) = signs s := by rw [enc_eq]; exact strip_encS s 0
theorem signs_len (s : List UInt8) : (signs s).length ≤ 3 * s.length := by
  induction s using lns.induct with
  | case1 => simp [signs]
  | case2 r ih => simp [signs]; omega
  | case3 c r h ih => rw [signs.eq_3 _ _ h]; have := signL_len c (endsB r); simp; omega
/-- How long a line's signs are. -/
def cntP : List UInt8 → Nat
  | [] => 0
  | c :: r => (if asIs c r.isEmpty then 1 else 3) + cntP r
def sgP : List UInt8 → List UInt8
  | [] => []
  | c :: r => signL c r.isEmpty ++ sgP r
theorem endsB_no13 {r : List UInt8} (h : ∀ c ∈ r, c ≠ 13) : endsB r = r.isEmpty := by
  unfold endsB
  split
  · rfl
  · exact absurd rfl (h 13 (by simp))
  · rename_i h1 _
    cases r with
    | nil => exact absurd rfl h1
    | cons _ _ => rfl
theorem encS_plain (s : List UInt8) : ∀ n, (∀ c ∈ s, c ≠ 13) → n + 3 * s.length ≤ 75 → encS n s = sgP s := by
  induction s with
  | nil => intro n _ _; simp [encS, sgP]
  | cons c r ih =>
    intro n h hn
    have hr : ∀ c ∈ r, c ≠ 13 := fun c hc => h c (List.mem_cons_of_mem _ hc)
    have h3 := signL_len c r.isEmpty
    simp only [List.length_cons] at hn
    rw [encS_cons (fun t e => by injection e with e _; exact h c (List.mem_cons_self ..) e), endsB_no13 hr, if_neg (by omega), ih _ hr (by omega), sgP]
theorem sgP_len (s : List UInt8) : (sgP s).length = cntP s ∧ s.length ≤ cntP s ∧ (cntP s ≤ s.length → sgP s = s) := by
  induction s with
  | nil => simp [sgP, cntP]
  | cons c r ih =>
    obtain ⟨h1, h2, h3⟩ := ih
    cases h : asIs c r.isEmpty
    · have e : signL c r.isEmpty = [61, hexd (c.toNat / 16), hexd (c.toNat % 16)] := by unfold signL; rw [h]; rfl
      refine ⟨?_, ?_, ?_⟩
      · rw [sgP, cntP, h, e]; simp [h1]; omega
      · rw [cntP, h]; simp; omega
      · rw [cntP, h]; simp; intro hh; omega
    · have e : signL c r.isEmpty = [c] := by unfold signL; rw [h]; rfl
      refine ⟨?_, ?_, ?_⟩
      · rw [sgP, cntP, h, e]; simp [h1]; omega
      · rw [cntP, h]; simp; omega
      · rw [cntP, h, sgP, e]; simp; intro hh; exact h3 (by omega)
theorem enc_plain (s : List UInt8) (h : ∀ c ∈ s, c ≠ 13) (hn : s.length ≤ 24) : (enc s).length = cntP s ∧ (cntP s ≤ s.length → enc s = s) := by
  have e : enc s = sgP s := by rw [enc_eq]; exact encS_plain s 0 h (by omega)
  rw [e]
  exact ⟨(sgP_len s).1, (sgP_len s).2.2⟩
end Go.Proofs.YtjkonhpmfolcoaaDoor
