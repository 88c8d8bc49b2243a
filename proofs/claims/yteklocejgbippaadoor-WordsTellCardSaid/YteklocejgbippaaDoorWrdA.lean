/- Package words in plain words: encoded words of 45 bytes each. They speak of no program. -/
import Derived.Test.YteklocejgbippaaDoorBasA
import Derived.Lib.SplitLaws
import Derived.Lib.CountLaws
import Derived.Lib.IndexLaws
import Derived.Lib.IndexMore
import Derived.Lib.Strings
set_option linter.unusedVariables false
set_option linter.unusedSimpArgs false
namespace Go.Proofs.YteklocejgbippaaDoor
/-- The pieces of a text between its blanks. -/
def spl : List UInt8 → List (List UInt8)
  | [] => [[]]
  | c :: r => if c = 32 then [] :: spl r else match spl r with | [] => [[c]] | h :: t => (c :: h) :: t
theorem spl_ne (s : List UInt8) : spl s ≠ [] := by
  cases s with
  | nil => simp [spl]
  | cons c r =>
    rw [spl]
    split
    · simp
    · split <;> simp
theorem index_cons32 (b : UInt8) (l : List UInt8) : Lib.index (b :: l) [32] = if ([32] : List UInt8).isPrefixOf (b :: l) then 0 else if Lib.index l [32] == -1 then -1 else Lib.index l [32] + 1 := by
  rw [Lib.index]
theorem split_spl (s : List UInt8) : Lib.splitK [32] 0 (Lib.count s [32]) s = spl s := by
  induction s with
  | nil => rw [Lib.count_miss (by decide)]; rfl
  | cons c r ih =>
    have hix := index_cons32 c r
    by_cases hc : c = 32
    · subst hc
      have h1 : Lib.index (32 :: r) [32] = ((0 : Nat) : Int) := by rw [hix, if_pos (by simp [List.isPrefixOf])]; rfl
      rw [Lib.count_hit (by simp) h1, show List.drop (0 + ([32] : List UInt8).length) (32 :: r) = r from rfl, Nat.add_comm, Lib.splitK, if_neg (by rw [h1]; decide), h1]
      rw [spl, if_pos rfl, ← ih]
      rfl
    · have hp : ([32] : List UInt8).isPrefixOf (c :: r) = false := by
        simp only [List.isPrefixOf, Bool.and_true]
        exact beq_false_of_ne (fun e => hc e.symm)
      rw [hp] at hix
      simp only [Bool.false_eq_true, if_false] at hix
      rw [spl, if_neg hc, ← ih]
      by_cases hm : Lib.index r [32] = -1
      · have h1 : Lib.index (c :: r) [32] = -1 := by rw [hix, if_pos (by rw [hm]; rfl)]
        rw [Lib.count_miss h1, Lib.count_miss hm]
        rfl
      · have hge := Lib.index_ge r [32]
        obtain ⟨j, hj⟩ : ∃ j : Nat, Lib.index r [32] = j := ⟨(Lib.index r [32]).toNat, by omega⟩
        have h1 : Lib.index (c :: r) [32] = ((j + 1 : Nat) : Int) := by rw [hix, if_neg (fun e => hm (beq_iff_eq.1 e)), hj]; omega
        rw [Lib.count_hit (by simp) h1, Lib.count_hit (by simp) hj]
        have e1 : List.drop (j + 1 + ([32] : List UInt8).length) (c :: r) = List.drop (j + ([32] : List UInt8).length) r := by simp
        rw [e1]
        generalize Lib.count (List.drop (j + ([32] : List UInt8).length) r) [32] = k
        rw [Nat.add_comm 1 k, Lib.splitK, Lib.splitK, if_neg (by rw [h1]; intro e; have := beq_iff_eq.1 e; omega), if_neg (by rw [hj]; intro e; have := beq_iff_eq.1 e; omega), h1, hj]
        have e2 : (((j + 1 : Nat) : Int).toNat) = j + 1 := by omega
        have e3 : ((j : Int).toNat) = j := by omega
        rw [e2, e3, e1]
        rfl
/-- Does '=?' stand in it? -/
def hasQ : List UInt8 → Bool
  | [] => false
  | [_] => false
  | a :: b :: r => (a == 61 && b == 63) || hasQ (b :: r)
theorem index_consQ (b : UInt8) (l : List UInt8) : Lib.index (b :: l) [61, 63] = if ([61, 63] : List UInt8).isPrefixOf (b :: l) then 0 else if Lib.index l [61, 63] == -1 then -1 else Lib.index l [61, 63] + 1 := by
  rw [Lib.index]
theorem hasQ_index : ∀ s : List UInt8, hasQ s = decide (0 ≤ Lib.index s [61, 63])
  | [] => by decide
  | [a] => by
    have e : ([61, 63] : List UInt8).isPrefixOf [a] = false := by simp [List.isPrefixOf]
    rw [index_consQ, e]; rfl
  | a :: b :: r => by
    have ih := hasQ_index (b :: r)
    have hge := Lib.index_ge (b :: r) [61, 63]
    have e : ([61, 63] : List UInt8).isPrefixOf (a :: b :: r) = (a == 61 && b == 63) := by
      simp only [List.isPrefixOf, Bool.and_true]
      rw [show ((61 : UInt8) == a) = (a == 61) from BEq.comm, show ((63 : UInt8) == b) = (b == 63) from BEq.comm]
    rw [hasQ, ih, index_consQ a, e]
    cases (a == 61 && b == 63) with
    | true => simp
    | false =>
      simp only [Bool.false_or, Bool.false_eq_true, if_false]
      by_cases hm : Lib.index (b :: r) [61, 63] = -1
      · rw [hm]; rfl
      · rw [if_neg (fun e => hm (beq_iff_eq.1 e))]
        rw [Bool.eq_iff_iff]; simp only [decide_eq_true_iff]; omega
def okB (c : UInt8) : Bool := decide (32 ≤ c.toNat ∧ c.toNat ≤ 126)
def plainB (s : List UInt8) : Bool := s.all okB && !hasQ s
def wHead : List UInt8 := [61, 63, 85, 84, 70, 45, 56, 63, 66, 63]
def wTail : List UInt8 := [63, 61]
def wrd (s : List UInt8) : List UInt8 := wHead ++ enc s ++ wTail
def wrds (s : List UInt8) : List (List UInt8) := if h : s = [] then [] else wrd (s.take 45) :: wrds (s.drop 45)
termination_by s.length
decreasing_by
  have := List.length_pos_iff.2 h
  simp; omega
theorem wrds_nil : wrds [] = [] := by rw [wrds]; rfl
theorem wrds_cons {s : List UInt8} (h : s ≠ []) : wrds s = wrd (s.take 45) :: wrds (s.drop 45) := by rw [wrds, dif_neg h]
/-- Pieces with a blank between. -/
def joinS : List (List UInt8) → List UInt8
  | [] => []
  | [a] => a
  | a :: b :: r => a ++ 32 :: joinS (b :: r)
def wEnc (s : List UInt8) : List UInt8 := if plainB s then s else joinS (wrds s)
theorem spl_app {a : List UInt8} (h : ∀ x ∈ a, x ≠ 32) (r : List UInt8) : spl (a ++ 32 :: r) = a :: spl r := by
  induction a with
  | nil => simp [spl]
  | cons c t ih =>
    have ih := ih (fun x hx => h x (List.mem_cons_of_mem _ hx))
    rw [List.cons_append, spl, if_neg (h c List.mem_cons_self), ih]
theorem spl_one {a : List UInt8} (h : ∀ x ∈ a, x ≠ 32) : spl a = [a] := by
  induction a with
  | nil => rfl
  | cons c t ih =>
    have ih := ih (fun x hx => h x (List.mem_cons_of_mem _ hx))
    rw [spl, if_neg (h c List.mem_cons_self), ih]
theorem spl_join : ∀ {l : List (List UInt8)}, l ≠ [] → (∀ a ∈ l, ∀ x ∈ a, x ≠ 32) → spl (joinS l) = l
  | [], h, _ => absurd rfl h
  | [a], _, h => spl_one (h a List.mem_cons_self)
  | a :: b :: r, _, h => by
    rw [joinS, spl_app (h a List.mem_cons_self), spl_join (by simp) (fun x hx => h x (List.mem_cons_of_mem _ hx))]
theorem isLet_ok {c : UInt8} (h : isLet c) : okB c = true ∧ c ≠ 32 ∧ c ≠ 63 := by
  rcases h with h | rfl
  · unfold worth at h
    refine ⟨?_, ?_, ?_⟩
    · unfold okB
      rw [decide_eq_true_iff]
      repeat' split at h
      all_goals omega
    · rintro rfl; exact h rfl
    · rintro rfl; exact h rfl
  · exact ⟨rfl, by decide, by decide⟩
theorem wrd_bytes (s : List UInt8) : ∀ x ∈ wrd s, okB x = true ∧ x ≠ 32 := by
  intro x hx
  unfold wrd at hx
  rcases List.mem_append.1 hx with hx | hx
  · rcases List.mem_append.1 hx with hx | hx
    · have : ∀ x ∈ wHead, okB x = true ∧ x ≠ 32 := by decide
      exact this x hx
    · have := isLet_ok (enc_lets s x hx); exact ⟨this.1, this.2.1⟩
  · have : ∀ x ∈ wTail, okB x = true ∧ x ≠ 32 := by decide
    exact this x hx
theorem wrds_bytes (s : List UInt8) : ∀ a ∈ wrds s, ∀ x ∈ a, okB x = true ∧ x ≠ 32 := by
  by_cases h : s = []
  · rw [h, wrds_nil]; intro a ha; cases ha
  · have ih := wrds_bytes (s.drop 45)
    rw [wrds_cons h]
    intro a ha
    rcases List.mem_cons.1 ha with rfl | ha
    · exact wrd_bytes _
    · exact ih a ha
termination_by s.length
decreasing_by
  have := List.length_pos_iff.2 h
  simp; omega
theorem wrds_ne {s : List UInt8} (h : s ≠ []) : wrds s ≠ [] := by rw [wrds_cons h]; simp
theorem join_bytes : ∀ {l : List (List UInt8)}, (∀ a ∈ l, ∀ x ∈ a, okB x = true) → ∀ x ∈ joinS l, okB x = true
  | [], _ => by intro x hx; cases hx
  | [a], h => h a List.mem_cons_self
  | a :: b :: r, h => by
    intro x hx
    rw [joinS] at hx
    rcases List.mem_append.1 hx with hx | hx
    · exact h a List.mem_cons_self x hx
    · rcases List.mem_cons.1 hx with rfl | hx
      · rfl
      · exact join_bytes (fun a ha => h a (List.mem_cons_of_mem _ ha)) x hx
theorem wEnc_bytes (s : List UInt8) : ∀ x ∈ wEnc s, okB x = true := by
  unfold wEnc
  split
  · rename_i h
    unfold plainB at h
    rw [Bool.and_eq_true] at h
    exact fun x hx => List.all_eq_true.1 h.1 x hx
  · exact join_bytes (fun a ha x hx => (wrds_bytes s a ha x hx).1)
theorem plain_nil : plainB [] = true := rfl
theorem not_plain_ne {s : List UInt8} (h : plainB s = false) : s ≠ [] := by rintro rfl; cases h
theorem hasQ_head (r : List UInt8) : hasQ (61 :: 63 :: r) = true := by simp [hasQ]
theorem joinS_head {a : List UInt8} {l : List (List UInt8)} : ∃ r, joinS (a :: l) = a ++ r := by
  cases l with
  | nil => exact ⟨[], by simp [joinS]⟩
  | cons b t => exact ⟨32 :: joinS (b :: t), rfl⟩
/-- A text of encoded words is not plain. -/
theorem words_not_plain {s : List UInt8} (h : s ≠ []) : plainB (joinS (wrds s)) = false := by
  obtain ⟨r, hr⟩ := joinS_head (a := wrd (s.take 45)) (l := wrds (s.drop 45))
  rw [wrds_cons h, hr]
  unfold wrd wHead
  simp [plainB, hasQ_head]
/-- What one piece says. -/
def unw (w : List UInt8) : Option (List UInt8) :=
  if wHead.isPrefixOf w = true ∧ wTail.isSuffixOf (w.drop 10) = true then dec ((w.drop 10).take (w.length - 12)) else none
theorem unw_wrd (s : List UInt8) : unw (wrd s) = some s := by
  unfold unw wrd
  have e1 : (wHead ++ enc s ++ wTail).drop 10 = enc s ++ wTail := by
    rw [List.append_assoc, show (10 : Nat) = wHead.length from rfl, List.drop_left]
  rw [e1, if_pos]
  · have e2 : (wHead ++ enc s ++ wTail).length - 12 = (enc s).length := by simp [wHead, wTail]
    rw [e2, List.take_left, dec_enc]
  · constructor
    · rw [List.append_assoc]; exact List.isPrefixOf_iff_prefix.2 (List.prefix_append _ _)
    · exact List.isSuffixOf_iff_suffix.2 (List.suffix_append _ _)
theorem unw_ref (w : List UInt8) : unw w = if 12 ≤ w.length ∧ w.take 10 = wHead ∧ w.drop (w.length - 2) = wTail then dec ((w.drop 10).take (w.length - 12)) else none := by
  unfold unw
  have key : (wHead.isPrefixOf w = true ∧ wTail.isSuffixOf (w.drop 10) = true) ↔ (12 ≤ w.length ∧ w.take 10 = wHead ∧ w.drop (w.length - 2) = wTail) := by
    constructor
    · rintro ⟨h1, h2⟩
      obtain ⟨a, rfl⟩ := List.isPrefixOf_iff_prefix.1 h1
      rw [show (10 : Nat) = wHead.length from rfl, List.drop_left] at h2
      obtain ⟨b, rfl⟩ := List.isSuffixOf_iff_suffix.1 h2
      refine ⟨by simp [wHead, wTail], by rw [show (10 : Nat) = wHead.length from rfl, List.take_left], ?_⟩
      rw [← List.append_assoc, show (wHead ++ b ++ wTail).length - 2 = (wHead ++ b).length by simp [wHead, wTail], List.drop_left]
    · rintro ⟨h1, h2, h3⟩
      constructor
      · rw [← h2]; exact List.isPrefixOf_iff_prefix.2 (List.take_prefix _ _)
      · rw [← h3]
        apply List.isSuffixOf_iff_suffix.2
        rw [show w.length - 2 = 10 + (w.length - 12) by omega, ← List.drop_drop]
        exact List.drop_suffix _ _
  by_cases h : wHead.isPrefixOf w = true ∧ wTail.isSuffixOf (w.drop 10) = true
  · rw [if_pos h, if_pos (key.1 h)]
  · rw [if_neg h, if_neg (fun x => h (key.2 x))]
/-- What pieces say, one behind the other. -/
def unws : List (List UInt8) → Option (List UInt8)
  | [] => some []
  | a :: r => (unw a).bind fun x => (unws r).map fun y => x ++ y
theorem unws_wrds (s : List UInt8) : unws (wrds s) = some s := by
  by_cases h : s = []
  · rw [h, wrds_nil]; rfl
  · have ih := unws_wrds (s.drop 45)
    rw [wrds_cons h, unws, unw_wrd, ih]
    simp
termination_by s.length
decreasing_by
  have := List.length_pos_iff.2 h
  simp; omega
def wDec (s : List UInt8) : Option (List UInt8) :=
  if plainB s then some s else (unws (spl s)).bind fun o => if plainB o = false ∧ wEnc o = s then some o else none
theorem wDec_enc (y : List UInt8) : wDec (wEnc y) = some y := by
  unfold wDec
  by_cases hp : plainB y = true
  · have e : wEnc y = y := by unfold wEnc; rw [if_pos hp]
    rw [e, if_pos hp]
  · have hp2 : plainB y = false := by simpa using hp
    have hn := not_plain_ne hp2
    have e : wEnc y = joinS (wrds y) := by unfold wEnc; rw [if_neg hp]
    have h1 := words_not_plain hn
    rw [e, h1, spl_join (wrds_ne hn) (fun a ha x hx => (wrds_bytes y a ha x hx).2), unws_wrds]
    simp [hp2, e]
theorem wDec_iff (s y : List UInt8) : wDec s = some y ↔ s = wEnc y := by
  constructor
  · intro h
    unfold wDec at h
    split at h
    · rename_i hp
      cases h
      unfold wEnc; rw [if_pos hp]
    · cases hu : unws (spl s) with
      | none => rw [hu] at h; cases h
      | some o =>
        rw [hu] at h
        simp only [Option.bind_some] at h
        split at h
        · rename_i e; cases h; exact e.2.symm
        · cases h
  · rintro rfl; exact wDec_enc y
/-- Whole words go on. -/
theorem wrds_app (a t : List UInt8) (h : a.length % 45 = 0) : wrds (a ++ t) = wrds a ++ wrds t := by
  by_cases hn : a = []
  · rw [hn, wrds_nil]; rfl
  · have hp := List.length_pos_iff.2 hn
    have ih := wrds_app (a.drop 45) t (by rw [List.length_drop]; omega)
    have hn2 : a ++ t ≠ [] := by simp [hn]
    rw [wrds_cons hn2, wrds_cons hn, List.take_append_of_le_length (by omega), List.drop_append_of_le_length (by omega), ih]
    rfl
termination_by a.length
decreasing_by
  have := List.length_pos_iff.2 hn
  simp; omega
theorem joinS_app : ∀ {l m : List (List UInt8)}, l ≠ [] → m ≠ [] → joinS (l ++ m) = joinS l ++ 32 :: joinS m
  | [], _, h, _ => absurd rfl h
  | [a], [], _, h => absurd rfl h
  | [a], b :: r, _, _ => rfl
  | a :: b :: r, m, _, hm => by
    have := joinS_app (l := b :: r) (m := m) (by simp) hm
    rw [List.cons_append, List.cons_append, joinS, ← List.cons_append, this, joinS]
    simp
theorem hasQ_app_l : ∀ {a : List UInt8} (t : List UInt8), hasQ a = true → hasQ (a ++ t) = true
  | [], _, h => by cases h
  | [_], _, h => by cases h
  | x :: y :: r, t, h => by
    rw [hasQ, Bool.or_eq_true] at h
    rw [List.cons_append, List.cons_append, hasQ, Bool.or_eq_true]
    rcases h with h | h
    · exact .inl h
    · exact .inr (hasQ_app_l (a := y :: r) t h)
theorem plain_app {a t : List UInt8} (h : plainB a = false) : plainB (a ++ t) = false := by
  unfold plainB at h ⊢
  rw [Bool.and_eq_false_iff] at h ⊢
  rcases h with h | h
  · left; rw [List.all_append, h]; rfl
  · right
    rw [Bool.not_eq_false'] at h ⊢
    exact hasQ_app_l t h
theorem wEnc_app {a t : List UInt8} (ha : plainB a = false) (ht : plainB t = false) (h : a.length % 45 = 0) : wEnc (a ++ t) = wEnc a ++ 32 :: wEnc t := by
  unfold wEnc
  rw [if_neg (by rw [plain_app ha]; simp), if_neg (by rw [ha]; simp), if_neg (by rw [ht]; simp), wrds_app a t h, joinS_app (wrds_ne (not_plain_ne ha)) (wrds_ne (not_plain_ne ht))]
theorem wrd_len (s : List UInt8) : (wrd s).length = 12 + (s.length + 2) / 3 * 4 := by
  unfold wrd; simp [wHead, wTail, enc_len]; omega
theorem joinS_len : ∀ (l : List (List UInt8)), (joinS l).length ≤ (l.map fun a => a.length + 1).sum
  | [] => by simp [joinS]
  | [a] => by simp [joinS]
  | a :: b :: r => by
    have := joinS_len (b :: r)
    rw [joinS, List.length_append, List.length_cons, List.map_cons, List.sum_cons]
    omega
theorem wrds_sum (s : List UInt8) : ((wrds s).map fun a => a.length + 1).sum ≤ 73 * ((s.length + 44) / 45) := by
  by_cases h : s = []
  · rw [h, wrds_nil]; simp
  · have hp := List.length_pos_iff.2 h
    have ih := wrds_sum (s.drop 45)
    rw [List.length_drop] at ih
    rw [wrds_cons h, List.map_cons, List.sum_cons, wrd_len, List.length_take]
    omega
termination_by s.length
decreasing_by
  have := List.length_pos_iff.2 h
  simp; omega
theorem wEnc_len (s : List UInt8) : (wEnc s).length ≤ s.length + 73 * ((s.length + 44) / 45) := by
  unfold wEnc
  split
  · omega
  · have h1 := joinS_len (wrds s)
    have h2 := wrds_sum s
    omega
/-- No run of bytes between blanks is longer than 72: n are behind us. -/
def okRun : Nat → List UInt8 → Prop
  | _, [] => True
  | n, c :: r => (if c = 32 then 0 else n + 1) ≤ 72 ∧ okRun (if c = 32 then 0 else n + 1) r
theorem okRun_app : ∀ {a : List UInt8} {n : Nat} {r : List UInt8}, (∀ x ∈ a, x ≠ 32) → n + a.length ≤ 72 → okRun (n + a.length) r → okRun n (a ++ r)
  | [], n, r, _, _, h => h
  | c :: t, n, r, hx, hl, h => by
    rw [List.length_cons] at hl h
    rw [List.cons_append, okRun, if_neg (hx c List.mem_cons_self)]
    refine ⟨by omega, okRun_app (fun x hm => hx x (List.mem_cons_of_mem _ hm)) (by omega) ?_⟩
    rw [show n + 1 + t.length = n + (t.length + 1) by omega]; exact h
theorem okRun_join : ∀ {l : List (List UInt8)}, (∀ a ∈ l, (∀ x ∈ a, x ≠ 32) ∧ a.length ≤ 72) → okRun 0 (joinS l)
  | [], _ => trivial
  | [a], h => by
    have := h a List.mem_cons_self
    rw [joinS, ← List.append_nil a]
    exact okRun_app this.1 (by omega) trivial
  | a :: b :: r, h => by
    have h1 := h a List.mem_cons_self
    rw [joinS]
    refine okRun_app h1.1 (by omega) ?_
    rw [okRun, if_pos rfl]
    exact ⟨by omega, okRun_join (fun x hx => h x (List.mem_cons_of_mem _ hx))⟩
theorem wrds_len (s : List UInt8) : ∀ a ∈ wrds s, a.length ≤ 72 := by
  by_cases h : s = []
  · rw [h, wrds_nil]; intro a ha; cases ha
  · have ih := wrds_len (s.drop 45)
    rw [wrds_cons h]
    intro a ha
    rcases List.mem_cons.1 ha with rfl | ha
    · rw [wrd_len, List.length_take]; omega
    · exact ih a ha
termination_by s.length
decreasing_by
  have := List.length_pos_iff.2 h
  simp; omega
theorem okRun_enc {s : List UInt8} (h : plainB s = false) : okRun 0 (wEnc s) := by
  unfold wEnc
  rw [if_neg (by rw [h]; simp)]
  exact okRun_join fun a ha => ⟨fun x hx => (wrds_bytes s a ha x hx).2, wrds_len s a ha⟩
theorem joinS_tail : ∀ {l : List (List UInt8)}, l ≠ [] → (∀ a ∈ l, ∃ b, a = b ++ wTail) → ∃ b, joinS l = b ++ wTail
  | [], h, _ => absurd rfl h
  | [a], _, h => h a List.mem_cons_self
  | a :: b :: r, _, h => by
    obtain ⟨c, hc⟩ := joinS_tail (l := b :: r) (by simp) (fun x hx => h x (List.mem_cons_of_mem _ hx))
    exact ⟨a ++ 32 :: c, by rw [joinS, hc]; simp⟩
theorem wrds_tail (s : List UInt8) : ∀ a ∈ wrds s, ∃ b, a = b ++ wTail := by
  by_cases h : s = []
  · rw [h, wrds_nil]; intro a ha; cases ha
  · have ih := wrds_tail (s.drop 45)
    rw [wrds_cons h]
    intro a ha
    rcases List.mem_cons.1 ha with rfl | ha
    · exact ⟨_, rfl⟩
    · exact ih a ha
termination_by s.length
decreasing_by
  have := List.length_pos_iff.2 h
  simp; omega
/-- How a text of encoded words begins and ends. -/
theorem wEnc_ends {s : List UInt8} (h : plainB s = false) : (wEnc s).take 10 = wHead ∧ (wEnc s).drop ((wEnc s).length - 2) = wTail ∧ 16 ≤ (wEnc s).length ∧ plainB (wEnc s) = false := by
  have hn := not_plain_ne h
  have e : wEnc s = joinS (wrds s) := by unfold wEnc; rw [if_neg (by rw [h]; simp)]
  rw [e]
  refine ⟨?_, ?_, ?_, words_not_plain hn⟩
  · obtain ⟨r, hr⟩ := joinS_head (a := wrd (s.take 45)) (l := wrds (s.drop 45))
    rw [wrds_cons hn, hr]
    unfold wrd
    rw [List.append_assoc, List.append_assoc, show (10 : Nat) = wHead.length from rfl, List.take_left]
  · obtain ⟨b, hb⟩ := joinS_tail (wrds_ne hn) (wrds_tail s)
    rw [hb, show (b ++ wTail).length - 2 = b.length by simp [wTail], List.drop_left]
  · obtain ⟨r, hr⟩ := joinS_head (a := wrd (s.take 45)) (l := wrds (s.drop 45))
    have hp := List.length_pos_iff.2 hn
    rw [wrds_cons hn, hr, List.length_append, wrd_len, List.length_take]
    omega
theorem wEnc_one {s : List UInt8} (h : plainB s = false) (hl : s.length ≤ 45) : wEnc s = wrd s := by
  have hn := not_plain_ne h
  unfold wEnc
  rw [if_neg (by rw [h]; simp), wrds_cons hn, List.drop_of_length_le hl, wrds_nil, List.take_of_length_le hl]; rfl
def wdStr (s : List UInt8) : ByteArray := match wDec s with | some o => ⟨o.toArray⟩ | none => ⟨#[]⟩
def wdCode (s : List UInt8) : Int := match wDec s with | some _ => 0 | none => 2
theorem wd_some {s o : List UInt8} (h : wDec s = some o) : wdStr s = ⟨o.toArray⟩ ∧ wdCode s = 0 := by unfold wdStr wdCode; rw [h]; exact ⟨rfl, rfl⟩
theorem wd_none {s : List UInt8} (h : wDec s = none) : wdStr s = ⟨#[]⟩ ∧ wdCode s = 2 := by unfold wdStr wdCode; rw [h]; exact ⟨rfl, rfl⟩
theorem wDec_len {s o : List UInt8} (h : wDec s = some o) : o.length ≤ s.length := by
  have h1 := (wDec_iff s o).1 h
  rw [h1]
  unfold wEnc
  split
  · exact Nat.le_refl _
  · have : ∀ s : List UInt8, s.length ≤ ((wrds s).map List.length).sum := by
      intro s
      induction s using wrds.induct with
      | case1 => simp
      | case2 s h ih =>
        have hp := List.length_pos_iff.2 h
        rw [wrds_cons h, List.map_cons, List.sum_cons, wrd_len, List.length_take]
        rw [List.length_drop] at ih
        omega
    have hj : ∀ l : List (List UInt8), (l.map List.length).sum ≤ (joinS l).length := by
      intro l
      induction l with
      | nil => simp
      | cons a t ih =>
        cases t with
        | nil => simp [joinS]
        | cons b r =>
          rw [joinS, List.map_cons, List.sum_cons, List.length_append, List.length_cons]
          omega
    exact Nat.le_trans (this o) (hj _)
theorem spl_sum (s : List UInt8) : ((spl s).map List.length).sum ≤ s.length ∧ (spl s).length ≤ s.length + 1 := by
  induction s with
  | nil => simp [spl]
  | cons c r ih =>
    rw [spl]
    split
    · simp only [List.map_cons, List.sum_cons, List.length_cons, List.length_nil]; omega
    · have hne := spl_ne r
      cases hs : spl r with
      | nil => exact absurd hs hne
      | cons h t =>
        rw [hs] at ih
        simp only [List.map_cons, List.sum_cons, List.length_cons] at ih ⊢
        omega
theorem unw_len {w x : List UInt8} (h : unw w = some x) : x.length ≤ w.length := by
  unfold unw at h
  split at h
  · have h2 := congrArg List.length ((dec_iff _ _).1 h)
    rw [enc_len, List.length_take, List.length_drop] at h2
    omega
  · cases h
theorem unws_len : ∀ {l : List (List UInt8)} {o : List UInt8}, unws l = some o → o.length ≤ (l.map List.length).sum
  | [], o, h => by cases h; simp
  | a :: r, o, h => by
    rw [unws] at h
    cases ha : unw a with
    | none => rw [ha] at h; cases h
    | some x =>
      rw [ha] at h
      simp only [Option.bind_some] at h
      cases hr : unws r with
      | none => rw [hr] at h; cases h
      | some y =>
        rw [hr] at h
        simp only [Option.map_some] at h
        cases h
        have h1 := unw_len ha
        have h2 := unws_len hr
        rw [List.length_append, List.map_cons, List.sum_cons]; omega
theorem unws_step {ps : List (List UInt8)} {k : Nat} (hk : k < ps.length) {o x : List UInt8} (hx : unw ps[k] = some x) (h : unws ps = (unws (ps.drop k)).map (o ++ ·)) :
    unws ps = (unws (ps.drop (k + 1))).map ((o ++ x) ++ ·) := by
  rw [h, List.drop_eq_getElem_cons hk, unws, hx]
  simp only [Option.bind_some, Option.map_map]
  congr 1
  funext l
  simp
theorem unws_stop {ps : List (List UInt8)} {k : Nat} (hk : k < ps.length) {o : List UInt8} (hx : unw ps[k] = none) (h : unws ps = (unws (ps.drop k)).map (o ++ ·)) : unws ps = none := by
  rw [h, List.drop_eq_getElem_cons hk, unws, hx]; rfl
/-- A piece as the program takes it apart. -/
theorem unw_cut (w : List UInt8) : unw w = if Lib.hasPrefix w wHead = true ∧ Lib.hasSuffix (Lib.trimPrefix w wHead) wTail = true then dec (Lib.trimSuffix (Lib.trimPrefix w wHead) wTail) else none := by
  unfold unw Lib.hasPrefix
  by_cases h1 : wHead.isPrefixOf w = true
  · have e1 : Lib.trimPrefix w wHead = w.drop 10 := by unfold Lib.trimPrefix Lib.hasPrefix; rw [if_pos h1]; rfl
    rw [e1]
    unfold Lib.hasSuffix
    by_cases h2 : wTail.isSuffixOf (w.drop 10) = true
    · have e2 : Lib.trimSuffix (w.drop 10) wTail = (w.drop 10).take (w.length - 12) := by
        unfold Lib.trimSuffix Lib.hasSuffix
        rw [if_pos h2]
        congr 1
        rw [List.length_drop]
        simp [wTail]; omega
      rw [if_pos ⟨h1, h2⟩, if_pos ⟨h1, h2⟩, e2]
    · rw [if_neg (fun x => h2 x.2), if_neg (fun x => h2 x.2)]
  · rw [if_neg (fun x => h1 x.1), if_neg (fun x => h1 x.1)]
theorem hasQ_snoc : ∀ (l : List UInt8) (c : UInt8), hasQ (l ++ [c]) = (hasQ l || (decide (l.getLast? = some 61) && c == 63))
  | [], c => by simp [hasQ]
  | [a], c => by
    rw [List.singleton_append]
    by_cases h : a = 61
    · subst h; simp [hasQ]
    · have e : (a == 61) = false := beq_false_of_ne h
      simp [hasQ, e, h]
  | a :: b :: r, c => by
    have ih := hasQ_snoc (b :: r) c
    rw [List.cons_append, List.cons_append, hasQ, ← List.cons_append, ih, hasQ, List.getLast?_cons_cons, Bool.or_assoc]
theorem hasQ_pre {s : List UInt8} {k : Nat} (h : hasQ (s.take k) = true) : hasQ s = true := by
  have := hasQ_app_l (s.drop k) h
  rwa [List.take_append_drop] at this
theorem plain_bad {s : List UInt8} {k : Nat} (h : k < s.length) (hb : okB s[k] = false) : plainB s = false := by
  unfold plainB
  rw [Bool.and_eq_false_iff]
  left
  rw [Bool.eq_false_iff]
  intro e
  have := List.all_eq_true.1 e s[k] (List.getElem_mem h)
  rw [hb] at this; cases this
theorem plain_bad2 {s : List UInt8} {k : Nat} (h : hasQ (s.take k) = true) : plainB s = false := by
  unfold plainB; rw [hasQ_pre h]; simp
theorem take_last {s : List UInt8} {k : Nat} (h : k < s.length) : (s.take (k + 1)).getLast? = some s[k] := by
  rw [List.take_succ_eq_append_getElem h, List.getLast?_append]; rfl
theorem hasQ_zero (s : List UInt8) (h : 0 < s.length) : hasQ (s.take 1) = false := by
  match s, h with
  | a :: r, _ => rfl
theorem hasQ_next {s : List UInt8} {k : Nat} (h : k + 1 < s.length) (h0 : hasQ (s.take (k + 1)) = false) : hasQ (s.take (k + 2)) = (decide (s[k]'(by omega) = 61) && s[k + 1] == 63) := by
  rw [List.take_succ_eq_append_getElem h, hasQ_snoc, h0, Bool.false_or, take_last (show k < s.length by omega)]
  simp
/-- Between two rounds of the document's Encode. -/
def EncI (s O : List UInt8) (k : Nat) : Prop := if s.drop (45 * k) = [] then O = joinS (wrds s) else joinS (wrds s) = O ++ (if k = 0 then [] else [32]) ++ joinS (wrds (s.drop (45 * k)))
theorem EncI.start {s : List UInt8} (h : s ≠ []) : EncI s [] 0 := by
  unfold EncI
  rw [Nat.mul_zero, List.drop_zero, if_neg h, if_pos rfl]; rfl
theorem EncI.next {s O : List UInt8} {k : Nat} (h : EncI s O k) (hn : s.drop (45 * k) ≠ []) : EncI s (O ++ (if k = 0 then [] else [32]) ++ wrd ((s.drop (45 * k)).take 45)) (k + 1) := by
  unfold EncI at h ⊢
  rw [if_neg hn] at h
  have hd : (s.drop (45 * k)).drop 45 = s.drop (45 * (k + 1)) := by rw [List.drop_drop]; congr 1
  rw [wrds_cons hn, hd] at h
  by_cases hn2 : s.drop (45 * (k + 1)) = []
  · rw [if_pos hn2]
    rw [hn2, wrds_nil, joinS] at h
    exact h.symm
  · rw [if_neg hn2, h, if_neg (Nat.succ_ne_zero k)]
    have hw := wrds_ne hn2
    cases hws : wrds (s.drop (45 * (k + 1))) with
    | nil => exact absurd hws hw
    | cons a r => rw [joinS]; simp
theorem EncI.done {s O : List UInt8} {k : Nat} (h : EncI s O k) (hn : s.drop (45 * k) = []) : O = joinS (wrds s) := by
  unfold EncI at h
  rw [if_pos hn] at h; exact h
end Go.Proofs.YteklocejgbippaaDoor
