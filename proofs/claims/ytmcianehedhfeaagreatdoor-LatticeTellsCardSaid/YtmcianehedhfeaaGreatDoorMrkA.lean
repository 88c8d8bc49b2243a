/- Package marking in plain words: a marking line, and what Read tells. They speak of no program. -/
import Derived.Test.YtmcianehedhfeaaGreatDoorLatO
set_option linter.unusedVariables false
set_option linter.unusedSimpArgs false
namespace Go.Proofs.YtmcianehedhfeaaGreatDoor
def mword : Bs := [77, 65, 82, 75, 58, 32]
theorem crlf_no {a : Bs} (h : ∀ x ∈ a, x ≠ 13) : Lib.index a [13, 10] = -1 := by
  induction a with
  | nil => decide
  | cons c t ih =>
    have ih := ih (fun x hx => h x (List.mem_cons_of_mem _ hx))
    have hc := h c List.mem_cons_self
    have hp : ([13, 10] : Bs).isPrefixOf (c :: t) = false := by
      cases t <;> simp [List.isPrefixOf, Ne.symm hc]
    rw [index_cons, hp, ih]; rfl
theorem crlf_at {a : Bs} (h : ∀ x ∈ a, x ≠ 13) (r : Bs) : Lib.index (a ++ 13 :: 10 :: r) [13, 10] = (a.length : Int) := by
  induction a with
  | nil => rw [List.nil_append, index_cons, if_pos (by simp [List.isPrefixOf])]; rfl
  | cons c t ih =>
    have ih := ih (fun x hx => h x (List.mem_cons_of_mem _ hx))
    have hc := h c List.mem_cons_self
    have hp : ([13, 10] : Bs).isPrefixOf (c :: (t ++ 13 :: 10 :: r)) = false := by
      cases t <;> simp [List.isPrefixOf, Ne.symm hc]
    rw [List.cons_append, index_cons, hp, ih]
    simp only [Bool.false_eq_true, if_false]
    rw [if_neg (by intro e; have := beq_iff_eq.1 e; omega)]
    simp
def mLine (t : Bs) : Bs := (Lib.cut t [13, 10]).1
def mRest (t : Bs) : Bs := (Lib.cut t [13, 10]).2.1
theorem mCut_at {a : Bs} (h : ∀ x ∈ a, x ≠ 13) (r : Bs) : mLine (a ++ 13 :: 10 :: r) = a ∧ mRest (a ++ 13 :: 10 :: r) = r := by
  unfold mLine mRest Lib.cut
  rw [crlf_at h, if_pos (by omega)]
  have e : ((a.length : Int)).toNat = a.length := by omega
  rw [e]
  refine ⟨List.take_left, ?_⟩
  show List.drop (a.length + 2) _ = r
  rw [← List.drop_drop, List.drop_left]; rfl
theorem mCut_no {a : Bs} (h : ∀ x ∈ a, x ≠ 13) : mLine a = a ∧ mRest a = [] := by
  unfold mLine mRest Lib.cut
  rw [crlf_no h]; exact ⟨rfl, rfl⟩
theorem mCut_len (t : Bs) : (mLine t).length ≤ t.length ∧ (mRest t).length ≤ t.length := by
  unfold mLine mRest Lib.cut
  split
  · constructor <;> simp <;> omega
  · simp
theorem isNm13 {s : Bs} (h : nmOk s = true) : ∀ x ∈ s, x ≠ 13 := by
  unfold nmOk at h
  rw [Bool.and_eq_true, List.all_eq_true] at h
  rintro x hx rfl
  have := h.2 _ hx
  simp [isNm] at this
theorem fl13 : ∀ {l : List Bs}, (∀ x ∈ l, ∀ z ∈ x, z ≠ 13) → ∀ z ∈ fl l, z ≠ 13
  | [], _, z, hz => by cases hz
  | x :: r, h, z, hz => by
    rw [fl] at hz
    rcases List.mem_cons.1 hz with rfl | hz
    · decide
    · rcases List.mem_append.1 hz with hz | hz
      · exact h x List.mem_cons_self z hz
      · exact fl13 (fun y hy => h y (List.mem_cons_of_mem _ hy)) z hz
theorem ltxt13 {lv cp : List Bs} (h : LatOk lv cp) {a m : Nat} (ha : a < lv.length) : ∀ z ∈ ltxt lv cp a m, z ≠ 13 := by
  rw [ltxt_eq ha]
  intro z hz
  rcases List.mem_append.1 hz with hz | hz
  · exact isNm13 (h.lvn ha) z hz
  · unfold tl at hz
    split at hz
    · cases hz
    · rcases List.mem_cons.1 hz with rfl | hz
      · decide
      · exact fl13 (fun x hx => isNm13 (h.cpn x (selF_sub x hx))) z hz
/-- A label's marking line. -/
def mlF (lv cp : List Bs) (a m : Nat) : Bs := mword ++ ltxt lv cp a m
theorem mlF13 {lv cp : List Bs} (h : LatOk lv cp) {a m : Nat} (ha : a < lv.length) : ∀ z ∈ mlF lv cp a m, z ≠ 13 := by
  intro z hz
  rcases List.mem_append.1 hz with hz | hz
  · exact (show ∀ z ∈ mword, z ≠ 13 by unfold mword; decide) z hz
  · exact ltxt13 h ha z hz
/-- What Line tells. -/
def mlT (lv cp : List Bs) (a : Int) (m : Nat) : Bs := if inL lv cp a m then mlF lv cp a.toNat m else []
/-- What Mark tells. -/
def mkT (lv cp : List Bs) (a : Int) (m : Nat) (t : Bs) : Bs := if inL lv cp a m then mlF lv cp a.toNat m ++ 13 :: 10 :: t else []
/-- What Read tells: the label, the rest, and the error's number. -/
noncomputable def rdF (lv cp : List Bs) (t : Bs) : Nat × Nat × Bs × Int :=
  if latR lv cp then
    if Lib.hasPrefix (mLine t) mword then
      if (lpF lv cp ((mLine t).drop 6)).2.2 = 0 then ((lpF lv cp ((mLine t).drop 6)).1, (lpF lv cp ((mLine t).drop 6)).2.1, mRest t, 0) else (0, 0, [], 11)
    else (0, 0, [], 11)
  else (0, 0, [], 2)
theorem rdF_bad {lv cp : List Bs} (h : latR lv cp = false) (t : Bs) : rdF lv cp t = (0, 0, [], 2) := by unfold rdF; rw [h]; rfl
theorem mword_pre (x : Bs) : Lib.hasPrefix (mword ++ x) mword = true ∧ (mword ++ x).drop 6 = x := by
  refine ⟨?_, rfl⟩
  unfold Lib.hasPrefix mword
  simp [List.isPrefixOf]
/-- What was marked is read. -/
theorem rdF_mark {lv cp : List Bs} (h : LatOk lv cp) {a m : Nat} (ha : a < lv.length) (hm : m < 2 ^ cp.length) (t : Bs) : rdF lv cp (mlF lv cp a m ++ 13 :: 10 :: t) = (a, m, t, 0) := by
  obtain ⟨h1, h2⟩ := mCut_at (mlF13 h ha (m := m)) t
  unfold rdF
  rw [(latR_iff _ _).2 h, h1, h2]
  have h3 := mword_pre (ltxt lv cp a m)
  unfold mlF
  rw [h3.1, h3.2, lpF_some h ⟨ha, hm, rfl⟩]; rfl
theorem rdF_line {lv cp : List Bs} (h : LatOk lv cp) {a m : Nat} (ha : a < lv.length) (hm : m < 2 ^ cp.length) : rdF lv cp (mlF lv cp a m) = (a, m, [], 0) := by
  obtain ⟨h1, h2⟩ := mCut_no (mlF13 h ha (m := m))
  unfold rdF
  rw [(latR_iff _ _).2 h, h1, h2]
  have h3 := mword_pre (ltxt lv cp a m)
  unfold mlF
  rw [h3.1, h3.2, lpF_some h ⟨ha, hm, rfl⟩]; rfl
/-- A text whose first line begins otherwise. -/
theorem rdF_blank {lv cp : List Bs} (h : LatOk lv cp) (t : Bs) : rdF lv cp (32 :: t) = (0, 0, [], 11) := by
  have hp : Lib.hasPrefix (mLine (32 :: t)) mword = false := by
    have : mLine (32 :: t) = [] ∨ ∃ r, mLine (32 :: t) = 32 :: r := by
      unfold mLine Lib.cut
      split
      · cases (Lib.index (32 :: t) [13, 10]).toNat with
        | zero => exact .inl rfl
        | succ k => exact .inr ⟨_, rfl⟩
      · exact .inr ⟨_, rfl⟩
    rcases this with e | ⟨r, e⟩ <;> rw [e] <;> unfold Lib.hasPrefix mword <;> simp [List.isPrefixOf]
  unfold rdF
  rw [(latR_iff _ _).2 h, hp]; rfl
/-- What Read tells is a label of the lattice, or an error. -/
theorem rdF_inv {lv cp : List Bs} (h : LatOk lv cp) (t : Bs) : (∃ a m r, a < lv.length ∧ m < 2 ^ cp.length ∧ rdF lv cp t = (a, m, r, 0)) ∨ rdF lv cp t = (0, 0, [], 11) := by
  unfold rdF
  rw [(latR_iff _ _).2 h]
  simp only [if_true]
  split
  · split
    · rename_i h1 h2
      rcases lpF_inv h (s := (mLine t).drop 6) with ⟨a, m, hl, e⟩ | ⟨_, e⟩
      · left; exact ⟨a, m, mRest t, hl.1, hl.2.1, by rw [e]⟩
      · rw [e] at h2; cases h2
    · right; rfl
  · right; rfl
theorem ltxt_len2 {lv cp : List Bs} (h : LatOk lv cp) {a m : Nat} (ha : a < lv.length) : (ltxt lv cp a m).length ≤ 2000 := by
  rw [ltxt_eq ha, List.length_append]
  have h1 := (nmOk_len (h.lvn ha)).2
  have h2 := h.c64
  have h3 := selF_len cp m
  by_cases hs : selF cp m = []
  · unfold tl; rw [if_pos hs]; simp; omega
  · rw [tl_eq hs, List.length_append]
    have h4 := jn_len (selF cp m) fun x hx => (nmOk_len (h.cpn x (selF_sub x hx))).2
    have h5 : ([47, 47] : Bs).length = 2 := rfl
    omega
theorem inL_inv {lv cp : List Bs} {a : Int} {m : Nat} (h : inL lv cp a m = true) : LatOk lv cp ∧ ∃ k : Nat, a = k ∧ k < lv.length ∧ m < 2 ^ cp.length := by
  unfold inL at h
  rw [Bool.and_eq_true, decide_eq_true_iff] at h
  exact ⟨(latR_iff _ _).1 h.1, a.toNat, by omega, by omega, h.2.2.2⟩
/-- Print's ways. -/
theorem lpr_cases (lv cp : List Bs) (a : Int) (m : Nat) : (inL lv cp a m = true ∧ lprT lv cp a m = ltxt lv cp a.toNat m ∧ lprE lv cp a m = 0 ∧ (ltxt lv cp a.toNat m).length ≤ 2000) ∨ (inL lv cp a m = false ∧ lprT lv cp a m = [] ∧ (lprE lv cp a m = 2 ∨ lprE lv cp a m = 8)) := by
  cases hI : inL lv cp a m with
  | true =>
    obtain ⟨hok, k, rfl, hk, _⟩ := inL_inv hI
    left
    refine ⟨rfl, by unfold lprT; rw [hI]; rfl, by unfold lprE; rw [hI, (latR_iff _ _).2 hok]; rfl, ?_⟩
    rw [Int.toNat_natCast]
    exact ltxt_len2 hok hk
  | false =>
    right
    refine ⟨rfl, by unfold lprT; rw [hI]; rfl, ?_⟩
    unfold lprE
    rw [hI]
    cases latR lv cp
    · exact .inl rfl
    · exact .inr rfl
end Go.Proofs.YtmcianehedhfeaaGreatDoor
