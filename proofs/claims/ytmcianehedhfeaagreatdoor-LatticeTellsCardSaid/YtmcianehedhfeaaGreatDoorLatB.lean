/- Package lattice in plain words: what Parse tells. They speak of no program. -/
import Derived.Test.YtmcianehedhfeaaGreatDoorLatA
set_option linter.unusedVariables false
set_option linter.unusedSimpArgs false
namespace Go.Proofs.YtmcianehedhfeaaGreatDoor
/-- The pieces of a text between its strokes. -/
def sp47 : Bs → List Bs
  | [] => [[]]
  | c :: r => if c = 47 then [] :: sp47 r else match sp47 r with | [] => [[c]] | h :: t => (c :: h) :: t
theorem index_cons1 (b : UInt8) (l : Bs) : Lib.index (b :: l) [47] = if ([47] : Bs).isPrefixOf (b :: l) then 0 else if Lib.index l [47] == -1 then -1 else Lib.index l [47] + 1 := by
  rw [Lib.index]
theorem index_cons2 (b : UInt8) (l : Bs) : Lib.index (b :: l) [47, 47] = if ([47, 47] : Bs).isPrefixOf (b :: l) then 0 else if Lib.index l [47, 47] == -1 then -1 else Lib.index l [47, 47] + 1 := by
  rw [Lib.index]
theorem split_sp47 (s : Bs) : Lib.splitK [47] 0 (Lib.count s [47]) s = sp47 s := by
  induction s with
  | nil => rw [Lib.count_miss (by decide)]; rfl
  | cons c r ih =>
    have hix := index_cons1 c r
    by_cases hc : c = 47
    · subst hc
      have h1 : Lib.index (47 :: r) [47] = ((0 : Nat) : Int) := by rw [hix, if_pos (by simp [List.isPrefixOf])]; rfl
      rw [Lib.count_hit (by simp) h1, show List.drop (0 + ([47] : Bs).length) (47 :: r) = r from rfl, Nat.add_comm, Lib.splitK, if_neg (by rw [h1]; decide), h1]
      rw [sp47, if_pos rfl, ← ih]
      rfl
    · have hp : ([47] : Bs).isPrefixOf (c :: r) = false := by
        simp only [List.isPrefixOf, Bool.and_true]
        exact beq_false_of_ne (fun e => hc e.symm)
      rw [hp] at hix
      simp only [Bool.false_eq_true, if_false] at hix
      rw [sp47, if_neg hc, ← ih]
      by_cases hm : Lib.index r [47] = -1
      · have h1 : Lib.index (c :: r) [47] = -1 := by rw [hix, if_pos (by rw [hm]; rfl)]
        rw [Lib.count_miss h1, Lib.count_miss hm]
        rfl
      · have hge := Lib.index_ge r [47]
        obtain ⟨j, hj⟩ : ∃ j : Nat, Lib.index r [47] = j := ⟨(Lib.index r [47]).toNat, by omega⟩
        have h1 : Lib.index (c :: r) [47] = ((j + 1 : Nat) : Int) := by rw [hix, if_neg (fun e => hm (beq_iff_eq.1 e)), hj]; omega
        rw [Lib.count_hit (by simp) h1, Lib.count_hit (by simp) hj]
        have e1 : List.drop (j + 1 + ([47] : Bs).length) (c :: r) = List.drop (j + ([47] : Bs).length) r := by simp
        rw [e1]
        generalize Lib.count (List.drop (j + ([47] : Bs).length) r) [47] = k
        rw [Nat.add_comm 1 k, Lib.splitK, Lib.splitK, if_neg (by rw [h1]; intro e; have := beq_iff_eq.1 e; omega), if_neg (by rw [hj]; intro e; have := beq_iff_eq.1 e; omega), h1, hj]
        have e2 : (((j + 1 : Nat) : Int).toNat) = j + 1 := by omega
        have e3 : ((j : Int).toNat) = j := by omega
        rw [e2, e3, e1]
        rfl
theorem sp47_ne (s : Bs) : sp47 s ≠ [] := by
  cases s with
  | nil => simp [sp47]
  | cons c r => rw [sp47]; split <;> (try split) <;> simp
theorem sp47_app {a : Bs} (h : ∀ x ∈ a, x ≠ 47) (r : Bs) : sp47 (a ++ 47 :: r) = a :: sp47 r := by
  induction a with
  | nil => simp [sp47]
  | cons c t ih =>
    have ih := ih (fun x hx => h x (List.mem_cons_of_mem _ hx))
    rw [List.cons_append, sp47, if_neg (h c List.mem_cons_self), ih]
theorem sp47_one {a : Bs} (h : ∀ x ∈ a, x ≠ 47) : sp47 a = [a] := by
  induction a with
  | nil => rfl
  | cons c t ih =>
    have ih := ih (fun x hx => h x (List.mem_cons_of_mem _ hx))
    rw [sp47, if_neg (h c List.mem_cons_self), ih]
theorem sp47_jn : ∀ {l : List Bs}, l ≠ [] → (∀ a ∈ l, ∀ x ∈ a, x ≠ 47) → sp47 (jn l) = l
  | [], h, _ => absurd rfl h
  | [a], _, h => sp47_one (h a List.mem_cons_self)
  | a :: b :: r, _, h => by
    rw [jn, sp47_app (h a List.mem_cons_self), sp47_jn (by simp) (fun x hx => h x (List.mem_cons_of_mem _ hx))]
theorem sp47_sum (s : Bs) : (sp47 s).length ≤ s.length + 1 := by
  induction s with
  | nil => simp [sp47]
  | cons c r ih =>
    rw [sp47]
    split
    · simp only [List.length_cons]; omega
    · have hne := sp47_ne r
      cases hs : sp47 r with
      | nil => exact absurd hs hne
      | cons h t => rw [hs] at ih; simp only [List.length_cons] at ih ⊢; omega
theorem index_no {a : Bs} (h : ∀ x ∈ a, x ≠ 47) : Lib.index a [47, 47] = -1 := by
  induction a with
  | nil => decide
  | cons c t ih =>
    have ih := ih (fun x hx => h x (List.mem_cons_of_mem _ hx))
    have hc := h c List.mem_cons_self
    have hp : ([47, 47] : Bs).isPrefixOf (c :: t) = false := by
      cases t <;> simp [List.isPrefixOf, Ne.symm hc]
    rw [index_cons2, hp, ih]; rfl
theorem index_at {a : Bs} (h : ∀ x ∈ a, x ≠ 47) (r : Bs) : Lib.index (a ++ 47 :: 47 :: r) [47, 47] = (a.length : Int) := by
  induction a with
  | nil => rw [List.nil_append, index_cons2, if_pos (by simp [List.isPrefixOf])]; rfl
  | cons c t ih =>
    have ih := ih (fun x hx => h x (List.mem_cons_of_mem _ hx))
    have hc := h c List.mem_cons_self
    have hp : ([47, 47] : Bs).isPrefixOf (c :: (t ++ 47 :: 47 :: r)) = false := by
      cases t <;> simp [List.isPrefixOf, Ne.symm hc]
    rw [List.cons_append, index_cons2, hp, ih]
    simp only [Bool.false_eq_true, if_false]
    rw [if_neg (by intro e; have := beq_iff_eq.1 e; omega)]
    simp
/-- Which one of a row a name is. -/
def ix : List Bs → Bs → Option Nat
  | [], _ => none
  | y :: r, x => if y = x then some 0 else (ix r x).map (· + 1)
theorem ix_some : ∀ {l : List Bs} {x : Bs} {k : Nat}, ix l x = some k → ∃ h : k < l.length, l[k] = x
  | [], x, k, h => by cases h
  | y :: r, x, k, h => by
    rw [ix] at h
    split at h
    · rename_i e; cases h; exact ⟨by simp, e⟩
    · cases hr : ix r x with
      | none => rw [hr] at h; cases h
      | some j =>
        rw [hr] at h; cases h
        obtain ⟨h1, h2⟩ := ix_some hr
        exact ⟨by simp; omega, by simpa using h2⟩
theorem ix_none : ∀ {l : List Bs} {x : Bs}, ix l x = none ↔ x ∉ l
  | [], x => by simp [ix]
  | y :: r, x => by
    rw [ix]
    by_cases h : y = x
    · rw [if_pos h]; simp [h]
    · rw [if_neg h, Option.map_eq_none_iff, ix_none, List.mem_cons]
      constructor
      · rintro h1 (h2 | h2)
        · exact h h2.symm
        · exact h1 h2
      · exact fun h1 h2 => h1 (.inr h2)
theorem ix_get {l : List Bs} (hd : l.Nodup) {k : Nat} (hk : k < l.length) : ix l l[k] = some k := by
  cases h : ix l l[k] with
  | none => exact absurd (List.getElem_mem hk) (ix_none.1 h)
  | some j =>
    obtain ⟨h1, h2⟩ := ix_some h
    rw [nd_inj hd h1 hk h2]
/-- The bits that pieces name. -/
def mk1 (cp : List Bs) (acc : Nat) (p : Bs) : Nat := match ix cp p with | some i => acc ||| 2 ^ i | none => acc
def mkF (cp : List Bs) (ps : List Bs) : Nat := ps.foldl (mk1 cp) 0
theorem mkF_take (cp ps : List Bs) (k : Nat) (h : k < ps.length) : mkF cp (ps.take (k + 1)) = mk1 cp (mkF cp (ps.take k)) ps[k] := by
  unfold mkF
  rw [List.take_succ_eq_append_getElem h, List.foldl_append]; rfl
theorem mk1_lt {cp : List Bs} {acc : Nat} (h : acc < 2 ^ cp.length) (p : Bs) : mk1 cp acc p < 2 ^ cp.length := by
  unfold mk1
  split
  · rename_i i hi
    obtain ⟨h1, _⟩ := ix_some hi
    exact Nat.or_lt_two_pow h (Nat.pow_lt_pow_right (by decide) h1)
  · exact h
theorem mkF_lt (cp ps : List Bs) : mkF cp ps < 2 ^ cp.length := by
  unfold mkF
  have : ∀ (ps : List Bs) (acc : Nat), acc < 2 ^ cp.length → ps.foldl (mk1 cp) acc < 2 ^ cp.length := by
    intro ps
    induction ps with
    | nil => exact fun _ h => h
    | cons p r ih => exact fun acc h => ih _ (mk1_lt h p)
  exact this ps 0 (Nat.pow_pos (by decide))
theorem mk_bit (cp : List Bs) (k : Nat) : ∀ (ps : List Bs) (acc : Nat), (ps.foldl (mk1 cp) acc).testBit k = (acc.testBit k || ps.any fun p => ix cp p == some k)
  | [], acc => by simp
  | p :: r, acc => by
    rw [List.foldl_cons, mk_bit cp k r, List.any_cons, ← Bool.or_assoc]
    congr 1
    unfold mk1
    cases h : ix cp p with
    | none => simp
    | some i =>
      simp only [Nat.testBit_or, Nat.testBit_two_pow]
      congr 1
      first | done | rw [Bool.eq_iff_iff, decide_eq_true_iff, beq_iff_eq, Option.some_inj]
theorem mkF_sel {cp : List Bs} (hd : cp.Nodup) {m : Nat} (hm : m < 2 ^ cp.length) : mkF cp (selF cp m) = m := by
  apply Nat.eq_of_testBit_eq
  intro k
  unfold mkF
  rw [mk_bit, Nat.zero_testBit, Bool.false_or, Nat.testBit_eq_decide_div_mod_eq, Bool.eq_iff_iff, decide_eq_true_iff, List.any_eq_true]
  constructor
  · rintro ⟨p, hp, hk⟩
    obtain ⟨j, hj, rfl, hb⟩ := (selF_mem _ _ _).1 hp
    rw [ix_get hd hj] at hk
    have : j = k := by simpa using hk
    subst this; exact hb
  · intro hb
    have hk : k < cp.length := by
      rcases Nat.lt_or_ge k cp.length with h | h
      · exact h
      · rw [Nat.div_eq_of_lt (Nat.lt_of_lt_of_le hm (Nat.pow_le_pow_right (by decide) h))] at hb
        cases hb
    exact ⟨cp[k], (selF_mem _ _ _).2 ⟨k, hk, rfl, hb⟩, by rw [ix_get hd hk]; simp⟩
def cHead (s : Bs) : Bs := (Lib.cut s [47, 47]).1
def cTail (s : Bs) : Bs := (Lib.cut s [47, 47]).2.1
/-- What the code finds is the label, if the text has one. -/
theorem code_label {lv cp : List Bs} (h : LatOk lv cp) {s : Bs} {a m : Nat} (hl : IsL lv cp s a m) : ix lv (cHead s) = some a ∧ mkF cp (sp47 (cTail s)) = m := by
  obtain ⟨ha, hm, rfl⟩ := hl
  rw [ltxt_eq ha]
  have hn := nmOk_slash (h.lvn ha)
  by_cases hs : selF cp m = []
  · have e : tl (selF cp m) = [] := by unfold tl; rw [if_pos hs]
    rw [e, List.append_nil]
    have hi := index_no hn
    have hc : Lib.cut lv[a] [47, 47] = (lv[a], [], false) := by unfold Lib.cut; rw [hi]; rfl
    unfold cHead cTail
    rw [hc]
    refine ⟨ix_get h.ndl ha, ?_⟩
    have h0 := selF_nil hm hs
    subst h0
    have hno : ix cp [] = none := ix_none.2 fun hx => by have := (nmOk_len (h.cpn _ hx)).1; simp at this
    show mkF cp [[]] = 0
    unfold mkF mk1
    rw [List.foldl_cons, List.foldl_nil, hno]
  · have e : tl (selF cp m) = 47 :: 47 :: jn (selF cp m) := by unfold tl; rw [if_neg hs, jn_fl hs]
    rw [e]
    have hi := index_at hn (jn (selF cp m))
    have hc : Lib.cut (lv[a] ++ 47 :: 47 :: jn (selF cp m)) [47, 47] = (lv[a], jn (selF cp m), true) := by
      unfold Lib.cut
      rw [hi, if_pos (by omega)]
      have e2 : ((lv[a].length : Int)).toNat = lv[a].length := by omega
      rw [e2, List.take_left, ← List.drop_drop, List.drop_left]
      rfl
    unfold cHead cTail
    rw [hc]
    refine ⟨ix_get h.ndl ha, ?_⟩
    show mkF cp (sp47 (jn (selF cp m))) = m
    rw [sp47_jn hs (h.selS m), mkF_sel h.ndc hm]
end Go.Proofs.YtmcianehedhfeaaGreatDoor
