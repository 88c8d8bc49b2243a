/- The document's Parse in plain words: taking names off. They speak of no program. -/
import Derived.Test.YtmcianehedhfeaaGreatDoorLatA
set_option linter.unusedVariables false
set_option linter.unusedSimpArgs false
namespace Go.Proofs.YtmcianehedhfeaaGreatDoor
/-- Does a name stand ahead, a stroke ahead of it, and an end or a stroke behind? -/
def takes (c r : Bs) : Prop := r.take (c.length + 1) = 47 :: c ∧ (r.length = c.length + 1 ∨ ∃ h : c.length + 1 < r.length, r[c.length + 1] = 47)
theorem takes_iff {c r : Bs} : takes c r ↔ ∃ x, r = 47 :: (c ++ x) ∧ (x = [] ∨ ∃ y, x = 47 :: y) := by
  constructor
  · rintro ⟨h1, h2⟩
    refine ⟨r.drop (c.length + 1), ?_, ?_⟩
    · have := (List.take_append_drop (c.length + 1) r).symm
      rw [h1] at this; exact this
    · rcases h2 with h2 | ⟨h, h2⟩
      · left; exact List.drop_of_length_le (by omega)
      · right
        rw [List.drop_eq_getElem_cons h, h2]; exact ⟨_, rfl⟩
  · rintro ⟨x, rfl, hx⟩
    refine ⟨by simp, ?_⟩
    rcases hx with rfl | ⟨y, rfl⟩
    · left; simp
    · right
      refine ⟨by simp, ?_⟩
      simp
open Classical in
noncomputable def grd : List Bs → Nat → Nat → Bs → Nat × Bs
  | [], _, acc, r => (acc, r)
  | c :: cs, i, acc, r => if takes c r then grd cs (i + 1) (acc + 2 ^ i) (r.drop (c.length + 1)) else grd cs (i + 1) acc r
theorem grd_hit {c : Bs} {cs : List Bs} {i acc : Nat} {r : Bs} (h : takes c r) : grd (c :: cs) i acc r = grd cs (i + 1) (acc + 2 ^ i) (r.drop (c.length + 1)) := by rw [grd, if_pos h]
theorem grd_miss {c : Bs} {cs : List Bs} {i acc : Nat} {r : Bs} (h : ¬ takes c r) : grd (c :: cs) i acc r = grd cs (i + 1) acc r := by rw [grd, if_neg h]
theorem grd_le : ∀ (cs : List Bs) (i acc : Nat) (r : Bs), (grd cs i acc r).2.length ≤ r.length
  | [], _, _, _ => Nat.le_refl _
  | c :: cs, i, acc, r => by
    by_cases h : takes c r
    · rw [grd_hit h]
      exact Nat.le_trans (grd_le cs _ _ _) (by rw [List.length_drop]; omega)
    · rw [grd_miss h]; exact grd_le cs _ _ _
theorem grd_fwd : ∀ (cs : List Bs) (i acc : Nat) (r : Bs), (grd cs i acc r).2 = [] → ∃ m, m < 2 ^ cs.length ∧ (grd cs i acc r).1 = acc + m * 2 ^ i ∧ r = fl (selF cs m)
  | [], i, acc, r, h => ⟨0, by simp, by simp [grd], by simpa [grd, selF, fl] using h⟩
  | c :: cs, i, acc, r, h => by
    by_cases ht : takes c r
    · rw [grd_hit ht] at h ⊢
      obtain ⟨m, h1, h2, h3⟩ := grd_fwd cs _ _ _ h
      obtain ⟨x, hr, _⟩ := takes_iff.1 ht
      refine ⟨2 * m + 1, by rw [List.length_cons, Nat.pow_succ]; omega, ?_, ?_⟩
      · rw [h2, Nat.pow_succ, Nat.add_mul, Nat.one_mul, Nat.mul_comm 2 m, Nat.mul_assoc m 2, Nat.mul_comm 2 (2 ^ i)]; omega
      · rw [selF, if_pos (by omega), show (2 * m + 1) / 2 = m by omega, fl, ← h3, hr]
        simp
    · rw [grd_miss ht] at h ⊢
      obtain ⟨m, h1, h2, h3⟩ := grd_fwd cs _ _ _ h
      refine ⟨2 * m, by rw [List.length_cons, Nat.pow_succ]; omega, ?_, ?_⟩
      · rw [h2, Nat.pow_succ, Nat.mul_comm 2 m, Nat.mul_assoc m 2, Nat.mul_comm 2 (2 ^ i)]
      · rw [selF, if_neg (by omega), show 2 * m / 2 = m by omega, h3]
theorem grd_bwd : ∀ (cs : List Bs) (i acc m : Nat), cs.Nodup → (∀ x ∈ cs, ∀ z ∈ x, z ≠ 47) → m < 2 ^ cs.length → grd cs i acc (fl (selF cs m)) = (acc + m * 2 ^ i, [])
  | [], i, acc, m, _, _, hm => by
    have : m = 0 := by simpa using hm
    subst this; simp [grd, selF, fl]
  | c :: cs, i, acc, m, hd, hs, hm => by
    rw [List.length_cons, Nat.pow_succ] at hm
    have hd2 := List.nodup_cons.1 hd
    have hs2 : ∀ x ∈ cs, ∀ z ∈ x, z ≠ 47 := fun x hx => hs x (List.mem_cons_of_mem _ hx)
    by_cases hb : m % 2 = 1
    · rw [selF, if_pos hb, fl]
      have ht : takes c (47 :: (c ++ fl (selF cs (m / 2)))) := takes_iff.2 ⟨_, rfl, fl_head _⟩
      rw [grd_hit ht]
      have e : (47 :: (c ++ fl (selF cs (m / 2)))).drop (c.length + 1) = fl (selF cs (m / 2)) := by simp
      rw [e, grd_bwd cs _ _ _ hd2.2 hs2 (by omega)]
      congr 1
      rw [Nat.pow_succ, Nat.mul_comm (2 ^ i) 2, ← Nat.mul_assoc]
      have h2 : m = m / 2 * 2 + 1 := by omega
      conv => rhs; rw [h2]
      rw [Nat.add_mul]; omega
    · rw [selF, if_neg hb]
      have ht : ¬ takes c (fl (selF cs (m / 2))) := by
        intro h
        obtain ⟨x, hr, hx⟩ := takes_iff.1 h
        cases hsel : selF cs (m / 2) with
        | nil => rw [hsel] at hr; cases hr
        | cons y l =>
          rw [hsel, fl] at hr
          have hy : y ∈ cs := selF_sub (m := m / 2) y (by rw [hsel]; exact List.mem_cons_self)
          have := (till_slash (hs2 y hy) (hs c List.mem_cons_self) (fl_head l) hx (List.cons.inj hr).2).1
          subst this
          exact hd2.1 hy
      rw [grd_miss ht, grd_bwd cs _ _ _ hd2.2 hs2 (by omega)]
      congr 1
      rw [Nat.pow_succ, Nat.mul_comm (2 ^ i) 2, ← Nat.mul_assoc]
      have h2 : m = m / 2 * 2 := by omega
      conv => rhs; rw [h2]
/-- What the document's Parse tells at one level. -/
noncomputable def atLv (cp : List Bs) (n s : Bs) : Option Nat :=
  if s.length < n.length ∨ s.take n.length ≠ n then none
  else if s.drop n.length = [] then some 0
  else if (s.drop n.length).length < 3 ∨ (s.drop n.length).take 2 ≠ [47, 47] then none
  else if (grd cp 0 0 (s.drop (n.length + 1))).2 = [] then some (grd cp 0 0 (s.drop (n.length + 1))).1 else none
theorem atLv_is {lv cp : List Bs} (h : LatOk lv cp) {s : Bs} {v m : Nat} (hv : v < lv.length) : atLv cp lv[v] s = some m ↔ IsL lv cp s v m := by
  have hn := nmOk_slash (h.lvn hv)
  constructor
  · intro e
    unfold atLv at e
    split at e
    · cases e
    · rename_i hp
      have hp2 : s = lv[v] ++ s.drop lv[v].length := by
        have hp3 : s.take lv[v].length = lv[v] := Classical.byContradiction fun x => hp (.inr x)
        have := (List.take_append_drop lv[v].length s).symm
        rw [hp3] at this; exact this
      split at e
      · rename_i h0
        cases e
        refine ⟨hv, Nat.pow_pos (by decide), ?_⟩
        rw [ltxt_eq hv, selF_zero, hp2, h0]; rfl
      · rename_i h0
        split at e
        · cases e
        · rename_i h2
          split at e
          · rename_i h3
            cases e
            obtain ⟨m, h4, h5, h6⟩ := grd_fwd cp 0 0 _ h3
            have e2 : (grd cp 0 0 (s.drop (lv[v].length + 1))).1 = m := by rw [h5]; omega
            rw [e2]
            refine ⟨hv, h4, ?_⟩
            rw [ltxt_eq hv]
            have h7 : (s.drop lv[v].length).take 2 = [47, 47] := Classical.byContradiction fun x => h2 (.inr x)
            have h8 : s.drop lv[v].length = 47 :: s.drop (lv[v].length + 1) := by
              cases hs : s.drop lv[v].length with
              | nil => exact absurd hs h0
              | cons a r =>
                rw [hs] at h7
                have ha : a = 47 := (List.cons.inj (show a :: r.take 1 = [47, 47] from h7)).1
                have hr : s.drop (lv[v].length + 1) = r := by rw [← List.drop_drop, hs]; rfl
                rw [hr, ha]
            have h9 : selF cp m ≠ [] := by
              intro e3
              rw [e3] at h6
              have := congrArg List.length h8
              rw [h6] at this
              have h10 : (s.drop lv[v].length).length = 1 := this
              exact h2 (.inl (by omega))
            unfold tl
            rw [if_neg h9, ← h6, ← h8, ← hp2]
          · cases e
  · rintro ⟨_, hm, rfl⟩
    rw [ltxt_eq hv]
    unfold atLv
    rw [if_neg (by simp), List.drop_left]
    by_cases hs : selF cp m = []
    · have h0 := selF_nil hm hs
      subst h0
      rw [if_pos (by unfold tl; rw [if_pos hs])]
    · have e : tl (selF cp m) = 47 :: fl (selF cp m) := by unfold tl; rw [if_neg hs]
      have e2 : (lv[v] ++ tl (selF cp m)).drop (lv[v].length + 1) = fl (selF cp m) := by
        rw [← List.drop_drop, List.drop_left, e]; rfl
      rw [e2, if_neg (by rw [e]; simp)]
      have hl : ∃ a b, fl (selF cp m) = 47 :: a :: b := by
        cases hs2 : selF cp m with
        | nil => exact absurd hs2 hs
        | cons y l =>
          have hy := (nmOk_len (h.cpn y (selF_sub (m := m) y (by rw [hs2]; exact List.mem_cons_self)))).1
          cases y with
          | nil => simp at hy
          | cons a b => exact ⟨a, b ++ fl l, rfl⟩
      obtain ⟨a, b, hab⟩ := hl
      rw [if_neg (by rw [e, hab]; simp), grd_bwd cp 0 0 m h.ndc (fun x hx => nmOk_slash (h.cpn x hx)) hm]
      simp
end Go.Proofs.YtmcianehedhfeaaGreatDoor
