/- Package frame: the plain law: a text's whole lines and what stands behind; stuffing; a framer. No program in sight. -/
import Derived.Test.YteiepgbdngamiaaDoorLns
set_option linter.unusedVariables false
set_option linter.unusedSimpArgs false
namespace Go.Proofs.YteiepgbdngamiaaDoor
/-- A text's lines are I, and r stands behind. -/
def IR (s : List UInt8) (I : List (List UInt8)) (r : List UInt8) : Prop := lns s = I ++ [r]
theorem IR.ex (s : List UInt8) : ∃ I r, IR s I r := by
  have h := lns_ne s
  exact ⟨(lns s).dropLast, (lns s).getLast h, (List.dropLast_concat_getLast h).symm⟩
theorem IR.uniq {s : List UInt8} {I J : List (List UInt8)} {r t : List UInt8} (h : IR s I r) (k : IR s J t) : I = J ∧ r = t := by
  unfold IR at h k
  rw [h] at k
  have := List.append_inj' k rfl
  exact ⟨this.1, by simpa using this.2⟩
def initL (s : List UInt8) : List (List UInt8) := (lns s).dropLast
def restL (s : List UInt8) : List UInt8 := (lns s).getLastD []
theorem IR.of (s : List UInt8) : IR s (initL s) (restL s) := by
  have h := lns_ne s
  unfold IR initL restL
  rw [List.getLastD_eq_getLast?, List.getLast?_eq_some_getLast h]
  exact (List.dropLast_concat_getLast h).symm
theorem IR.eq {s : List UInt8} {I : List (List UInt8)} {r : List UInt8} (h : IR s I r) : initL s = I ∧ restL s = r := (IR.of s).uniq h
theorem consH_app (c : UInt8) (l : List UInt8) (I : List (List UInt8)) : consH c (l :: I) = (c :: l) :: I := rfl
/-- One byte more. -/
theorem lns_snoc (s : List UInt8) (c : UInt8) : ∀ I r, IR s I r → IR (s ++ [c]) (if c = 10 ∧ r.getLast? = some 13 then I ++ [r.dropLast] else I) (if c = 10 ∧ r.getLast? = some 13 then [] else r ++ [c]) := by
  induction s using lns.induct with
  | case1 =>
    intro I r h
    have h0 : IR [] [] [] := rfl
    obtain ⟨rfl, rfl⟩ := h.uniq h0
    simp only [List.getLast?_nil, reduceCtorEq, and_false, if_false, List.nil_append]
    unfold IR
    rw [lns_cons (by intro t e; cases e)]
    rfl
  | case2 t ih =>
    intro I r h
    obtain ⟨J, q, hJ⟩ := IR.ex t
    have h0 : IR (13 :: 10 :: t) ([] :: J) q := by unfold IR at hJ ⊢; rw [lns, hJ]; rfl
    obtain ⟨rfl, rfl⟩ := h.uniq h0
    have hi := ih J r hJ
    unfold IR at hi ⊢
    show lns (13 :: 10 :: (t ++ [c])) = _
    rw [lns, hi]
    split <;> simp
  | case3 c0 t hno ih =>
    intro I r h
    obtain ⟨J, q, hJ⟩ := IR.ex t
    have hno' : ∀ u, c0 :: t = 13 :: 10 :: u → False := fun u e => by injection e with e1 e2; exact hno u e1 e2
    have hc := lns_cons hno'
    by_cases hx : t = [] ∧ c0 = 13 ∧ c = 10
    · obtain ⟨rfl, rfl, rfl⟩ := hx
      have h0 : IR [13] [] [13] := by unfold IR; rw [hc]; rfl
      obtain ⟨rfl, rfl⟩ := h.uniq h0
      simp only [List.getLast?_singleton, and_self, if_true]
      rfl
    · have hno2 : ∀ u, c0 :: (t ++ [c]) = 13 :: 10 :: u → False := by
        intro u e
        injection e with e1 e2
        cases t with
        | nil =>
          simp at e2
          exact hx ⟨rfl, e1, e2.1⟩
        | cons a b =>
          simp at e2
          exact hno b e1 (by rw [e2.1])
      have hi := ih J q hJ
      unfold IR at hi hJ ⊢
      show lns (c0 :: (t ++ [c])) = _
      rw [lns_cons hno2, hi]
      cases J with
      | nil =>
        have h0 : IR (c0 :: t) [] (c0 :: q) := by unfold IR; rw [hc, hJ]; rfl
        obtain ⟨rfl, rfl⟩ := h.uniq h0
        have hq : (c0 :: q).getLast? = some 13 ∧ c = 10 → q.getLast? = some 13 := by
          rintro ⟨hl, rfl⟩
          cases q with
          | nil =>
            simp at hl
            have ht : t = [] := by
              cases t with
              | nil => rfl
              | cons a b =>
                rcases crlf_cases (a :: b) with ⟨u, e⟩ | e
                · rw [e, lns] at hJ
                  have := lns_ne u
                  cases hu : lns u with
                  | nil => exact absurd hu this
                  | cons x y => rw [hu] at hJ; simp at hJ
                · rw [lns_cons e] at hJ
                  have := lns_ne b
                  cases hu : lns b with
                  | nil => exact absurd hu this
                  | cons x y => rw [hu] at hJ; simp [consH] at hJ
            exact absurd ⟨ht, hl, rfl⟩ hx
          | cons a b => simpa using hl
        by_cases hh : c = 10 ∧ q.getLast? = some 13
        · have hh2 : c = 10 ∧ (c0 :: q).getLast? = some 13 := by
            refine ⟨hh.1, ?_⟩
            cases q with
            | nil => simp at hh
            | cons a b => simpa using hh.2
          rw [if_pos hh, if_pos hh, if_pos hh2, if_pos hh2]
          cases q with
          | nil => simp at hh
          | cons a b => simp [consH]
        · have hh2 : ¬ (c = 10 ∧ (c0 :: q).getLast? = some 13) := fun e => hh ⟨e.1, hq ⟨e.2, e.1⟩⟩
          rw [if_neg hh, if_neg hh, if_neg hh2, if_neg hh2]
          simp [consH]
      | cons l J =>
        have h0 : IR (c0 :: t) ((c0 :: l) :: J) q := by unfold IR; rw [hc, hJ]; rfl
        obtain ⟨rfl, rfl⟩ := h.uniq h0
        split <;> simp [consH]
theorem snoc_hit {s : List UInt8} {c : UInt8} (h1 : c = 10) (h2 : (restL s).getLast? = some 13) : initL (s ++ [c]) = initL s ++ [(restL s).dropLast] ∧ restL (s ++ [c]) = [] := by
  have h := (lns_snoc s c _ _ (IR.of s)).eq
  rw [if_pos ⟨h1, h2⟩, if_pos ⟨h1, h2⟩] at h
  exact h
theorem snoc_miss {s : List UInt8} {c : UInt8} (h : ¬ (c = 10 ∧ (restL s).getLast? = some 13)) : initL (s ++ [c]) = initL s ∧ restL (s ++ [c]) = restL s ++ [c] := by
  have h2 := (lns_snoc s c _ _ (IR.of s)).eq
  rw [if_neg h, if_neg h] at h2
  exact h2
theorem init_nil : initL [] = [] ∧ restL [] = [] := ⟨rfl, rfl⟩
/-- A line: none of its bytes end it. -/
def noEnd (l : List UInt8) : Prop := lns l = [l]
theorem noEnd_tail {c : UInt8} {r : List UInt8} (h : noEnd (c :: r)) : noEnd r ∧ ∀ t, c :: r = 13 :: 10 :: t → False := by
  unfold noEnd at h
  have hno : ∀ t, c :: r = 13 :: 10 :: t → False := by
    intro t e
    rw [e, lns] at h
    simp at h
  refine ⟨?_, hno⟩
  rw [lns_cons hno] at h
  have hne := lns_ne r
  unfold noEnd
  cases hl : lns r with
  | nil => exact absurd hl hne
  | cons a b => rw [hl] at h; simp [consH] at h; rw [h.1, h.2]
theorem noEnd_nil : noEnd [] := rfl
theorem noEnd_cons {c : UInt8} {r : List UInt8} (h : noEnd r) (hno : ∀ t, c :: r = 13 :: 10 :: t → False) : noEnd (c :: r) := by
  unfold noEnd at h ⊢
  rw [lns_cons hno, h]; rfl
theorem lns_line {l : List UInt8} (t : List UInt8) : noEnd l → lns (l ++ 13 :: 10 :: t) = l :: lns t := by
  induction l with
  | nil => intro _; simp [lns]
  | cons c r ih =>
    intro h
    obtain ⟨h1, h2⟩ := noEnd_tail h
    have hno : ∀ u, c :: (r ++ 13 :: 10 :: t) = 13 :: 10 :: u → False := by
      intro u e
      injection e with e1 e2
      cases r with
      | nil => simp at e2
      | cons a b =>
        simp at e2
        exact h2 b (by rw [e1, e2.1])
    rw [List.cons_append, lns_cons hno, ih h1]
    rfl
theorem lns_noEnd (s : List UInt8) : ∀ l ∈ lns s, noEnd l := by
  induction s using lns.induct with
  | case1 => simp [lns, noEnd]
  | case2 r ih =>
    intro l hl
    rw [lns] at hl
    rcases List.mem_cons.1 hl with rfl | hl
    · rfl
    · exact ih l hl
  | case3 c r h ih =>
    intro l hl
    have hno : ∀ u, c :: r = 13 :: 10 :: u → False := fun u e => by injection e with e1 e2; exact h u e1 e2
    rw [lns_cons hno] at hl
    have hne := lns_ne r
    cases hr : lns r with
    | nil => exact absurd hr hne
    | cons a b =>
      rw [hr] at hl ih
      rcases List.mem_cons.1 hl with rfl | hl
      · refine noEnd_cons (ih a (List.mem_cons_self ..)) ?_
        intro u e
        injection e with e1 e2
        rcases crlf_cases r with ⟨v, rfl⟩ | hv
        · rw [lns] at hr
          injection hr with e3 _
          rw [← e3] at e2
          cases e2
        · cases r with
          | nil => rw [lns] at hr; injection hr with e3 _; rw [← e3] at e2; cases e2
          | cons x y =>
            rw [lns_cons hv] at hr
            have := lns_ne y
            cases hy : lns y with
            | nil => exact absurd hy this
            | cons p q =>
              rw [hy] at hr
              injection hr with e3 _
              rw [← e3] at e2
              injection e2 with e2 _
              exact hno y (by rw [e1, e2])
      · exact ih l (List.mem_cons_of_mem _ hl)
/-- Lines with ends between. -/
def joinC : List (List UInt8) → List UInt8
  | [] => []
  | [l] => l
  | l :: ls => l ++ 13 :: 10 :: joinC ls
theorem joinC_lns (s : List UInt8) : joinC (lns s) = s := by
  induction s using lns.induct with
  | case1 => rfl
  | case2 r ih =>
    have hne := lns_ne r
    rw [lns]
    cases hl : lns r with
    | nil => exact absurd hl hne
    | cons a b => rw [hl] at ih; show [] ++ 13 :: 10 :: joinC (a :: b) = _; rw [ih]; rfl
  | case3 c r h ih =>
    have hno : ∀ u, c :: r = 13 :: 10 :: u → False := fun u e => by injection e with e1 e2; exact h u e1 e2
    have hne := lns_ne r
    rw [lns_cons hno]
    cases hl : lns r with
    | nil => exact absurd hl hne
    | cons a b =>
      rw [hl] at ih
      cases b with
      | nil => show c :: a = _; rw [← ih]; rfl
      | cons x y => show (c :: a) ++ 13 :: 10 :: joinC (x :: y) = _; rw [← ih]; rfl
/-- Lines, each with its end. -/
def ended : List (List UInt8) → List UInt8
  | [] => []
  | l :: ls => l ++ 13 :: 10 :: ended ls
theorem joinC_rest (I : List (List UInt8)) (r : List UInt8) : joinC (I ++ [r]) = ended I ++ r := by
  induction I with
  | nil => rfl
  | cons l I ih =>
    cases I with
    | nil => simp [joinC, ended]
    | cons x y =>
      show l ++ 13 :: 10 :: joinC ((x :: y) ++ [r]) = _
      rw [ih]
      simp [ended]
theorem whole (s : List UInt8) : s = ended (initL s) ++ restL s := by
  rw [← joinC_rest, ← IR.of s, joinC_lns]
theorem lns_ended (I : List (List UInt8)) (t : List UInt8) (h : ∀ l ∈ I, noEnd l) : lns (ended I ++ t) = I ++ lns t := by
  induction I with
  | nil => rfl
  | cons l I ih =>
    show lns ((l ++ 13 :: 10 :: ended I) ++ t) = _
    rw [List.append_assoc, List.cons_append, List.cons_append, lns_line _ (h l (List.mem_cons_self ..)), ih (fun x hx => h x (List.mem_cons_of_mem _ hx))]
    rfl
end Go.Proofs.YteiepgbdngamiaaDoor
