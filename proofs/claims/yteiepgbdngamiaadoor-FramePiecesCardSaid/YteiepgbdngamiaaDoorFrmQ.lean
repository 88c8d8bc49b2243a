/- Package frame: the plain law of Lines, Stuff, Unstuff. -/
import Derived.Test.YteiepgbdngamiaaDoorFrmP
set_option linter.unusedVariables false
set_option linter.unusedSimpArgs false
namespace Go.Proofs.YteiepgbdngamiaaDoor
theorem lns_ended_end (b : List UInt8) : IR (b ++ [13, 10]) (lns b) [] := by
  have h := IR.of b
  have h1 := snoc_miss (s := b) (c := 13) (by simp)
  have h2 := snoc_hit (s := b ++ [13]) (c := 10) rfl (by rw [h1.2]; simp)
  rw [h1.1, h1.2, List.append_assoc] at h2
  have h3 := IR.of (b ++ ([13] ++ [10]))
  rw [h2.1, h2.2, List.dropLast_concat] at h3
  rw [h]
  exact h3
theorem ends_of_rest (s : List UInt8) : restL s = [] → s = [] ∨ ∃ b, s = b ++ [13, 10] := by
  intro h
  have hw := whole s
  rw [h, List.append_nil] at hw
  rw [hw]
  generalize initL s = I
  induction I with
  | nil => exact .inl rfl
  | cons l I ih =>
    right
    rcases ih with e | ⟨b, e⟩
    · exact ⟨l, by simp [ended, e]⟩
    · exact ⟨l ++ 13 :: 10 :: b, by simp [ended, e]⟩
/-- What Lines answers. -/
def linesV (s : List UInt8) : List (List UInt8) := if restL s = [] then initL s else []
def linesC (s : List UInt8) : Int := if restL s = [] then 0 else 2
theorem lines_nil : linesV [] = [] ∧ linesC [] = 0 := ⟨rfl, rfl⟩
theorem lines_end (b : List UInt8) : linesV (b ++ [13, 10]) = lns b ∧ linesC (b ++ [13, 10]) = 0 := by
  have h := (lns_ended_end b).eq
  simp [linesV, linesC, h.1, h.2]
theorem lines_no {s : List UInt8} (h0 : s ≠ []) (h : ∀ b, s ≠ b ++ [13, 10]) : linesV s = [] ∧ linesC s = 2 := by
  have hr : restL s ≠ [] := fun e => by
    rcases ends_of_rest s e with e | ⟨b, e⟩
    · exact h0 e
    · exact h b e
  simp [linesV, linesC, hr]
def dotB (l : List UInt8) : List UInt8 := if l.head? = some 46 then 46 :: l else l
def stuffV (s : List UInt8) : List UInt8 := if restL s = [] then ended ((initL s).map dotB) ++ [46, 13, 10] else []
def undot (l : List UInt8) : List UInt8 := if l.head? = some 46 then l.drop 1 else l
/-- What Unstuff makes of lines: o: what is told so far. -/
def unst (o : List UInt8) : List (List UInt8) → Option (List UInt8 × List (List UInt8))
  | [] => none
  | [_] => none
  | l :: l2 :: ls => if l = [46] then some (o, l2 :: ls) else if l.head? = some 46 ∧ l[1]? ≠ some 46 then none else unst (o ++ undot l ++ [13, 10]) (l2 :: ls)
def unT (s : List UInt8) : List UInt8 := match unst [] (lns s) with | some x => x.1 | none => []
def unR (s : List UInt8) : List UInt8 := match unst [] (lns s) with | some x => joinC x.2 | none => []
def unC (s : List UInt8) : Int := match unst [] (lns s) with | some _ => 0 | none => 2
theorem dotB_no (l : List UInt8) (h : noEnd l) : noEnd (dotB l) := by
  unfold dotB
  split
  · exact noEnd_cons h fun t e => by injection e with e _; exact absurd e (by decide)
  · exact h
theorem dotB_ne (l : List UInt8) : dotB l ≠ [46] := by
  unfold dotB
  split
  · rename_i h; intro e; injection e with _ e; rw [e] at h; cases h
  · rename_i h; intro e; rw [e] at h; exact h rfl
theorem unst_dot (I : List (List UInt8)) (R : List (List UInt8)) (hR : R ≠ []) : ∀ o, unst o (I.map dotB ++ [46] :: R) = some (o ++ ended I, R) := by
  induction I with
  | nil =>
    intro o
    cases R with
    | nil => exact absurd rfl hR
    | cons a b => simp [unst, ended]
  | cons l I ih =>
    intro o
    obtain ⟨x, y, e⟩ : ∃ x y, I.map dotB ++ [46] :: R = x :: y := by
      cases I with
      | nil => exact ⟨_, _, rfl⟩
      | cons a b => exact ⟨_, _, rfl⟩
    show unst o (dotB l :: (I.map dotB ++ [46] :: R)) = _
    have hi := ih (o ++ l ++ [13, 10])
    rw [e] at hi ⊢
    rw [unst, if_neg (dotB_ne l)]
    have h2 : ¬ ((dotB l).head? = some 46 ∧ (dotB l)[1]? ≠ some 46) ∧ undot (dotB l) = l := by
      unfold dotB
      by_cases h : l.head? = some 46
      · rw [if_pos h]
        refine ⟨fun hh => hh.2 ?_, by simp [undot]⟩
        cases l with
        | nil => cases h
        | cons a b => simpa using h
      · rw [if_neg h]
        exact ⟨fun hh => h hh.1, by unfold undot; rw [if_neg h]⟩
    rw [if_neg h2.1, h2.2, hi]
    simp [ended]
theorem lns_stuff (s m : List UInt8) (h : restL s = []) : lns (stuffV s ++ m) = (initL s).map dotB ++ [46] :: lns m := by
  have hno : ∀ l ∈ (initL s).map dotB, noEnd l := by
    intro l hl
    obtain ⟨x, hx, rfl⟩ := List.mem_map.1 hl
    exact dotB_no x (lns_noEnd s x (by rw [IR.of s]; exact List.mem_append_left _ hx))
  unfold stuffV
  rw [if_pos h, List.append_assoc, lns_ended _ _ hno]
  show _ ++ lns (46 :: 13 :: 10 :: m) = _
  have := lns_line (l := [46]) m rfl
  rw [show [46] ++ 13 :: 10 :: m = 46 :: 13 :: 10 :: m from rfl] at this
  rw [this]
theorem back_un (s m : List UInt8) (h : restL s = []) : unT (stuffV s ++ m) = s ∧ unR (stuffV s ++ m) = m ∧ unC (stuffV s ++ m) = 0 := by
  have hu := unst_dot (initL s) (lns m) (lns_ne m) []
  rw [← lns_stuff s m h] at hu
  unfold unT unR unC
  rw [hu]
  refine ⟨?_, joinC_lns m, rfl⟩
  have hw := whole s
  rw [h, List.append_nil] at hw
  simpa using hw.symm
theorem back_lines (s : List UInt8) (h : restL s = []) : linesC (stuffV s) = 0 ∧ linesV (stuffV s) = (initL s).map dotB ++ [[46]] := by
  have hl := lns_stuff s [] h
  rw [List.append_nil] at hl
  have hi : IR (stuffV s) ((initL s).map dotB ++ [[46]]) [] := by unfold IR; rw [hl]; simp [lns]
  have := hi.eq
  simp [linesC, linesV, this.1, this.2]
end Go.Proofs.YteiepgbdngamiaaDoor
