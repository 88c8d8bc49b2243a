/- What is parsed is small. -/
import Derived.Test.YtnbefiaeihialaaGreatWalX
set_option linter.unusedVariables false
set_option linter.unusedSimpArgs false
namespace Go.Proofs.YtnbefiaeihialaaGreat
open Go.RowKit
theorem numF_two (s : Bs) : numF (s.take 2) < 65536 := by
  have h1 := numF_lt (s.take 2)
  have h2 : 256 ^ (s.take 2).length ≤ 256 ^ 2 := Nat.pow_le_pow_right (by decide) (by rw [List.length_take]; omega)
  omega
theorem pa1_ok {s r : Bs} {c : Ch} (h : pa1 s = some (c, r)) : c.Ok := by
  unfold pa1 at h
  split at h
  · cases h
  · split at h
    · cases h
    · injection h with h
      injection h with h _
      subst h
      have h1 := numF_two (s.drop 1)
      have h2 := numF_two (s.drop 3)
      constructor
      · show (⟨(List.take _ _).toArray⟩ : ByteArray).size ≤ _
        rw [lsize, List.length_take]; omega
      · show (⟨(List.take _ _).toArray⟩ : ByteArray).size ≤ _
        rw [lsize, List.length_take]; omega
theorem paN_ok : ∀ (n : Nat) (s : Bs) (l : List Ch), paN n s = some l → ChsOk l ∧ l.length ≤ s.length
  | 0, [], l, h => by unfold paN at h; cases h; exact ⟨fun c hc => (by cases hc), by simp⟩
  | n + 1, [], l, h => by unfold paN at h; cases h; exact ⟨fun c hc => (by cases hc), by simp⟩
  | 0, _ :: _, l, h => by unfold paN at h; cases h
  | n + 1, a :: s, l, h => by
    unfold paN at h
    cases hp : pa1 (a :: s) with
    | none => rw [hp] at h; cases h
    | some p =>
      obtain ⟨x, r⟩ := p
      rw [hp] at h
      have h2 : (paN n r).map (x :: ·) = some l := h
      cases hq : paN n r with
      | none => rw [hq] at h2; cases h2
      | some m =>
        rw [hq] at h2
        have h3 : x :: m = l := Option.some.inj h2
        have ih := paN_ok n r m hq
        have hlt := pa1_lt hp
        subst h3
        refine ⟨fun c hc => ?_, by rw [List.length_cons]; omega⟩
        rcases List.mem_cons.1 hc with rfl | hc
        · exact pa1_ok hp
        · exact ih.1 c hc
theorem paT_ok {s : Bs} {l : List Ch} (h : paT s = some l) : ChsOk l ∧ l.length ≤ s.length := paN_ok _ _ _ h
theorem Ch.Ok.fit {c : Ch} (h : c.Ok) : c.Fit := ⟨Nat.le_trans h.1 (by decide), Nat.le_trans h.2 (by decide)⟩
end Go.Proofs.YtnbefiaeihialaaGreat
