/- Package lattice in plain words: what Right asks, name by name. They speak of no program. -/
import Derived.Test.YtmcianehedhfeaaGreatDoorLatA
import Derived.Lib.SlTrimSet
import Derived.Lib.SlicesS
set_option linter.unusedVariables false
set_option linter.unusedSimpArgs false
namespace Go.Proofs.YtmcianehedhfeaaGreatDoor
def nmLets : Bs := [65, 66, 67, 68, 69, 70, 71, 72, 73, 74, 75, 76, 77, 78, 79, 80, 81, 82, 83, 84, 85, 86, 87, 88, 89, 90, 48, 49, 50, 51, 52, 53, 54, 55, 56, 57, 45]
theorem nmLets_fin : ∀ c : Fin 256, nmLets.contains (UInt8.ofNat c.val) = isNm (UInt8.ofNat c.val) := by decide +kernel
theorem nmLets_is (c : UInt8) : nmLets.contains c = isNm c := by
  have := nmLets_fin ⟨c.toNat, c.toNat_lt⟩
  simpa using this
theorem mem_dropWhile {α : Type} {p : α → Bool} {x : α} : ∀ {l : List α}, x ∈ l → p x = false → x ∈ l.dropWhile p
  | y :: r, h, hp => by
    rw [List.dropWhile_cons]
    split
    · rename_i hy
      rcases List.mem_cons.1 h with rfl | h
      · rw [hp] at hy; cases hy
      · exact mem_dropWhile h hp
    · exact h
theorem dropWhile_all {α : Type} {p : α → Bool} : ∀ {l : List α}, (∀ x ∈ l, p x = true) → l.dropWhile p = []
  | [], _ => rfl
  | y :: r, h => by
    rw [List.dropWhile_cons, if_pos (h y List.mem_cons_self)]
    exact dropWhile_all (fun x hx => h x (List.mem_cons_of_mem _ hx))
theorem trim_nil (s : Bs) : (Lib.trimS s nmLets).isEmpty = s.all isNm := by
  rw [Bool.eq_iff_iff, List.all_eq_true]
  unfold Lib.trimS Lib.trimLeftS Lib.trimRightS
  constructor
  · intro h x hx
    cases hp : isNm x with
    | true => rfl
    | false =>
      exfalso
      have hc : nmLets.contains x = false := (nmLets_is x).trans hp
      have h1 : x ∈ (s.reverse.dropWhile (nmLets.contains ·)).reverse := List.mem_reverse.2 (mem_dropWhile (List.mem_reverse.2 hx) hc)
      have h2 := mem_dropWhile h1 hc
      rw [List.isEmpty_iff] at h
      rw [h] at h2; cases h2
  · intro h
    have e : s.reverse.dropWhile (nmLets.contains ·) = [] := by
      refine dropWhile_all fun x hx => ?_
      show nmLets.contains x = true
      rw [nmLets_is]; exact h x (List.mem_reverse.1 hx)
    rw [e]; rfl
/-- The first k names are right, and no two of them the same. -/
structure NmI (N : List Bs) (k : Nat) : Prop where
  ok : ∀ x ∈ N.take k, nmOk x = true
  nd : (N.take k).Nodup
theorem NmI.zero (N : List Bs) : NmI N 0 := ⟨by simp, by simp⟩
theorem NmI.next {N : List Bs} {k : Nat} (h : NmI N k) (hk : k < N.length) (ho : nmOk N[k] = true) (hn : N[k] ∉ N.take k) : NmI N (k + 1) := by
  have e := List.take_succ_eq_append_getElem hk
  constructor
  · intro x hx
    rw [e] at hx
    rcases List.mem_append.1 hx with hx | hx
    · exact h.ok x hx
    · rw [List.mem_singleton.1 hx]; exact ho
  · rw [e, List.nodup_append]
    refine ⟨h.nd, by simp, fun a ha b hb => ?_⟩
    rw [List.mem_singleton.1 hb]
    rintro rfl; exact hn ha
theorem NmI.done {lv cp : List Bs} {k : Nat} (h : NmI (lv ++ cp) k) (hk : (lv ++ cp).length ≤ k) (h1 : 1 ≤ lv.length) (h2 : lv.length ≤ 16) (h3 : cp.length ≤ 64) : latR lv cp = true := by
  have e := List.take_of_length_le hk
  exact (latR_iff lv cp).2 ⟨h1, h2, h3, fun x hx => h.ok x (by rw [e]; exact hx), by have := h.nd; rwa [e] at this⟩
theorem latR_bad {lv cp : List Bs} {k : Nat} (hk : k < (lv ++ cp).length) (h : nmOk (lv ++ cp)[k] = false ∨ (lv ++ cp)[k] ∈ (lv ++ cp).take k) : latR lv cp = false := by
  rw [Bool.eq_false_iff]
  intro e
  have ho := (latR_iff lv cp).1 e
  rcases h with h | h
  · rw [ho.nm _ (List.getElem_mem hk)] at h; cases h
  · have hd := ho.nd
    rw [← List.take_append_drop k (lv ++ cp), List.nodup_append] at hd
    exact hd.2.2 _ h _ (by rw [List.drop_eq_getElem_cons hk]; exact List.mem_cons_self) rfl
theorem latR_len {lv cp : List Bs} (h : ¬ (1 ≤ lv.length ∧ lv.length ≤ 16 ∧ cp.length ≤ 64)) : latR lv cp = false := by
  unfold latR
  rw [decide_eq_false h]; rfl
theorem nmOk_of (s : Bs) : nmOk s = (decide (1 ≤ s.length) && decide (s.length ≤ 16) && (Lib.trimS s nmLets).isEmpty) := by
  unfold nmOk
  rw [trim_nil, Bool.decide_and]
end Go.Proofs.YtmcianehedhfeaaGreatDoor
