/- Keys and values in order: what a change does to them; the map as it is read. -/
import Derived.Test.YtnbefiaeihialaaGreatWalA
import GoSem.Op.String
set_option linter.unusedVariables false
set_option linter.unusedSimpArgs false
namespace Go.Proofs.YtnbefiaeihialaaGreat
open Go.Maps Go.Sort
abbrev Pr := ByteArray × ByteArray
theorem ba_ext {x y : ByteArray} (h : x.data.toList = y.data.toList) : x = y := ByteArray.ext (Array.ext' h)
theorem ba_eq {x y : ByteArray} : x = y ↔ x.data.toList = y.data.toList := ⟨fun h => by rw [h], ba_ext⟩
theorem less_before : ∀ a b : Bs, Op.bytesLess a b = bytesBefore a b
  | [], [] => rfl
  | [], _ :: _ => rfl
  | _ :: _, [] => rfl
  | a :: r, b :: s => by unfold Op.bytesLess bytesBefore; rw [less_before r s]
theorem lt_before : ∀ a b : Bs, bytesBefore a b = true ↔ a < b
  | [], [] => by simp [bytesBefore]
  | [], _ :: _ => by simp [bytesBefore]
  | _ :: _, [] => by simp [bytesBefore]
  | a :: r, b :: s => by
    unfold bytesBefore
    rw [List.cons_lt_cons_iff, ← lt_before r s]
    simp
/-- Is a key ahead of another? -/
def ltB (a b : ByteArray) : Bool := bytesBefore a.data.toList b.data.toList
theorem ltB_irr (a : ByteArray) : ltB a a = false := WideAt.bytes_irrefl _
theorem ltB_trans {a b c : ByteArray} (h : ltB a b = true) (k : ltB b c = true) : ltB a c = true := WideShapes.bytes_trans _ _ _ h k
theorem ltB_tri (a b : ByteArray) : ltB a b = true ∨ a = b ∨ ltB b a = true := by
  by_cases h : a.data.toList = b.data.toList
  · exact .inr (.inl (ba_ext h))
  · rcases WideAt.bytes_total _ _ h with h | h
    · exact .inl h
    · exact .inr (.inr h)
theorem ltB_asym {a b : ByteArray} (h : ltB a b = true) : ltB b a = false := by
  cases hh : ltB b a with
  | false => rfl
  | true => have := ltB_trans h hh; rw [ltB_irr] at this; cases this
theorem ltB_ne {a b : ByteArray} (h : ltB a b = true) : a ≠ b := fun e => by subst e; rw [ltB_irr] at h; cases h
/-- By rising keys. -/
def Srt (M : List Pr) : Prop := M.Pairwise fun p q => ltB p.1 q.1 = true
/-- The pairs behind a change (as the document has it). -/
def doneM (k v : ByteArray) : Bool → List Pr → List Pr
  | todo, [] => if todo = true then [(k, v)] else []
  | todo, p :: r => (if todo = true ∧ ltB p.1 k = false then [(k, v)] else []) ++ (if p.1 = k then [] else [p]) ++ doneM k v (todo && ltB p.1 k) r
def apM (M : List Pr) (c : Ch) : List Pr := doneM c.key c.val (!c.gone) M
def appM (M : List Pr) (l : List Ch) : List Pr := l.foldl apM M
theorem appM_app (M : List Pr) (a b : List Ch) : appM M (a ++ b) = appM (appM M a) b := List.foldl_append ..
theorem doneM_false (k v : ByteArray) : ∀ M : List Pr, doneM k v false M = M.filter fun p => decide (p.1 ≠ k)
  | [] => rfl
  | p :: r => by
    unfold doneM
    rw [Bool.false_and, doneM_false k v r]
    by_cases h : p.1 = k
    · rw [if_neg (by simp), if_pos h, List.filter_cons_of_neg (by simp [h])]; rfl
    · rw [if_neg (by simp), if_neg h, List.filter_cons_of_pos (by simp [h])]; rfl
theorem filter_gt {k : ByteArray} {M : List Pr} (h : ∀ p ∈ M, ltB k p.1 = true) : M.filter (fun p => decide (p.1 ≠ k)) = M := by
  rw [List.filter_eq_self]
  intro p hp
  have := ltB_ne (h p hp)
  simpa using Ne.symm this
/-- Put into sorted pairs: three ways at the head. -/
theorem put_lt {k v : ByteArray} {p : Pr} {r : List Pr} (h : ltB p.1 k = true) : doneM k v true (p :: r) = p :: doneM k v true r := by
  conv => lhs; unfold doneM
  rw [if_neg (by simp [h]), if_neg (ltB_ne h), h]; rfl
theorem put_eq {k v : ByteArray} {p : Pr} {r : List Pr} (hs : Srt (p :: r)) (h : p.1 = k) : doneM k v true (p :: r) = (k, v) :: r := by
  conv => lhs; unfold doneM
  have h1 : ltB p.1 k = false := by rw [h, ltB_irr]
  rw [if_pos ⟨rfl, h1⟩, if_pos h, h1, Bool.and_false, doneM_false, filter_gt (fun q hq => by rw [← h]; exact (List.pairwise_cons.1 hs).1 q hq)]; rfl
theorem put_gt {k v : ByteArray} {p : Pr} {r : List Pr} (hs : Srt (p :: r)) (h : ltB k p.1 = true) : doneM k v true (p :: r) = (k, v) :: p :: r := by
  conv => lhs; unfold doneM
  have h1 : ltB p.1 k = false := ltB_asym h
  rw [if_pos ⟨rfl, h1⟩, if_neg (Ne.symm (ltB_ne h)), h1, Bool.and_false, doneM_false, filter_gt (fun q hq => ltB_trans h ((List.pairwise_cons.1 hs).1 q hq))]; rfl
theorem Srt.tail {p : Pr} {r : List Pr} (h : Srt (p :: r)) : Srt r := (List.pairwise_cons.1 h).2
theorem put_mem {k v : ByteArray} {q : Pr} : ∀ {M : List Pr}, Srt M → q ∈ doneM k v true M → q = (k, v) ∨ q ∈ M
  | [], _, h => by simp [doneM] at h; exact .inl h
  | p :: r, hs, h => by
    rcases ltB_tri p.1 k with h1 | h1 | h1
    · rw [put_lt h1] at h
      rcases List.mem_cons.1 h with rfl | h
      · exact .inr List.mem_cons_self
      · rcases put_mem hs.tail h with h | h
        · exact .inl h
        · exact .inr (List.mem_cons_of_mem _ h)
    · rw [put_eq hs h1] at h
      rcases List.mem_cons.1 h with h | h
      · exact .inl h
      · exact .inr (List.mem_cons_of_mem _ h)
    · rw [put_gt hs h1] at h
      rcases List.mem_cons.1 h with h | h
      · exact .inl h
      · exact .inr h
theorem put_srt {k v : ByteArray} : ∀ {M : List Pr}, Srt M → Srt (doneM k v true M)
  | [], _ => by simp [doneM, Srt]
  | p :: r, hs => by
    rcases ltB_tri p.1 k with h1 | h1 | h1
    · rw [put_lt h1]
      refine List.pairwise_cons.2 ⟨fun q hq => ?_, put_srt hs.tail⟩
      rcases put_mem hs.tail hq with rfl | h
      · exact h1
      · exact (List.pairwise_cons.1 hs).1 q h
    · rw [put_eq hs h1]
      exact List.pairwise_cons.2 ⟨fun q hq => by show ltB k q.1 = true; rw [← h1]; exact (List.pairwise_cons.1 hs).1 q hq, hs.tail⟩
    · rw [put_gt hs h1]
      refine List.pairwise_cons.2 ⟨fun q hq => ?_, hs⟩
      rcases List.mem_cons.1 hq with rfl | h
      · exact h1
      · exact ltB_trans h1 ((List.pairwise_cons.1 hs).1 q h)
theorem del_srt {k v : ByteArray} {M : List Pr} (h : Srt M) : Srt (doneM k v false M) := by rw [doneM_false]; exact List.Pairwise.filter _ h
theorem Srt.ap {M : List Pr} (h : Srt M) (c : Ch) : Srt (apM M c) := by
  unfold apM
  cases c.gone
  · exact put_srt h
  · exact del_srt h
theorem Srt.app {M : List Pr} (h : Srt M) (l : List Ch) : Srt (appM M l) := by
  induction l generalizing M with
  | nil => exact h
  | cons c r ih => exact ih (h.ap c)
theorem srt_nil : Srt [] := List.Pairwise.nil
/-! The map as it is read. -/
def toE {H : Type} (p : Pr) : Lit × DataW H := (.string p.1.data.toList, .lit (.string p.2.data.toList))
def toD {H : Type} (M : List Pr) : DataW H := .map (M.map toE)
theorem same_str (a b : Bs) : (Lit.string a).sameKey (.string b) = decide (a = b) := by
  show (a == b) = decide (a = b)
  by_cases h : a = b
  · simp [h]
  · simp [h]
theorem toD_del {H : Type} (M : List Pr) (k v : ByteArray) : (toD M : DataW H).del (.string k.data.toList) = toD (doneM k v false M) := by
  rw [doneM_false]
  show DataW.map ((M.map toE).filter fun p => !p.1.sameKey (.string k.data.toList)) = DataW.map _
  congr 1
  rw [List.filter_map]
  congr 1
  apply List.filter_congr
  intro p _
  show (!(Lit.string p.1.data.toList).sameKey (.string k.data.toList)) = decide (p.1 ≠ k)
  rw [same_str]
  by_cases h : p.1 = k
  · subst h; simp
  · have : p.1.data.toList ≠ k.data.toList := fun e => h (ba_ext e)
    simp [h, this]
theorem toD_put {H : Type} {k v : ByteArray} : ∀ {M : List Pr}, Srt M → (toD M : DataW H).put (.string k.data.toList) (.lit (.string v.data.toList)) = toD (doneM k v true M) := by
  intro M hs
  have e : (toD M : DataW H).put (.string k.data.toList) (.lit (.string v.data.toList)) = DataW.map (DataW.insert (toE (k, v)) ((M.filter fun p => decide (p.1 ≠ k)).map toE)) := by
    have h := toD_del (H := H) M k v
    rw [doneM_false] at h
    have h2 : ((M.map (toE (H := H))).filter fun p => !p.1.sameKey (.string k.data.toList)) = (M.filter fun p => decide (p.1 ≠ k)).map toE := by
      injection h
    show DataW.map (DataW.insert _ ((M.map toE).filter fun p => !p.1.sameKey (.string k.data.toList))) = _
    rw [h2]; rfl
  rw [e]
  show DataW.map _ = DataW.map _
  congr 1
  clear e
  induction M with
  | nil => rfl
  | cons p r ih =>
    rcases ltB_tri p.1 k with h1 | h1 | h1
    · rw [put_lt h1, List.filter_cons_of_pos (by simpa using ltB_ne h1), List.map_cons, List.map_cons, ← ih hs.tail]
      show (if bytesBefore k.data.toList p.1.data.toList = true then _ else _) = _
      have h2 : bytesBefore k.data.toList p.1.data.toList = false := ltB_asym h1
      rw [h2]; rfl
    · rw [put_eq hs h1, List.filter_cons_of_neg (by simp [h1]), filter_gt (fun q hq => by rw [← h1]; exact (List.pairwise_cons.1 hs).1 q hq)]
      cases r with
      | nil => rfl
      | cons q r =>
        show (if bytesBefore k.data.toList q.1.data.toList = true then _ else _) = _
        have h2 : bytesBefore k.data.toList q.1.data.toList = true := by
          have := (List.pairwise_cons.1 hs).1 q List.mem_cons_self
          rw [h1] at this; exact this
        rw [h2]; rfl
    · rw [put_gt hs h1, filter_gt (fun q hq => by
        rcases List.mem_cons.1 hq with rfl | h
        · exact h1
        · exact ltB_trans h1 ((List.pairwise_cons.1 hs).1 q h))]
      show (if bytesBefore k.data.toList p.1.data.toList = true then _ else _) = _
      have h2 : bytesBefore k.data.toList p.1.data.toList = true := h1
      rw [h2]; rfl
/-- A key's value. -/
def findM (M : List Pr) (k : ByteArray) : Option ByteArray := (M.find? fun p => decide (p.1 = k)).map (·.2)
theorem findM_cons (p : Pr) (r : List Pr) (k : ByteArray) : findM (p :: r) k = if p.1 = k then some p.2 else findM r k := by
  unfold findM
  by_cases h : p.1 = k
  · rw [List.find?_cons_of_pos (by simp [h]), if_pos h]; rfl
  · rw [List.find?_cons_of_neg (by simp [h]), if_neg h]
theorem find_same {p : Pr} {k : ByteArray} : decide (p.1.data.toList = k.data.toList) = decide (p.1 = k) := by
  by_cases h : p.1 = k
  · simp [h]
  · have : p.1.data.toList ≠ k.data.toList := fun e => h (ba_ext e)
    simp [h, this]
theorem toD_find {H : Type} (M : List Pr) (k : ByteArray) : (M.map (toE (H := H))).find? (fun p => p.1.sameKey (.string k.data.toList)) = (M.find? fun p => decide (p.1 = k)).map toE := by
  induction M with
  | nil => rfl
  | cons p r ih =>
    have e : (toE (H := H) p).1.sameKey (.string k.data.toList) = decide (p.1 = k) := (same_str _ _).trans find_same
    rw [List.map_cons, List.find?_cons, e, List.find?_cons, ih]
    cases decide (p.1 = k) <;> rfl
theorem toD_at {H : Type} (M : List Pr) (k : ByteArray) : (toD M : DataW H).atKey (.string k.data.toList) (.lit (.string [])) = .lit (.string ((findM M k).getD ⟨#[]⟩).data.toList) := by
  show (match (M.map (toE (H := H))).find? (fun p => p.1.sameKey (.string k.data.toList)) with | some p => p.2 | none => .lit (.string [])) = _
  rw [toD_find]
  unfold findM
  cases M.find? fun p => decide (p.1 = k) <;> rfl
theorem toD_has {H : Type} (M : List Pr) (k : ByteArray) : Maps.has (toD M : DataW H) (.string k.data.toList) = (findM M k).isSome := by
  induction M with
  | nil => rfl
  | cons p r ih =>
    have e : Maps.has (toD (p :: r) : DataW H) (.string k.data.toList) = ((Lit.string p.1.data.toList).sameKey (.string k.data.toList) || Maps.has (toD r : DataW H) (.string k.data.toList)) := rfl
    rw [e, ih, same_str, find_same, findM_cons]
    by_cases h : p.1 = k
    · simp [h]
    · simp [h]
theorem toD_size {H : Type} (M : List Pr) : Maps.size (toD M : DataW H) = M.length := by simp [toD, Maps.size]
theorem toD_keys {H : Type} (M : List Pr) : strKeys (toD M : DataW H) = M.map fun p => p.1.data.toList := by simp [toD, strKeys, toE, strOf, Function.comp_def]
/-- What slices.Sorted makes of the map's keys. -/
theorem sorted_keys {H : Type} {M : List Pr} (h : Srt M) {ss : List Bs} (hp : ss.Perm (strKeys (toD M : DataW H))) : ss.mergeSort (fun x y => decide (x ≤ y)) = M.map fun p => p.1.data.toList := by
  rw [toD_keys] at hp
  refine (mergeSort_of_perm hp).trans ?_
  refine List.mergeSort_of_pairwise (List.pairwise_map.2 (List.Pairwise.imp (fun {p q} h => ?_) h))
  show decide (p.1.data.toList ≤ q.1.data.toList) = true
  rw [decide_eq_true_iff]
  exact List.le_of_lt ((lt_before _ _).1 h)
/-! How much there is. -/
def prOf (p : Pr) : Ch := ⟨p.1, p.2, false⟩
def szM (M : List Pr) : Nat := (prT (M.map prOf)).length
theorem szM_nil : szM [] = 0 := rfl
theorem szM_cons (p : Pr) (r : List Pr) : szM (p :: r) = 5 + p.1.size + p.2.size + szM r := by
  have e : szM (p :: r) = (pr1 (prOf p) ++ prT (r.map prOf)).length := rfl
  rw [e, List.length_append, pr1_len]; rfl
theorem szM_filter (f : Pr → Bool) : ∀ M : List Pr, szM (M.filter f) ≤ szM M
  | [] => Nat.le_refl _
  | p :: r => by
    have ih := szM_filter f r
    rw [List.filter_cons]
    split
    · rw [szM_cons, szM_cons]; omega
    · rw [szM_cons]; omega
theorem szM_put {k v : ByteArray} : ∀ {M : List Pr}, Srt M → szM (doneM k v true M) ≤ szM M + (5 + k.size + v.size)
  | [], _ => by show szM [(k, v)] ≤ _; rw [szM_cons, szM_nil]; dsimp only; omega
  | p :: r, hs => by
    rcases ltB_tri p.1 k with h1 | h1 | h1
    · rw [put_lt h1, szM_cons, szM_cons]
      have := szM_put (k := k) (v := v) hs.tail
      omega
    · rw [put_eq hs h1, szM_cons, szM_cons, h1]; dsimp only; omega
    · rw [put_gt hs h1, szM_cons, szM_cons]; dsimp only; omega
theorem szM_ap {M : List Pr} (h : Srt M) (c : Ch) : szM (apM M c) ≤ szM M + (pr1 c).length := by
  unfold apM
  rw [pr1_len]
  cases hg : c.gone with
  | false => have := szM_put (k := c.key) (v := c.val) h; simp; omega
  | true => have := szM_filter (fun p => decide (p.1 ≠ c.key)) M; rw [Bool.not_true, doneM_false]; omega
theorem szM_app {M : List Pr} (h : Srt M) (l : List Ch) : szM (appM M l) ≤ szM M + (prT l).length := by
  induction l generalizing M with
  | nil => exact Nat.le_add_right _ _
  | cons c r ih =>
    have h1 := ih (h.ap c)
    have h2 := szM_ap h c
    have e : prT (c :: r) = pr1 c ++ prT r := rfl
    have e2 : appM M (c :: r) = appM (apM M c) r := rfl
    rw [e, List.length_append, e2]; omega
/-- Small enough to be printed. -/
def MOk (M : List Pr) : Prop := ∀ p ∈ M, p.1.size ≤ 65535 ∧ p.2.size ≤ 65535
theorem MOk.ap {M : List Pr} (h : MOk M) (hs : Srt M) {c : Ch} (hc : c.Ok) : MOk (apM M c) := by
  unfold apM
  cases c.gone
  · intro p hp
    rcases put_mem hs hp with rfl | hp
    · exact hc
    · exact h p hp
  · intro p hp
    rw [Bool.not_true, doneM_false] at hp
    exact h p (List.mem_filter.1 hp).1
theorem MOk.app {M : List Pr} (h : MOk M) (hs : Srt M) {l : List Ch} (hl : ChsOk l) : MOk (appM M l) := by
  induction l generalizing M with
  | nil => exact h
  | cons c r ih => exact ih (h.ap hs (hl c List.mem_cons_self)) (hs.ap c) (fun x hx => hl x (List.mem_cons_of_mem _ hx))
theorem MOk.chs {M : List Pr} (h : MOk M) : ChsOk (M.map prOf) := fun c hc => by
  obtain ⟨p, hp, rfl⟩ := List.mem_map.1 hc
  exact h p hp
theorem ap_norm (M : List Pr) (c : Ch) : apM M c.norm = apM M c := by
  unfold Ch.norm
  cases hg : c.gone with
  | false => rfl
  | true =>
    simp only [if_true]
    unfold apM
    rw [hg, Bool.not_true]
    show doneM _ _ false M = _
    rw [doneM_false, doneM_false]
theorem app_norm (M : List Pr) (l : List Ch) : appM M (l.map Ch.norm) = appM M l := by
  induction l generalizing M with
  | nil => rfl
  | cons c r ih =>
    have e : appM M ((c :: r).map Ch.norm) = appM (apM M c.norm) (r.map Ch.norm) := rfl
    rw [e, ap_norm, ih]; rfl
theorem put_last {k v : ByteArray} : ∀ {M : List Pr}, (∀ p ∈ M, ltB p.1 k = true) → doneM k v true M = M ++ [(k, v)]
  | [], _ => rfl
  | p :: r, h => by rw [put_lt (h p List.mem_cons_self), put_last (fun q hq => h q (List.mem_cons_of_mem _ hq))]; rfl
/-- The whole of the pairs, laid again, comes to the pairs. -/
theorem app_whole_aux : ∀ (A M : List Pr), Srt (A ++ M) → appM A (M.map prOf) = A ++ M
  | A, [], _ => by simp [appM]
  | A, p :: r, h => by
    have e : appM A ((p :: r).map prOf) = appM (doneM p.1 p.2 true A) (r.map prOf) := rfl
    have hA : ∀ q ∈ A, ltB q.1 p.1 = true := fun q hq => (List.pairwise_append.1 h).2.2 q hq p List.mem_cons_self
    rw [e, put_last hA, app_whole_aux (A ++ [(p.1, p.2)]) r (by rw [List.append_assoc]; exact h), List.append_assoc]; rfl
theorem app_whole {M : List Pr} (h : Srt M) : appM [] (M.map prOf) = M := app_whole_aux [] M h
theorem findM_put_same {k v : ByteArray} : ∀ {M : List Pr}, Srt M → findM (doneM k v true M) k = some v
  | [], _ => by show findM [(k, v)] k = _; rw [findM_cons, if_pos rfl]
  | p :: r, hs => by
    rcases ltB_tri p.1 k with h1 | h1 | h1
    · rw [put_lt h1, findM_cons, if_neg (ltB_ne h1), findM_put_same hs.tail]
    · rw [put_eq hs h1, findM_cons, if_pos rfl]
    · rw [put_gt hs h1, findM_cons, if_pos rfl]
theorem findM_put_other {k v k' : ByteArray} (hne : k' ≠ k) : ∀ {M : List Pr}, Srt M → findM (doneM k v true M) k' = findM M k'
  | [], _ => by show findM [(k, v)] k' = findM [] k'; rw [findM_cons, if_neg (Ne.symm hne)]
  | p :: r, hs => by
    rcases ltB_tri p.1 k with h1 | h1 | h1
    · rw [put_lt h1, findM_cons, findM_cons, findM_put_other hne hs.tail]
    · rw [put_eq hs h1, findM_cons, findM_cons, if_neg (Ne.symm hne), h1, if_neg (Ne.symm hne)]
    · rw [put_gt hs h1, findM_cons, if_neg (Ne.symm hne)]
theorem findM_del_same {k v : ByteArray} (M : List Pr) : findM (doneM k v false M) k = none := by
  rw [doneM_false]
  induction M with
  | nil => rfl
  | cons p r ih =>
    by_cases h : p.1 = k
    · rw [List.filter_cons_of_neg (by simp [h])]; exact ih
    · rw [List.filter_cons_of_pos (by simp [h]), findM_cons, if_neg h]; exact ih
theorem findM_del_other {k v k' : ByteArray} (hne : k' ≠ k) (M : List Pr) : findM (doneM k v false M) k' = findM M k' := by
  rw [doneM_false]
  induction M with
  | nil => rfl
  | cons p r ih =>
    by_cases h : p.1 = k
    · rw [List.filter_cons_of_neg (by simp [h]), findM_cons, h, if_neg (Ne.symm hne)]; exact ih
    · rw [List.filter_cons_of_pos (by simp [h]), findM_cons, findM_cons, ih]
/-- The keys that begin so. -/
def keysM (M : List Pr) (p : ByteArray) : List ByteArray := (M.map (·.1)).filter fun k => p.data.toList.isPrefixOf k.data.toList
end Go.Proofs.YtnbefiaeihialaaGreat
