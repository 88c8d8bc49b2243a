/- Package lattice in plain words: levels, compartments, labels and their texts. They speak of no program. -/
import Derived.Test.YtmcianehedhfeaaGreatDoorChg
import Derived.Lib.SplitLaws
import Derived.Lib.CountLaws
import Derived.Lib.IndexLaws
import Derived.Lib.IndexMore
import Derived.Lib.Strings
set_option linter.unusedVariables false
set_option linter.unusedSimpArgs false
namespace Go.Proofs.YtmcianehedhfeaaGreatDoor
abbrev Bs := List UInt8
/-- A byte of a name. -/
def isNm (c : UInt8) : Bool := decide ((65 ≤ c.toNat ∧ c.toNat ≤ 90) ∨ (48 ≤ c.toNat ∧ c.toNat ≤ 57) ∨ c.toNat = 45)
def nmOk (s : Bs) : Bool := decide (1 ≤ s.length ∧ s.length ≤ 16) && s.all isNm
def latR (lv cp : List Bs) : Bool := decide (1 ≤ lv.length ∧ lv.length ≤ 16 ∧ cp.length ≤ 64) && (lv ++ cp).all nmOk && decide (lv ++ cp).Nodup
structure LatOk (lv cp : List Bs) : Prop where
  l1 : 1 ≤ lv.length
  l16 : lv.length ≤ 16
  c64 : cp.length ≤ 64
  nm : ∀ x ∈ lv ++ cp, nmOk x = true
  nd : (lv ++ cp).Nodup
theorem latR_iff (lv cp : List Bs) : latR lv cp = true ↔ LatOk lv cp := by
  unfold latR
  rw [Bool.and_eq_true, Bool.and_eq_true, decide_eq_true_iff, decide_eq_true_iff, List.all_eq_true]
  constructor
  · rintro ⟨⟨⟨a, b, c⟩, d⟩, e⟩; exact ⟨a, b, c, d, e⟩
  · rintro ⟨a, b, c, d, e⟩; exact ⟨⟨⟨a, b, c⟩, d⟩, e⟩
theorem nmOk_slash {s : Bs} (h : nmOk s = true) : ∀ x ∈ s, x ≠ 47 := by
  unfold nmOk at h
  rw [Bool.and_eq_true, List.all_eq_true] at h
  rintro x hx rfl
  have := h.2 _ hx
  simp [isNm] at this
theorem nmOk_len {s : Bs} (h : nmOk s = true) : 1 ≤ s.length ∧ s.length ≤ 16 := by
  unfold nmOk at h
  rw [Bool.and_eq_true, decide_eq_true_iff] at h
  exact h.1
/-- The compartments that a label's bits name. -/
def selF {α : Type} : List α → Nat → List α
  | [], _ => []
  | c :: r, m => if m % 2 = 1 then c :: selF r (m / 2) else selF r (m / 2)
theorem selF_zero {α : Type} : ∀ l : List α, selF l 0 = []
  | [] => rfl
  | c :: r => by rw [selF, if_neg (by decide)]; exact selF_zero r
theorem selF_take {α : Type} : ∀ (l : List α) (m k : Nat) (h : k < l.length), selF (l.take (k + 1)) m = selF (l.take k) m ++ (if m / 2 ^ k % 2 = 1 then [l[k]] else [])
  | c :: r, m, 0, h => by
    simp only [List.take_succ_cons, List.take_zero, selF, Nat.pow_zero, Nat.div_one, List.getElem_cons_zero]
    split <;> simp
  | c :: r, m, k + 1, h => by
    have ih := selF_take r (m / 2) k (by simpa using h)
    have e : m / 2 ^ (k + 1) = m / 2 / 2 ^ k := by rw [Nat.pow_succ, Nat.mul_comm, Nat.div_div_eq_div_mul]
    rw [List.take_succ_cons, List.take_succ_cons, selF, selF, ih, e, List.getElem_cons_succ]
    split <;> simp
theorem selF_mem {α : Type} : ∀ (l : List α) (m : Nat) (x : α), x ∈ selF l m ↔ ∃ k, ∃ h : k < l.length, l[k] = x ∧ m / 2 ^ k % 2 = 1
  | [], m, x => by simp [selF]
  | c :: r, m, x => by
    have ih := selF_mem r (m / 2) x
    have e : ∀ k, m / 2 ^ (k + 1) = m / 2 / 2 ^ k := fun k => by rw [Nat.pow_succ, Nat.mul_comm, Nat.div_div_eq_div_mul]
    have key : (∃ k, ∃ h : k < (c :: r).length, (c :: r)[k] = x ∧ m / 2 ^ k % 2 = 1) ↔ (c = x ∧ m % 2 = 1) ∨ x ∈ selF r (m / 2) := by
      rw [ih]
      constructor
      · rintro ⟨k, hk, h1, h2⟩
        cases k with
        | zero => left; exact ⟨h1, by simpa using h2⟩
        | succ k => right; exact ⟨k, by simpa using hk, by simpa using h1, by rw [← e]; exact h2⟩
      · rintro (⟨h1, h2⟩ | ⟨k, hk, h1, h2⟩)
        · exact ⟨0, by simp, by simpa using h1, by simpa using h2⟩
        · exact ⟨k + 1, by simpa using hk, by simpa using h1, by rw [e]; exact h2⟩
    rw [key, selF]
    split
    · rename_i h
      rw [List.mem_cons]
      constructor
      · rintro (rfl | h2)
        · exact .inl ⟨rfl, h⟩
        · exact .inr h2
      · rintro (⟨rfl, _⟩ | h2)
        · exact .inl rfl
        · exact .inr h2
    · rename_i h
      constructor
      · exact .inr
      · rintro (⟨_, h2⟩ | h2)
        · exact absurd h2 h
        · exact h2
theorem selF_sub {α : Type} {l : List α} {m : Nat} : ∀ x ∈ selF l m, x ∈ l := by
  intro x hx
  obtain ⟨k, hk, rfl, _⟩ := (selF_mem l m x).1 hx
  exact List.getElem_mem hk
theorem selF_len {α : Type} : ∀ (l : List α) (m : Nat), (selF l m).length ≤ l.length
  | [], m => by simp [selF]
  | c :: r, m => by
    have := selF_len r (m / 2)
    rw [selF]; split <;> simp only [List.length_cons] <;> omega
theorem selF_nil {α : Type} : ∀ {l : List α} {m : Nat}, m < 2 ^ l.length → selF l m = [] → m = 0
  | [], m, h, _ => by simpa using h
  | c :: r, m, h, e => by
    rw [selF] at e
    split at e
    · cases e
    · have h2 : m / 2 < 2 ^ r.length := by rw [List.length_cons, Nat.pow_succ] at h; omega
      have := selF_nil h2 e
      omega
theorem selF_inj {α : Type} : ∀ {l : List α} {m n : Nat}, l.Nodup → m < 2 ^ l.length → n < 2 ^ l.length → selF l m = selF l n → m = n
  | [], m, n, _, hm, hn, _ => by simp at hm hn; omega
  | c :: r, m, n, hd, hm, hn, e => by
    rw [List.length_cons, Nat.pow_succ] at hm hn
    have hc : ∀ k, c ∉ selF r k := fun k h => (List.nodup_cons.1 hd).1 (selF_sub _ h)
    have ih := fun h => selF_inj (m := m / 2) (n := n / 2) (List.nodup_cons.1 hd).2 (by omega) (by omega) h
    rw [selF, selF] at e
    split at e
    · split at e
      · have := ih (List.cons.inj e).2; omega
      · exact absurd (e ▸ List.mem_cons_self) (hc _)
    · split at e
      · exact absurd (e.symm ▸ List.mem_cons_self) (hc _)
      · have := ih e; omega
/-- Names, a stroke ahead of each. -/
def fl : List Bs → Bs
  | [] => []
  | x :: r => 47 :: (x ++ fl r)
/-- Names with a stroke between. -/
def jn : List Bs → Bs
  | [] => []
  | [a] => a
  | a :: b :: r => a ++ 47 :: jn (b :: r)
theorem jn_fl : ∀ {l : List Bs}, l ≠ [] → 47 :: jn l = fl l
  | [], h => absurd rfl h
  | [a], _ => by simp [jn, fl]
  | a :: b :: r, _ => by
    have := jn_fl (l := b :: r) (by simp)
    rw [jn, fl, this]
def tl (l : List Bs) : Bs := if l = [] then [] else 47 :: fl l
/-- A label's text. -/
def ltxt (lv cp : List Bs) (a m : Nat) : Bs := lv.getD a [] ++ tl (selF cp m)
/-- Till the first stroke. -/
theorem till_slash : ∀ {a b x y : Bs}, (∀ z ∈ a, z ≠ 47) → (∀ z ∈ b, z ≠ 47) → (x = [] ∨ ∃ r, x = 47 :: r) → (y = [] ∨ ∃ r, y = 47 :: r) → a ++ x = b ++ y → a = b ∧ x = y
  | [], [], x, y, _, _, _, _, e => ⟨rfl, e⟩
  | [], c :: b, x, y, _, hb, hx, _, e => by
    rcases hx with rfl | ⟨r, rfl⟩
    · cases e
    · exact absurd (List.cons.inj e).1.symm (hb c List.mem_cons_self)
  | c :: a, [], x, y, ha, _, _, hy, e => by
    rcases hy with rfl | ⟨r, rfl⟩
    · cases e
    · exact absurd (List.cons.inj e).1 (ha c List.mem_cons_self)
  | c :: a, d :: b, x, y, ha, hb, hx, hy, e => by
    obtain ⟨h1, h2⟩ := List.cons.inj e
    obtain ⟨h3, h4⟩ := till_slash (fun z hz => ha z (List.mem_cons_of_mem _ hz)) (fun z hz => hb z (List.mem_cons_of_mem _ hz)) hx hy h2
    exact ⟨by rw [h1, h3], h4⟩
theorem fl_head (l : List Bs) : fl l = [] ∨ ∃ r, fl l = 47 :: r := by
  cases l with
  | nil => exact .inl rfl
  | cons a r => exact .inr ⟨_, rfl⟩
theorem tl_head (l : List Bs) : tl l = [] ∨ ∃ r, tl l = 47 :: r := by
  unfold tl; split
  · exact .inl rfl
  · exact .inr ⟨_, rfl⟩
theorem fl_inj : ∀ {l m : List Bs}, (∀ x ∈ l, ∀ z ∈ x, z ≠ 47) → (∀ x ∈ m, ∀ z ∈ x, z ≠ 47) → fl l = fl m → l = m
  | [], [], _, _, _ => rfl
  | [], b :: m, _, _, e => by cases e
  | a :: l, [], _, _, e => by cases e
  | a :: l, b :: m, hl, hm, e => by
    rw [fl, fl] at e
    obtain ⟨h1, h2⟩ := till_slash (hl a List.mem_cons_self) (hm b List.mem_cons_self) (fl_head l) (fl_head m) (List.cons.inj e).2
    rw [h1, fl_inj (fun x hx => hl x (List.mem_cons_of_mem _ hx)) (fun x hx => hm x (List.mem_cons_of_mem _ hx)) h2]
theorem tl_inj {l m : List Bs} (hl : ∀ x ∈ l, ∀ z ∈ x, z ≠ 47) (hm : ∀ x ∈ m, ∀ z ∈ x, z ≠ 47) (e : tl l = tl m) : l = m := by
  unfold tl at e
  split at e
  · split at e
    · simp_all
    · cases e
  · split at e
    · cases e
    · exact fl_inj hl hm (List.cons.inj e).2
theorem LatOk.lvn {lv cp : List Bs} (h : LatOk lv cp) {a : Nat} (ha : a < lv.length) : nmOk (lv[a]) = true := h.nm _ (List.mem_append_left _ (List.getElem_mem ha))
theorem LatOk.cpn {lv cp : List Bs} (h : LatOk lv cp) : ∀ x ∈ cp, nmOk x = true := fun x hx => h.nm _ (List.mem_append_right _ hx)
theorem LatOk.selS {lv cp : List Bs} (h : LatOk lv cp) (m : Nat) : ∀ x ∈ selF cp m, ∀ z ∈ x, z ≠ 47 := fun x hx => nmOk_slash (h.cpn x (selF_sub x hx))
theorem LatOk.ndl {lv cp : List Bs} (h : LatOk lv cp) : lv.Nodup := (List.nodup_append.1 h.nd).1
theorem LatOk.ndc {lv cp : List Bs} (h : LatOk lv cp) : cp.Nodup := (List.nodup_append.1 h.nd).2.1
theorem ltxt_eq {lv cp : List Bs} {a m : Nat} (ha : a < lv.length) : ltxt lv cp a m = lv[a] ++ tl (selF cp m) := by
  unfold ltxt; rw [List.getD_eq_getElem?_getD, List.getElem?_eq_getElem ha]; rfl
theorem nd_inj {l : List Bs} (hd : l.Nodup) {a b : Nat} (ha : a < l.length) (hb : b < l.length) (e : l[a] = l[b]) : a = b :=
  (List.getElem?_inj ha hd).1 (by rw [List.getElem?_eq_getElem ha, List.getElem?_eq_getElem hb, e])
/-- Unlike labels have unlike texts. -/
theorem ltxt_inj {lv cp : List Bs} (h : LatOk lv cp) {a b m n : Nat} (ha : a < lv.length) (hb : b < lv.length) (hm : m < 2 ^ cp.length) (hn : n < 2 ^ cp.length) (e : ltxt lv cp a m = ltxt lv cp b n) : a = b ∧ m = n := by
  rw [ltxt_eq ha, ltxt_eq hb] at e
  obtain ⟨h1, h2⟩ := till_slash (nmOk_slash (h.lvn ha)) (nmOk_slash (h.lvn hb)) (tl_head _) (tl_head _) e
  exact ⟨nd_inj h.ndl ha hb h1, selF_inj h.ndc hm hn (tl_inj (h.selS m) (h.selS n) h2)⟩
/-- A text's label, if it has one. -/
def IsL (lv cp : List Bs) (s : Bs) (a m : Nat) : Prop := a < lv.length ∧ m < 2 ^ cp.length ∧ ltxt lv cp a m = s
open Classical in
noncomputable def lpF (lv cp : List Bs) (s : Bs) : Nat × Nat × Int := if h : ∃ am : Nat × Nat, IsL lv cp s am.1 am.2 then ((Classical.choose h).1, (Classical.choose h).2, 0) else (0, 0, 2)
theorem lpF_some {lv cp : List Bs} (h : LatOk lv cp) {s : Bs} {a m : Nat} (hl : IsL lv cp s a m) : lpF lv cp s = (a, m, 0) := by
  have hx : ∃ am : Nat × Nat, IsL lv cp s am.1 am.2 := ⟨(a, m), hl⟩
  unfold lpF
  rw [dif_pos hx]
  obtain ⟨h1, h2, h3⟩ := Classical.choose_spec hx
  obtain ⟨e1, e2⟩ := ltxt_inj h h1 hl.1 h2 hl.2.1 (h3.trans hl.2.2.symm)
  rw [e1, e2]
theorem lpF_none {lv cp : List Bs} {s : Bs} (hl : ∀ a m, ¬ IsL lv cp s a m) : lpF lv cp s = (0, 0, 2) := by
  unfold lpF
  rw [dif_neg]
  rintro ⟨am, h⟩
  exact hl _ _ h
theorem lpF_inv {lv cp : List Bs} (h : LatOk lv cp) {s : Bs} : (∃ a m, IsL lv cp s a m ∧ lpF lv cp s = (a, m, 0)) ∨ ((∀ a m, ¬ IsL lv cp s a m) ∧ lpF lv cp s = (0, 0, 2)) := by
  by_cases hx : ∃ a m, IsL lv cp s a m
  · obtain ⟨a, m, hl⟩ := hx
    exact .inl ⟨a, m, hl, lpF_some h hl⟩
  · exact .inr ⟨fun a m hl => hx ⟨a, m, hl⟩, lpF_none fun a m hl => hx ⟨a, m, hl⟩⟩
end Go.Proofs.YtmcianehedhfeaaGreatDoor
