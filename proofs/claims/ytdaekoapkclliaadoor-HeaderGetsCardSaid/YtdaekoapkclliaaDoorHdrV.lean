/- HeaderGets: names in other letters; append in a region that draws its order. -/
import Derived.Test.YtdaekoapkclliaaDoorHdrO
import Derived.Test.YtdaekoapkclliaaDoorHdrS
import Derived.Deep.RegionHeld3
import Derived.Deep.DeepCutAuto
import Derived.Deep.RegionLawGrows
set_option linter.unusedVariables false
set_option linter.unusedSimpArgs false
namespace Go.Proofs.YtdaekoapkclliaaDoor
open Go.RowKit
def upB (c : UInt8) : UInt8 := if 97 ≤ c.toNat ∧ c.toNat ≤ 122 then c - 32 else c
def upS (s : Bs) : Bs := s.map upB
theorem low_up (c : UInt8) : lowB (upB c) = lowB c := by
  have key : ∀ n : Fin 256, lowB (upB (UInt8.ofNat n.val)) = lowB (UInt8.ofNat n.val) := by decide +kernel
  have := key ⟨c.toNat, c.toNat_lt⟩
  simpa using this
theorem lowS_up (s : Bs) : lowS (upS s) = lowS s := by
  unfold lowS upS
  rw [List.map_map]
  apply List.map_congr_left
  intro c _
  exact low_up c
theorem getB_up (xs : List Fld) (nm : Bs) : getB xs (upS nm) = getB xs nm := by
  induction xs with
  | nil => rfl
  | cons f r ih => rw [getB, getB, ih]; unfold sameF; rw [lowS_up]
theorem getB_app (xs : List Fld) (m : Fld) (nm : Bs) : getB (xs ++ [m]) nm = if (getB xs nm).2 = true then getB xs nm else (if sameF m.1.data.toList nm = true then (m.2, true) else (⟨#[]⟩, false)) := by
  induction xs with
  | nil => rfl
  | cons f r ih =>
    rw [List.cons_append, getB, getB]
    cases sameF f.1.data.toList nm with
    | true => rfl
    | false => simp only [Bool.false_eq_true, if_false]; exact ih
theorem getB_none {xs : List Fld} {nm : Bs} (h : (getB xs nm).2 = false) : (getB xs nm).1 = ⟨#[]⟩ := by
  induction xs with
  | nil => rfl
  | cons f r ih =>
    rw [getB] at h ⊢
    cases hs : sameF f.1.data.toList nm with
    | true => rw [hs, if_pos rfl] at h; cases h
    | false => rw [hs] at h; simp only [Bool.false_eq_true, if_false] at h ⊢; exact ih h
theorem upB_up {c : UInt8} {z : Int} (hz : z = (c.toNat : Int)) (h1 : 97 ≤ z) (h2 : z ≤ 122) : ((upB c).toNat : Int) = z - 32 := by
  unfold upB
  rw [if_pos (by omega), UInt8.toNat_sub_of_le _ _ (by rw [UInt8.le_iff_toNat_le]; show 32 ≤ c.toNat; omega)]
  show ((c.toNat - 32 : Nat) : Int) = _
  omega
theorem upB_no {c : UInt8} {z : Int} (hz : z = (c.toNat : Int)) (h : ¬ (97 ≤ z ∧ z ≤ 122)) : upB c = c := by unfold upB; rw [if_neg (by omega)]
def upK (s : Bs) (k : Nat) : Bs := (s.take k).map upB ++ s.drop k
theorem upK_len (s : Bs) (k : Nat) : (upK s k).length = s.length := by unfold upK; simp; omega
theorem upK_at {s : Bs} {k : Nat} (h : k < s.length) : (upK s k)[k]'(by rw [upK_len]; exact h) = s[k] := by
  unfold upK
  rw [List.getElem_append_right (by simp; omega)]
  simp [show min k s.length = k by omega]
theorem upK_next {s : Bs} {k : Nat} (h : k < s.length) : upK s (k + 1) = (upK s k).set k (upB s[k]) := by
  unfold upK
  rw [List.set_append_right _ _ (by simp; omega)]
  rw [List.length_map, List.length_take, show k - min k s.length = 0 by omega, List.take_succ_eq_append_getElem h, List.drop_eq_getElem_cons h, List.map_append, List.set_cons_zero]
  simp
theorem FldsIn.grown {w w' : World} {g n : Nat} {xs : List Fld} {row : Option Nat} (h : FldsIn w (some ⟨g, 0, none⟩) n xs) (hg : w.grownBy w' row) (hne : row ≠ some g) (h0 : 0 < n) : FldsIn w' (some ⟨g, 0, none⟩) n xs := by
  refine ⟨h.len, h.max, fun _ => ?_⟩
  obtain ⟨b, off, e, hc⟩ := h.cells h0
  cases e
  refine ⟨g, 0, rfl, fun j hj => ?_⟩
  obtain ⟨q1, q2⟩ := hc j hj
  have hl := World.block_lt_of_cell? _ _ q1
  have hb := hg.block g hl (fun e => hne e.symm)
  have e1 : ∀ i, w'.cell? ⟨g, i, none⟩ = w.cell? ⟨g, i, none⟩ := fun i => by unfold World.cell?; simp only [hb]
  rw [e1, e1]
  exact ⟨q1, q2⟩
theorem FSo.empty1 {w : World} {base g : Nat} (h : base ≤ w.heap.size) (hg : g = w.heap.size) : FSo (w.alloc (.cells #[] 38 (0, 0))) base (.slice (some ⟨g, 0, none⟩) 0 0) [] := by subst hg; exact FSo.empty w base h
theorem FSo.alloc1 {w : World} {base : Nat} {v : Value} {l : List Fld} (h : FSo w base v l) (o : Obj) : FSo (w.alloc o) base v l := World.ownsRow.alloc h o
theorem FSo.drew1 {w : World} {base : Nat} {v : Value} {l : List Fld} (h : FSo w base v l) : FSo w.drew base v l := h
theorem FldsIn.one1 {w : World} {g : Nat} {a b : ByteArray} (hg : g = w.heap.size) : FldsIn (w.alloc (.cells #[.string a, .string b] 38 (0, 0))) (some ⟨g, 0, none⟩) 1 [(a, b)] := by subst hg; exact FSo.in_ (FSo.one w 0 (Nat.zero_le _) a b)
theorem FldsIn.alloc1 {w : World} {A : Option Addr} {n : Nat} {xs : List Fld} (h : FldsIn w A n xs) (o : Obj) : FldsIn (w.alloc o) A n xs := h.below ((Below.refl _ _).alloc (Nat.le_refl _) o)
theorem FldsIn.drew1 {w : World} {A : Option Addr} {n : Nat} {xs : List Fld} (h : FldsIn w A n xs) : FldsIn w.drew A n xs := ⟨h.len, h.max, h.cells⟩
/-- append(v, x...) of fields in a region that draws its order. -/
theorem step_appFs {w : World} {ops : Array Oper} {o : Oper} {a : Act} {K : Act → World → Prop} {Q : Exit → Act → World → Prop} {E : Prop} (hgd : o.guard = none) (s x : Operand)
    (ho : o.op = .call { callee := .builtin .append, args := #[s, x], argTypes := #[22, 22] })
    (base : Nat) (v : Value) (l : List Fld) (hs : a.eval s = v) (hown : FSo w base v l)
    (A : Option Addr) (m c : Nat) (xs : List Fld) (hx : a.eval x = .slice A m c) (hin : FldsIn w A m xs)
    (hlen : l.length + m ≤ 1000000) (hbase : base ≤ w.heap.size)
    (h : ∀ v' w', FSo w' base v' (l ++ xs) → Below base w w' → w.grownBy w' v.ownBlock → K (a.put o.dst v') w') : if Region.wanted o (yielded ops a.tmps) = true then Oper.wp Tryd.prog o a w K Q else E := by
  have hw : Region.wanted o (yielded ops a.tmps) = true := by simp [Region.wanted, hgd]
  rw [if_pos hw]
  obtain ⟨i0, hi, hz0, hz1, hz2⟩ := info_parts Tryd.infoFld
  cases A with
  | none =>
    have hm : m = 0 := by
      rcases Nat.eq_zero_or_pos m with h0 | h0
      · exact h0
      · obtain ⟨b, off, hA, _⟩ := hin.cells h0; cases hA
    subst hm
    obtain rfl : xs = [] := List.eq_nil_of_length_eq_zero hin.len
    have hrun := run_app_none (w := w) 22 o.type 38 i0 Tryd.underlying22 hi hz1 hown c
    unfold Oper.wp
    simp [execOp, ho, resolve, invoke, builtin, hs, hx, hrun, Result.andThen]
    exact h v w (by rw [List.append_nil]; exact hown) (Below.refl _ _) ⟨rfl, rfl, rfl, Nat.le_refl _, fun _ _ _ => rfl⟩
  | some ad =>
    have hc : ∀ (k : Nat) (u : Value), (fcells xs)[k]? = some u → w.cell? (ad.add k) = some u := by
      rcases Nat.eq_zero_or_pos m with h0 | h0
      · obtain rfl : xs = [] := List.eq_nil_of_length_eq_zero (hin.len.trans h0)
        intro k u hu; simp [fcells] at hu
      · obtain ⟨b, off, e, hc⟩ := hin.cells h0
        cases e
        exact FldsIn.news hin.len hc
    obtain ⟨v', w', hrun, r1, r2, _⟩ := run_append_own (P := Tryd.prog) w base 22 o.type 38 i0 (.agg #[.string ⟨#[]⟩, .string ⟨#[]⟩]) 2 32 Tryd.underlying22 hi hz0 hz1 hz2 rfl (by decide) v l.length (fcells l) hown ad m c (fcells xs) (by rw [fcells_len, hin.len]) hc (fcells_one xs) (by unfold maxLen; omega) (by omega) hbase
    unfold Oper.wp
    simp [execOp, ho, resolve, invoke, builtin, hs, hx, hrun, Result.andThen]
    refine h v' w' ?_ ((Below.refl base w).grown r2 hbase fun k hk => (World.ownsRow.lt hown k hk).1) r2
    unfold FSo
    rw [fcells_app, List.length_append, hin.len]
    exact r1
end Go.Proofs.YtdaekoapkclliaaDoor
