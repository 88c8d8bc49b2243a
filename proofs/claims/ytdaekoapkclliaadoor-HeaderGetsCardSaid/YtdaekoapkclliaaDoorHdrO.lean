/- append(a, b...) of fields. -/
import Derived.Test.YtdaekoapkclliaaDoorHdrN
import Derived.Maps.AppendAt
set_option linter.unusedVariables false
set_option linter.unusedSimpArgs false
namespace Go.Proofs.YtdaekoapkclliaaDoor
open Go.RowKit
theorem run_app_none {P : Program} {w : World} (t ty e : TypeId) (i : TypeInfo) (ht : P.underlying t = some (.slice e)) (hi : P.info? e = some i)
    {base size n : Nat} {v : Value} {xs : List Value} (hsize : i.size = size) (hown : w.ownsRow base e size v n xs) (c : Nat) :
    (Builtin.append_ #[t, t] ty #[v, .slice none 0 c]).run P w = .ok v w := by
  rcases hown.2 with ⟨rfl, rfl⟩ | ⟨g, cap, cur, rfl, hbg, hg, hnc, hcm, hcs, htake⟩
  · simp [Builtin.append_, run_underlying ht, sizeOf, typeInfo, hi, Builtin.lenOf, Builtin.firstCells]
  · simp [Builtin.append_, run_underlying ht, sizeOf, typeInfo, hi, Builtin.lenOf, Builtin.firstCells, hnc, storeCells]
theorem fcells_one (l : List Fld) : ∀ u ∈ fcells l, u.oneCell' = true := by
  induction l with
  | nil => intro u hu; cases hu
  | cons a b ih =>
    intro u hu
    rcases List.mem_cons.1 hu with rfl | hu
    · rfl
    · rcases List.mem_cons.1 hu with rfl | hu
      · rfl
      · exact ih u hu
theorem addr_plus (b off n : Nat) : (⟨b, off, none⟩ : Addr).add n = ⟨b, off + n, none⟩ := Go.WideShapes.add_plain ..
theorem FldsIn.news {w : World} {b off n : Nat} {xs : List Fld} (hl : xs.length = n) (h : ∀ j, j < n → w.cell? ⟨b, off + j * 2, none⟩ = some (.string (fl xs j).1) ∧ w.cell? ⟨b, off + j * 2 + 1, none⟩ = some (.string (fl xs j).2)) :
    ∀ (k : Nat) (u : Value), (fcells xs)[k]? = some u → w.cell? ((⟨b, off, none⟩ : Addr).add k) = some u := by
  intro k u hu
  have hk : k < n * 2 := by
    have := (List.getElem?_eq_some_iff.1 hu).1
    rw [fcells_len, hl] at this; exact this
  obtain ⟨q1, q2⟩ := h (k / 2) (by omega)
  obtain ⟨z1, z2⟩ := fcells_at xs (k / 2) (by omega)
  rw [addr_plus]
  rcases Nat.mod_two_eq_zero_or_one k with hm | hm
  · rw [show k / 2 * 2 = k by omega] at q1 z1
    rw [z1] at hu
    rw [q1, hu]
  · rw [show k / 2 * 2 + 1 = k by omega] at z2
    rw [show off + k / 2 * 2 + 1 = off + k by omega] at q2
    rw [z2] at hu
    rw [q2, hu]
/-- append(v, x...) of fields. -/
theorem wp_appFs {w : World} {ops : Array Oper} {rest : List Oper} {o : Oper} {a : Act} {Q : Exit → Act → World → Prop} (hgd : o.guard = none) (s x : Operand)
    (ho : o.op = .call { callee := .builtin .append, args := #[s, x], argTypes := #[22, 22] })
    (base : Nat) (v : Value) (l : List Fld) (hs : a.eval s = v) (hown : FSo w base v l)
    (A : Option Addr) (n c : Nat) (xs : List Fld) (hx : a.eval x = .slice A n c) (hin : FldsIn w A n xs) (hlen : l.length + n ≤ 1000000) (hbase : base ≤ w.heap.size)
    (h : ∀ v' w', FSo w' base v' (l ++ xs) → Below base w w' → wpList Tryd.prog ops Q rest (a.put o.dst v') w') : wpList Tryd.prog ops Q (o :: rest) a w := by
  obtain ⟨i0, hi, hz0, hz1, hz2⟩ := info_parts Tryd.infoFld
  cases A with
  | none =>
    have hn : n = 0 := by
      rcases Nat.eq_zero_or_pos n with h0 | h0
      · exact h0
      · obtain ⟨_, _, e, _⟩ := hin.cells h0; cases e
    subst hn
    obtain rfl : xs = [] := List.eq_nil_of_length_eq_zero hin.len
    rw [List.append_nil] at h
    refine wpList_plain hgd fun K hK => ?_
    have hrun := run_app_none (w := w) 22 o.type 38 i0 Tryd.underlying22 hi hz1 hown c
    unfold Oper.wp execOp
    simp only [ho, resolve, invoke, builtin, Sem.run_bind, Sem.run_pure, Result.andThen_ok, List.map_toArray, List.map_cons, List.map_nil, hs, hx, hrun]
    exact hK _ _ (h v w hown (Below.refl _ _))
  | some ad =>
    have hnews : ∀ (k : Nat) (u : Value), (fcells xs)[k]? = some u → w.cell? (ad.add k) = some u := by
      rcases Nat.eq_zero_or_pos n with h0 | h0
      · obtain rfl : xs = [] := List.eq_nil_of_length_eq_zero (hin.len.trans h0)
        intro k u hu; simp [fcells] at hu
      · obtain ⟨b, off, e, hc⟩ := hin.cells h0
        cases e
        exact FldsIn.news hin.len hc
    refine wpList_append_own_at (w := w) hgd s x 22 ho base 38 i0 (.agg #[.string ⟨#[]⟩, .string ⟨#[]⟩]) 2 32 Tryd.underlying22 hi hz0 hz1 hz2 rfl (by decide) v l.length (fcells l) hs hown ad n c (fcells xs) hx (by rw [fcells_len, hin.len]) hnews (fcells_one xs) (by unfold maxLen; omega) (by omega) hbase ?_
    intro v' w' hown' hgrow _ _
    refine h v' w' ?_ ((Below.refl base w).grown hgrow hbase fun k hk => (World.ownsRow.lt hown k hk).1)
    unfold FSo
    rw [fcells_app, List.length_append, hin.len]
    exact hown'
/-- A row of one's own that is empty, and has its block. -/
theorem FSo.empty (w : World) (base : Nat) (h : base ≤ w.heap.size) : FSo (w.alloc (.cells #[] 38 (0, 0))) base (.slice (some ⟨w.heap.size, 0, none⟩) 0 0) [] :=
  ⟨rfl, .inr ⟨w.heap.size, 0, #[], rfl, h, heap_alloc_new w _, Nat.le_refl _, Nat.zero_le _, rfl, rfl⟩⟩
theorem FSo.one (w : World) (base : Nat) (h : base ≤ w.heap.size) (a b : ByteArray) : FSo (w.alloc (.cells #[.string a, .string b] 38 (0, 0))) base (.slice (some ⟨w.heap.size, 0, none⟩) 1 1) [(a, b)] :=
  ⟨rfl, .inr ⟨w.heap.size, 1, #[.string a, .string b], rfl, h, heap_alloc_new w _, Nat.le_refl _, by unfold maxLen; omega, rfl, rfl⟩⟩
/-! Two headers together. -/
theorem prL_two (a b : List Fd) : prL (a ++ b) = prL a ++ prL b := prL_app a b
theorem prE_app {a b : List Fd} (h : a.length + b.length ≤ 64) : prE (a ++ b) = 0 ↔ prE a = 0 ∧ prE b = 0 := by
  rw [prE_zero, prE_zero, prE_zero, prL_app]
  constructor
  · rintro ⟨h1, h2, h3⟩
    exact ⟨⟨fun f hf => h1 f (List.mem_append_left _ hf), by omega, fun x hx => h3 x (List.mem_append_left _ hx)⟩, fun f hf => h1 f (List.mem_append_right _ hf), by omega, fun x hx => h3 x (List.mem_append_right _ hx)⟩
  · rintro ⟨⟨a1, a2, a3⟩, b1, b2, b3⟩
    refine ⟨fun f hf => (List.mem_append.1 hf).elim (a1 f) (b1 f), by rw [List.length_append]; exact h, fun x hx => (List.mem_append.1 hx).elim (a3 x) (b3 x)⟩
theorem prT_app {a b : List Fd} (h : a.length + b.length ≤ 64) (ha : prE a = 0) (hb : prE b = 0) : prT (a ++ b) = (prT a).take ((prT a).length - 2) ++ prT b ∧ 2 ≤ (prT a).length := by
  have hab := (prE_app h).2 ⟨ha, hb⟩
  unfold prT
  rw [if_pos ha, if_pos hb, if_pos hab, prL_app, ctL_app, List.length_append]
  refine ⟨?_, by simp⟩
  rw [show (ctL (prL a)).length + ([13, 10] : Bs).length - 2 = (ctL (prL a)).length by simp, List.take_left]
  simp
theorem fds_app (a b : List Fld) : fds (a ++ b) = fds a ++ fds b := List.map_append ..
end Go.Proofs.YtdaekoapkclliaaDoor
