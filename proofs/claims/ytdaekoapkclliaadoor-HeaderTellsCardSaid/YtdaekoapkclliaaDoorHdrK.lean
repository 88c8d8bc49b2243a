/- Package header: an own row of fields; what Parse keeps between its rounds. -/
import Derived.Test.YtdaekoapkclliaaDoorHdrJ
set_option linter.unusedVariables false
set_option linter.unusedSimpArgs false
namespace Go.Proofs.YtdaekoapkclliaaDoor
open Go.RowKit
def fcells : List Fld → List Value
  | [] => []
  | f :: r => .string f.1 :: .string f.2 :: fcells r
theorem fcells_app (a b : List Fld) : fcells (a ++ b) = fcells a ++ fcells b := by induction a with | nil => rfl | cons x y ih => simp [fcells, ih]
theorem fcells_len (a : List Fld) : (fcells a).length = a.length * 2 := by induction a with | nil => rfl | cons x y ih => simp [fcells, ih]; omega
theorem fcells_at : ∀ (a : List Fld) (j : Nat), j < a.length → (fcells a)[j * 2]? = some (.string (fl a j).1) ∧ (fcells a)[j * 2 + 1]? = some (.string (fl a j).2)
  | f :: r, 0, _ => ⟨rfl, rfl⟩
  | f :: r, j + 1, h => by
    have ih := fcells_at r j (Nat.lt_of_succ_lt_succ h)
    have e : fl (f :: r) (j + 1) = fl r j := rfl
    rw [e, show (j + 1) * 2 = j * 2 + 1 + 1 by omega]
    exact ih
/-- A slice of fields of the call's own. -/
def FSo (w : World) (base : Nat) (v : Value) (l : List Fld) : Prop := w.ownsRow base 38 2 v l.length (fcells l)
theorem FSo.nil (w : World) (base : Nat) : FSo w base (.slice none 0 0) [] := ⟨rfl, .inl ⟨rfl, rfl⟩⟩
theorem FSo.shape {w : World} {base : Nat} {v : Value} {l : List Fld} (h : FSo w base v l) : ∃ ao cap, v = .slice ao l.length cap := by
  rcases h.2 with ⟨hv, hn⟩ | ⟨g, cap, cur, hv, _⟩
  · exact ⟨none, 0, by rw [hv, hn]⟩
  · exact ⟨_, _, hv⟩
theorem FSo.own {w : World} {base : Nat} {v : Value} {l : List Fld} (h : FSo w base v l) : w.ownsRow base 38 2 v l.length (fcells l) := h
theorem FSo.in_ {w : World} {base n c : Nat} {A : Option Addr} {l : List Fld} (h : FSo w base (.slice A n c) l) : FldsIn w A n l := by
  rcases h.2 with ⟨hv, hn⟩ | ⟨g, cap, cur, hv, hb, hg, hn, hm, hsz, ht⟩
  · obtain ⟨rfl, rfl, rfl⟩ := Value.slice.inj hv
    exact ⟨hn, by omega, fun h => absurd h (by omega)⟩
  · obtain ⟨rfl, rfl, rfl⟩ := Value.slice.inj hv
    refine ⟨rfl, by unfold maxLen at hm; omega, fun h0 => ⟨g, 0, rfl, fun j hj => ?_⟩⟩
    obtain ⟨q1, q2⟩ := fcells_at l j hj
    rw [← ht] at q1 q2
    rw [List.getElem?_take, if_pos (by omega)] at q1 q2
    rw [Array.getElem?_toList] at q1 q2
    rw [cell_of_row _ _ _ _ _ _ hg, cell_of_row _ _ _ _ _ _ hg, Nat.zero_add]
    exact ⟨q1, q2⟩
theorem FSo.below {w w' : World} {base : Nat} {v : Value} {l : List Fld} (h : FSo w base v l) (hb : Below w.heap.size w w') : FSo w' base v l :=
  Eff.own (Eff.of_below hb (fun _ => False)) h (fun _ _ x => x)
theorem SSo.below {w w' : World} {base : Nat} {v : Value} {l : List ByteArray} (h : SSo w base v l) (hb : Below w.heap.size w w') : SSo w' base v l :=
  Eff.own (Eff.of_below hb (fun _ => False)) h (fun _ _ x => x)
theorem Tryd.infoFld : (Tryd.prog.info? 38).map (fun i => (i.zero, i.size, i.bytes)) = some (some (.agg #[.string ⟨#[]⟩, .string ⟨#[]⟩]), 2, 32) := by kernel_rfl
/-- append(v, f) of one field: its cells lie in a new block. -/
theorem wp_appfld {w : World} {ops : Array Oper} {rest : List Oper} {o : Oper} {a : Act} {Q : Exit → Act → World → Prop} (hgd : o.guard = none) (s x : Operand)
    (ho : o.op = .call { callee := .builtin .append, args := #[s, x], argTypes := #[22, 22] })
    (base : Nat) (v : Value) (l : List Fld) (hs : a.eval s = v) (f1 f2 : ByteArray) (hown : FSo w base v l)
    (hx : a.eval x = .slice (some ⟨w.heap.size, 0, none⟩) 1 1)
    (hlen : l.length + 1 ≤ 1000000000) (hbase : base ≤ w.heap.size)
    (h : ∀ v' w', FSo w' base v' (l ++ [(f1, f2)]) → w.grownBy w' v.ownBlock → Below base w w' → wpList Tryd.prog ops Q rest (a.put o.dst v') w') : wpList Tryd.prog ops Q (o :: rest) a (w.alloc (.cells #[.string f1, .string f2] 38 (0, 0))) := by
  obtain ⟨i0, hi, hz0, hz1, hz2⟩ := info_parts Tryd.infoFld
  refine wpList_append_own (w := w.alloc (.cells #[.string f1, .string f2] 38 (0, 0))) hgd s x 22 ho base 38 i0 (.agg #[.string ⟨#[]⟩, .string ⟨#[]⟩]) 2 32 Tryd.underlying22 hi hz0 hz1 hz2 rfl (by decide) v l.length (fcells l) hs (World.ownsRow.alloc hown _) ⟨w.heap.size, 0, none⟩ 1 1 [.string f1, .string f2] hx rfl ?_ (by intro u hu; simp at hu; rcases hu with rfl | rfl <;> rfl) (by unfold maxLen; omega) (by omega) (by simp; omega) ?_
  · intro j u hu
    have h1 := heap_alloc_new w (.cells #[.string f1, .string f2] 38 (0, 0))
    match j, hu with
    | 0, hu =>
      simp at hu
      subst hu
      rw [show (⟨w.heap.size, 0, none⟩ : Addr).add 0 = ⟨w.heap.size, 0, none⟩ by rfl, cell_of_row _ _ _ _ _ _ h1]
      rfl
    | 1, hu =>
      simp at hu
      subst hu
      rw [show (⟨w.heap.size, 0, none⟩ : Addr).add 1 = ⟨w.heap.size, 1, none⟩ by rfl, cell_of_row _ _ _ _ _ _ h1]
      rfl
    | n + 2, hu => simp at hu
  · intro v' w' hown' hgrow _
    refine h v' w' ?_ ?_ (((Below.refl base w).alloc hbase _).grown hgrow (by simp; omega) fun k hk => (World.ownsRow.lt hown k hk).1)
    · unfold FSo
      rw [List.length_append, fcells_app]
      exact hown'
    · have hsz := size_alloc w (.cells #[.string f1, .string f2] 38 (0, 0))
      exact ⟨hgrow.os, hgrow.tape, hgrow.output, by have := hgrow.size; omega, fun k hk hn => by
        rw [hgrow.block k (by omega) hn]; exact Below.heap_alloc _ _ _ hk⟩
/-! The lines, unfolded, line by line. -/
def UnI (ls : List Bs) (m : Nat) (W : List Bs) : Prop :=
  W.flatten = (ls.take m).flatten ∧ W.length ≤ m ∧ ((m = 0 ∧ W = []) ∨ (0 < m ∧ ∃ D cur, W = D ++ [cur] ∧ unf ls = some (D ++ unfG cur (ls.drop m))))
theorem UnI.zero (ls : List Bs) : UnI ls 0 [] := ⟨by simp, Nat.le_refl _, .inl ⟨rfl, rfl⟩⟩
theorem take_flat {ls : List Bs} {m : Nat} (hm : m < ls.length) : (ls.take (m + 1)).flatten = (ls.take m).flatten ++ ls[m] := by
  rw [List.take_succ_eq_append_getElem hm, List.flatten_append]
  show _ ++ (ls[m] ++ []) = _
  rw [List.append_nil]
theorem UnI.bad {ls : List Bs} {W : List Bs} (h : UnI ls 0 W) (hm : 0 < ls.length) (hb : isBl (ls[0].headD 0) = true) : unf ls = none := by
  cases ls with
  | nil => cases hm
  | cons l r => rw [unf]; exact if_pos hb
theorem UnI.new {ls : List Bs} {m : Nat} {W : List Bs} (h : UnI ls m W) (hm : m < ls.length) (hb : isBl (ls[m].headD 0) = false) : UnI ls (m + 1) (W ++ [ls[m]]) := by
  obtain ⟨h1, h2, h3⟩ := h
  refine ⟨by rw [take_flat hm, ← h1]; simp, by rw [List.length_append]; simp; omega, .inr ⟨by omega, W, ls[m], rfl, ?_⟩⟩
  rcases h3 with ⟨rfl, rfl⟩ | ⟨h0, D, cur, rfl, hu⟩
  · cases ls with
    | nil => cases hm
    | cons l r => rw [unf, if_neg (by rw [Bool.not_eq_true]; exact hb)]; rfl
  · rw [hu, List.drop_eq_getElem_cons hm, unfG, if_neg (by rw [Bool.not_eq_true]; exact hb)]
    simp
theorem UnI.more {ls : List Bs} {m : Nat} {D : List Bs} {cur : Bs} (h : UnI ls m (D ++ [cur])) (hm : m < ls.length) (hb : isBl (ls[m].headD 0) = true) : UnI ls (m + 1) (D ++ [cur ++ ls[m]]) := by
  obtain ⟨h1, h2, h3⟩ := h
  refine ⟨by rw [take_flat hm, ← h1]; simp, by rw [List.length_append] at h2 ⊢; simp at h2 ⊢; omega, .inr ⟨by omega, D, cur ++ ls[m], rfl, ?_⟩⟩
  rcases h3 with ⟨_, h4⟩ | ⟨h0, D', cur', he, hu⟩
  · simp at h4
  · obtain ⟨rfl, e⟩ := List.append_inj' he rfl
    obtain rfl : cur = cur' := by simpa using e
    rw [hu, List.drop_eq_getElem_cons hm, unfG, if_pos hb]
theorem UnI.done {ls : List Bs} {W : List Bs} (h : UnI ls ls.length W) : unf ls = some W := by
  rcases h.2.2 with ⟨h0, rfl⟩ | ⟨h0, D, cur, rfl, hu⟩
  · rw [List.eq_nil_of_length_eq_zero h0]; rfl
  · rw [hu, List.drop_length]; rfl
theorem UnI.ne {ls : List Bs} {m : Nat} {W : List Bs} (h : UnI ls m W) (h0 : 0 < m) : ∃ D cur, W = D ++ [cur] := by
  rcases h.2.2 with ⟨h1, _⟩ | ⟨_, D, cur, e, _⟩
  · omega
  · exact ⟨D, cur, e⟩
/-! The fields. -/
theorem fdsF_drop {ws : List Bs} {m : Nat} (h : m < ws.length) : fdsF (ws.drop m) = match fieldOf ws[m] with | none => none | some f => (fdsF (ws.drop (m + 1))).map (f :: ·) := by
  rw [List.drop_eq_getElem_cons h, fdsF]
  cases fieldOf ws[m] <;> rfl
/-- F are the fields of the first m lines. -/
def FdI (ws : List Bs) (m : Nat) (F : List Fld) : Prop := fdsF ws = (fdsF (ws.drop m)).map (fds F ++ ·) ∧ F.length = m
theorem FdI.zero (ws : List Bs) : FdI ws 0 [] := ⟨by rw [List.drop_zero]; cases fdsF ws <;> rfl, rfl⟩
theorem FdI.bad {ws : List Bs} {m : Nat} {F : List Fld} (h : FdI ws m F) (hm : m < ws.length) (hb : fieldOf ws[m] = none) : fdsF ws = none := by
  rw [h.1, fdsF_drop hm, hb]; rfl
theorem FdI.next {ws : List Bs} {m : Nat} {F : List Fld} (h : FdI ws m F) (hm : m < ws.length) {f : Fld} (hb : fieldOf ws[m] = some (fdb f)) : FdI ws (m + 1) (F ++ [f]) := by
  refine ⟨?_, by rw [List.length_append, h.2]; rfl⟩
  rw [h.1, fdsF_drop hm, hb]
  show ((fdsF (ws.drop (m + 1))).map (fdb f :: ·)).map _ = _
  rw [Option.map_map]
  congr 1
  funext x
  simp [fds]
theorem FdI.done {ws : List Bs} {F : List Fld} (h : FdI ws ws.length F) : fdsF ws = some (fds F) := by
  rw [h.1, List.drop_length]
  show some (fds F ++ []) = _
  rw [List.append_nil]
/-! The outcomes of Parse. -/
theorem pa_none {s : Bs} (h : cutG [] s = none) : paF s = ([], [], 2) := by unfold paF; rw [h]
theorem pa_long {s : Bs} {ls : List Bs} {r : Bs} (h : cutG [] s = some (ls, r)) {x : Bs} (hx : x ∈ ls) (hl : 998 < x.length) : paF s = ([], [], 3) := by
  unfold paF; rw [h]
  show (if _ then _ else _) = _
  rw [if_pos (List.any_eq_true.2 ⟨x, hx, decide_eq_true hl⟩)]
theorem pa_fine {s : Bs} {ls : List Bs} {r : Bs} (h : cutG [] s = some (ls, r)) (hf : Fine ls) : paF s = match unf ls with
    | none => ([], [], 2)
    | some ws => match fdsF ws with
      | none => ([], [], 2)
      | some fs => if 64 < fs.length then ([], [], 3) else (fs, r, 0) := by
  unfold paF; rw [h]
  show (if _ then _ else _) = _
  rw [if_neg (by
    rw [Bool.not_eq_true, List.any_eq_false]
    intro x hx
    have := hf x hx
    simpa using this)]
  cases unf ls with
  | none => rfl
  | some ws =>
    show (match fdsF ws with | none => _ | some fs => _) = (match fdsF ws with | none => _ | some fs => _)
    cases fdsF ws <;> rfl
theorem pa_unf {s : Bs} {ls : List Bs} {r : Bs} (h : cutG [] s = some (ls, r)) (hf : Fine ls) (hu : unf ls = none) : paF s = ([], [], 2) := by rw [pa_fine h hf, hu]
theorem pa_fds {s : Bs} {ls ws : List Bs} {r : Bs} (h : cutG [] s = some (ls, r)) (hf : Fine ls) (hu : unf ls = some ws) (hd : fdsF ws = none) : paF s = ([], [], 2) := by rw [pa_fine h hf, hu]; show (match fdsF ws with | none => _ | some fs => _) = _; rw [hd]
theorem pa_end {s : Bs} {ls ws : List Bs} {r : Bs} {fs : List Fd} (h : cutG [] s = some (ls, r)) (hf : Fine ls) (hu : unf ls = some ws) (hd : fdsF ws = some fs) : paF s = if 64 < fs.length then ([], [], 3) else (fs, r, 0) := by rw [pa_fine h hf, hu]; show (match fdsF ws with | none => _ | some fs => _) = _; rw [hd]
theorem cutG_ne : ∀ (s cur : Bs) (ls : List Bs) (r : Bs), cutG cur s = some (ls, r) → ∀ x ∈ ls, x ≠ []
  | s, cur, ls, r, h => by
    revert ls r h
    induction cur, s using cutG.induct with
    | case1 cur => intro ls r h; rw [cutG] at h; cases h
    | case2 r0 => intro ls r h; rw [cutG, if_pos rfl] at h; cases h; intro x hx; cases hx
    | case3 cur r0 hc ih =>
      intro ls r h
      rw [cutG, if_neg hc] at h
      cases hq : cutG [] r0 with
      | none => rw [hq] at h; cases h
      | some p =>
        rw [hq] at h
        cases h
        intro x hx
        rcases List.mem_cons.1 hx with rfl | hx
        · exact hc
        · exact ih _ _ hq x hx
    | case4 cur c r0 hn ih =>
      intro ls r h
      rw [cutG.eq_3 cur c r0 hn] at h
      exact ih _ _ h
end Go.Proofs.YtdaekoapkclliaaDoor
