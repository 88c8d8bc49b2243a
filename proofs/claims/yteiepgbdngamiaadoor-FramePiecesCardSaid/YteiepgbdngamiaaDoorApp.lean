/- Appending to rows that the call owns: which blocks stand. -/
import Derived.Test.YteiepgbdngamiaaDoorChg
import Derived.Maps.AppendAt
set_option linter.unusedVariables false
set_option linter.unusedSimpArgs false
namespace Go.Proofs.YteiepgbdngamiaaDoor
open Go.RowKit
theorem own_type {w : World} {base : Nat} {e : TypeId} {size n : Nat} {v : Value} {xs : List Value} (h : w.ownsRow base e size v n xs) {k : Nat} (hk : v.ownBlock = some k) : ∃ cur, w.heap[k]? = some (.cells cur e (0, 0)) := by
  rcases h.2 with ⟨hv, _⟩ | ⟨g, cap, cur, hv, hg, hh, r⟩
  · rw [hv] at hk; simp [Value.ownBlock] at hk
  · rw [hv] at hk; simp [Value.ownBlock] at hk; subst hk; exact ⟨cur, hh⟩
/-- A row of another type stands where this one grows. -/
theorem own_apart {w : World} {b1 b2 : Nat} {e1 e2 : TypeId} {s1 s2 n1 n2 : Nat} {v1 v2 : Value} {x1 x2 : List Value} (h1 : w.ownsRow b1 e1 s1 v1 n1 x1) (h2 : w.ownsRow b2 e2 s2 v2 n2 x2) (he : e1 ≠ e2) : ∀ k, v1.ownBlock = some k → ¬ v2.ownBlock = some k := by
  intro k hk1 hk2
  obtain ⟨c1, e⟩ := own_type h1 hk1
  obtain ⟨c2, f⟩ := own_type h2 hk2
  rw [e] at f
  injection f with f
  injection f with _ f _
  exact he f
theorem block_apart {w : World} {b2 : Nat} {e1 e2 : TypeId} {s2 n2 : Nat} {v2 : Value} {x2 : List Value} {g : Nat} {cs : Array Value} {fr : Nat × Nat} (h1 : w.heap[g]? = some (.cells cs e1 fr)) (h2 : w.ownsRow b2 e2 s2 v2 n2 x2) (he : e1 ≠ e2) : ¬ v2.ownBlock = some g := by
  intro hk2
  obtain ⟨c2, f⟩ := own_type h2 hk2
  rw [h1] at f
  injection f with f
  injection f with _ f _
  exact he f
/-- append(v, x) of one element whose cells lie in a new block. -/
theorem wp_appG {w : World} {ops : Array Oper} {rest : List Oper} {o : Oper} {a : Act} {Q : Exit → Act → World → Prop} (hgd : o.guard = none) (s x : Operand) (t : TypeId)
    (ho : o.op = .call { callee := .builtin .append, args := #[s, x], argTypes := #[t, t] })
    (e : TypeId) (z : Value) (size bytes : Nat) (ht : Tryd.prog.underlying t = some (.slice e)) (hinfo : (Tryd.prog.info? e).map (fun i => (i.zero, i.size, i.bytes)) = some (some z, size, bytes)) (hzs : z.cells.size = size) (hsz : 0 < size) (hby : bytes ≤ 1024)
    (base : Nat) (v : Value) (n : Nat) (xs : List Value) (hs : a.eval s = v) (hown : w.ownsRow base e size v n xs)
    (new : List Value) (hnl : new.length = size) (h1 : ∀ u ∈ new, u.oneCell' = true)
    (q : Nat) (hq : q = w.heap.size) (hx : a.eval x = .slice (some ⟨q, 0, none⟩) 1 1) (hlen : n + 1 ≤ 100000000000) (hbase : base ≤ w.heap.size)
    (h : ∀ v' w', w'.ownsRow base e size v' (n + 1) (xs ++ new) → Eff (fun k => v.ownBlock = some k) w w' → (∀ k, v'.ownBlock = some k → v.ownBlock = some k ∨ w.heap.size ≤ k) → wpList Tryd.prog ops Q rest (a.put o.dst v') w') : wpList Tryd.prog ops Q (o :: rest) a (w.alloc (.cells new.toArray e (0, 0))) := by
  subst hq
  obtain ⟨i0, hi, hz0, hz1, hz2⟩ := info_parts hinfo
  refine wpList_append_own_at (w := w.alloc (.cells new.toArray e (0, 0))) hgd s x t ho base e i0 z size bytes ht hi hz0 hz1 hz2 hzs hsz v n xs hs (World.ownsRow.alloc hown _) ⟨w.heap.size, 0, none⟩ 1 1 new hx (by omega) ?_ h1 (by unfold maxLen; omega) (Nat.le_trans (Nat.mul_le_mul_left _ hby) (by omega)) (by simp; omega) ?_
  · intro j u hu
    have h1 := heap_alloc_new w (.cells new.toArray e (0, 0))
    rw [Go.WideShapes.add_plain, Nat.zero_add, cell_of_row _ _ _ _ _ _ h1, List.getElem?_toArray]
    exact hu
  · intro v' w' hown' hgrow _ hat
    have hE : Eff (fun k => v.ownBlock = some k) w w' := ((Eff.refl _ w).alloc _).grown hgrow fun k hk _ => hk
    refine h v' w' hown' hE fun k hk => ?_
    rcases hat with e | e
    · left; rw [← e]; exact hk
    · right
      rw [e] at hk
      have := Option.some.inj hk
      rw [← this]; simp
/-- append(v, x) of one element whose cells lie in block q, in whatever world. -/
theorem wp_appW {w : World} {ops : Array Oper} {rest : List Oper} {o : Oper} {a : Act} {Q : Exit → Act → World → Prop} (hgd : o.guard = none) (s x : Operand) (t : TypeId)
    (ho : o.op = .call { callee := .builtin .append, args := #[s, x], argTypes := #[t, t] })
    (e : TypeId) (z : Value) (size bytes : Nat) (ht : Tryd.prog.underlying t = some (.slice e)) (hinfo : (Tryd.prog.info? e).map (fun i => (i.zero, i.size, i.bytes)) = some (some z, size, bytes)) (hzs : z.cells.size = size) (hsz : 0 < size) (hby : bytes ≤ 1024)
    (base : Nat) (v : Value) (n : Nat) (xs : List Value) (hs : a.eval s = v) (hown : w.ownsRow base e size v n xs)
    (new : List Value) (hnl : new.length = size) (h1 : ∀ u ∈ new, u.oneCell' = true)
    (q : Nat) {fr : Nat × Nat} {e2 : TypeId} (hq : w.heap[q]? = some (.cells new.toArray e2 fr)) (hx : a.eval x = .slice (some ⟨q, 0, none⟩) 1 1) (hlen : n + 1 ≤ 100000000000) (hbase : base ≤ w.heap.size)
    (h : ∀ v' w', w'.ownsRow base e size v' (n + 1) (xs ++ new) → Eff (fun k => v.ownBlock = some k) w w' → (∀ k, v'.ownBlock = some k → v.ownBlock = some k ∨ w.heap.size ≤ k) → wpList Tryd.prog ops Q rest (a.put o.dst v') w') : wpList Tryd.prog ops Q (o :: rest) a w := by
  obtain ⟨i0, hi, hz0, hz1, hz2⟩ := info_parts hinfo
  refine wpList_append_own_at (w := w) hgd s x t ho base e i0 z size bytes ht hi hz0 hz1 hz2 hzs hsz v n xs hs hown ⟨q, 0, none⟩ 1 1 new hx (by omega) ?_ h1 (by unfold maxLen; omega) (Nat.le_trans (Nat.mul_le_mul_left _ hby) (by omega)) hbase ?_
  · intro j u hu
    rw [Go.WideShapes.add_plain, Nat.zero_add, cell_of_row _ _ _ _ _ _ hq, List.getElem?_toArray]
    exact hu
  · intro v' w' hown' hgrow _ hat
    have hE : Eff (fun k => v.ownBlock = some k) w w' := (Eff.refl _ w).grown hgrow fun k hk _ => hk
    refine h v' w' hown' hE fun k hk => ?_
    rcases hat with e | e
    · left; rw [← e]; exact hk
    · right
      rw [e] at hk
      exact Nat.le_of_eq (Option.some.inj hk)
end Go.Proofs.YteiepgbdngamiaaDoor
