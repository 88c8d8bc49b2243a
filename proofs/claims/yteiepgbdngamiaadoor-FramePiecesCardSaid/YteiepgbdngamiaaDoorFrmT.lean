/- append(a, b...) of lines. -/
import Derived.Test.YteiepgbdngamiaaDoorFrmS
set_option linter.unusedVariables false
set_option linter.unusedSimpArgs false
namespace Go.Proofs.YteiepgbdngamiaaDoor
open Go.RowKit
theorem run_app_none {P : Program} {w : World} (t ty e : TypeId) (i : TypeInfo) (ht : P.underlying t = some (.slice e)) (hi : P.info? e = some i)
    {base size n : Nat} {v : Value} {xs : List Value} (hsize : i.size = size) (hown : w.ownsRow base e size v n xs) :
    (Builtin.append_ #[t, t] ty #[v, .slice none 0 0]).run P w = .ok v w := by
  rcases hown.2 with ⟨rfl, rfl⟩ | ⟨g, cap, cur, rfl, hbg, hg, hnc, hcm, hcs, htake⟩
  · simp [Builtin.append_, run_underlying ht, sizeOf, typeInfo, hi, Builtin.lenOf, Builtin.firstCells]
  · simp [Builtin.append_, run_underlying ht, sizeOf, typeInfo, hi, Builtin.lenOf, Builtin.firstCells, hnc, storeCells]
theorem lcells_one (l : List LnV) : ∀ u ∈ lcells l, u.oneCell' = true := by
  induction l with
  | nil => intro u hu; cases hu
  | cons a b ih =>
    intro u hu
    rcases List.mem_cons.1 hu with rfl | hu
    · rfl
    · rcases List.mem_cons.1 hu with rfl | hu
      · rfl
      · exact ih u hu
theorem wp_appLV {w : World} {ops : Array Oper} {rest : List Oper} {o : Oper} {a : Act} {Q : Exit → Act → World → Prop} (hgd : o.guard = none) (s x : Operand)
    (ho : o.op = .call { callee := .builtin .append, args := #[s, x], argTypes := #[27, 27] })
    (base : Nat) (v : Value) (ls : List LnV) (hs : a.eval s = v) (hown : LV w base v ls)
    (base2 : Nat) (v2 : Value) (ms : List LnV) (hx : a.eval x = v2) (hown2 : LV w base2 v2 ms) (hlen : ls.length + ms.length ≤ 100000000000) (hbase : base ≤ w.heap.size)
    (h : ∀ v' w', LV w' base v' (ls ++ ms) → Eff (fun k => v.ownBlock = some k) w w' → (∀ k, v'.ownBlock = some k → v.ownBlock = some k ∨ w.heap.size ≤ k) → wpList Tryd.prog ops Q rest (a.put o.dst v') w') : wpList Tryd.prog ops Q (o :: rest) a w := by
  obtain ⟨i0, hi, hz0, hz1, hz2⟩ := info_parts Tryd.infoLine
  rcases hown2.2 with ⟨hv2, h0⟩ | ⟨g, cap, cur, hv2, hr⟩
  · obtain rfl : ms = [] := List.eq_nil_of_length_eq_zero h0
    rw [List.append_nil] at h
    refine wpList_plain hgd fun K hK => ?_
    have hrun := run_app_none (w := w) 27 o.type 35 i0 Tryd.underlying27 hi hz1 hown
    unfold Oper.wp execOp
    simp only [ho, resolve, invoke, builtin, Sem.run_bind, Sem.run_pure, Result.andThen_ok, List.map_toArray, List.map_cons, List.map_nil, hs, hx, hv2, hrun]
    exact hK _ _ (h v w hown (Eff.refl _ _) (fun k hk => .inl hk))
  · refine wpList_append_own_at (w := w) hgd s x 27 ho base 35 i0 (.agg #[.string ⟨#[]⟩, .bool false]) 2 24 Tryd.underlying27 hi hz0 hz1 hz2 rfl (by decide) v ls.length (lcells ls) hs hown ⟨g, 0, none⟩ ms.length cap (lcells ms) (hx.trans hv2) (lcells_len ms) ?_ (lcells_one ms) (by unfold maxLen; omega) (by omega) hbase ?_
    · subst hv2
      exact World.ownsRow.cells hown2 (g := g) rfl
    · intro v' w' hown' hgrow _ hat
      have hE : Eff (fun k => v.ownBlock = some k) w w' := (Eff.refl _ w).grown hgrow fun k hk _ => hk
      refine h v' w' ?_ hE fun k hk => ?_
      · unfold LV
        rw [lcells_app, List.length_append]
        exact hown'
      · rcases hat with e | e
        · left; rw [← e]; exact hk
        · right
          rw [e] at hk
          exact Nat.le_of_eq (Option.some.inj hk)
end Go.Proofs.YteiepgbdngamiaaDoor
