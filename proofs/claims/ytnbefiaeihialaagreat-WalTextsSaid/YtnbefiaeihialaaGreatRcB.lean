/- The document's log: rows of its changes; of. -/
import Derived.Test.YtnbefiaeihialaaGreatRcA
import Derived.Maps.AppendAt
set_option linter.unusedVariables false
set_option linter.unusedSimpArgs false
namespace Go.Proofs.YtnbefiaeihialaaGreat
open Go.RowKit
/-- An own row of the document's changes. -/
def CHr (w : World) (base : Nat) (v : Value) (l : List Ch) : Prop := w.ownsRow base 37 3 v l.length (ccells l)
theorem CHr.nil (w : World) (base : Nat) : CHr w base (.slice none 0 0) [] := ⟨rfl, .inl ⟨rfl, rfl⟩⟩
theorem CHr.shape {w : World} {base : Nat} {v : Value} {l : List Ch} (h : CHr w base v l) : ∃ ao cap, v = .slice ao l.length cap := by
  rcases h.2 with ⟨hv, hn⟩ | ⟨g, cap, cur, hv, _⟩
  · exact ⟨none, 0, by rw [hv, hn]⟩
  · exact ⟨_, _, hv⟩
theorem CHr.in_ {w : World} {base n c : Nat} {A : Option Addr} {l : List Ch} (h : CHr w base (.slice A n c) l) : ChsIn w A n l := by
  rcases h.2 with ⟨hv, hn⟩ | ⟨g, cap, cur, hv, hb, hg, hn, hm, hsz, ht⟩
  · obtain ⟨rfl, rfl, rfl⟩ := Value.slice.inj hv
    exact ⟨hn, by omega, fun h => absurd h (by omega)⟩
  · obtain ⟨rfl, rfl, rfl⟩ := Value.slice.inj hv
    refine ⟨rfl, by unfold maxLen at hm; omega, fun h0 => ⟨g, 0, rfl, fun j hj => ?_⟩⟩
    obtain ⟨q1, q2, q3⟩ := ccells_at l j hj
    rw [← ht] at q1 q2 q3
    rw [List.getElem?_take, if_pos (by omega)] at q1 q2 q3
    rw [Array.getElem?_toList] at q1 q2 q3
    rw [cell_of_row _ _ _ _ _ _ hg, cell_of_row _ _ _ _ _ _ hg, cell_of_row _ _ _ _ _ _ hg, Nat.zero_add]
    exact ⟨q1, q2, q3⟩
theorem CHr.below {w w' : World} {base : Nat} {v : Value} {l : List Ch} (h : CHr w base v l) (hb : Below w.heap.size w w') : CHr w' base v l :=
  Eff.own (Eff.of_below hb (fun _ => False)) h (fun _ _ x => x)
theorem CHr.drew {w : World} {base : Nat} {v : Value} {l : List Ch} (h : CHr w base v l) : CHr w.drew base v l := h.below (Below.refl _ _).drew
theorem Tryz.infoCr : (Tryz.prog.info? 37).map (fun i => (i.zero, i.size, i.bytes)) = some (some (.agg #[.string ⟨#[]⟩, .string ⟨#[]⟩, .bool false]), 3, 40) := by kernel_rfl
/-- append(v, c) of one change in a region that draws its order: its cells lie in a new block. -/
theorem step_appCr {w : World} {ops : Array Oper} {o : Oper} {a : Act} {K : Act → World → Prop} {Q : Exit → Act → World → Prop} {E : Prop} (hgd : o.guard = none) (s x : Operand)
    (ho : o.op = .call { callee := .builtin .append, args := #[s, x], argTypes := #[31, 31] })
    (base : Nat) (v : Value) (l : List Ch) (hs : a.eval s = v) (f1 f2 : ByteArray) (g : Bool) (hown : CHr w base v l)
    (hx : a.eval x = .slice (some ⟨w.heap.size, 0, none⟩) 1 1)
    (hlen : l.length + 1 ≤ 1000000000) (hbase : base ≤ w.heap.size)
    (h : ∀ v' w', CHr w' base v' (l ++ [⟨f1, f2, g⟩]) → Below base w w' → K (a.put o.dst v') w') : if Region.wanted o (yielded ops a.tmps) = true then Oper.wp Tryz.prog o a (w.alloc (.cells #[.string f1, .string f2, .bool g] 37 (0, 0))) K Q else E := by
  have hw : Region.wanted o (yielded ops a.tmps) = true := by simp [Region.wanted, hgd]
  rw [if_pos hw]
  obtain ⟨i0, hi, hz0, hz1, hz2⟩ := info_parts Tryz.infoCr
  obtain ⟨v', w', hrun, r1, r2, _⟩ := run_append_own (P := Tryz.prog) (w.alloc (.cells #[.string f1, .string f2, .bool g] 37 (0, 0))) base 31 o.type 37 i0 (.agg #[.string ⟨#[]⟩, .string ⟨#[]⟩, .bool false]) 3 40 Tryz.underlying31 hi hz0 hz1 hz2 rfl (by decide) v l.length (ccells l) (World.ownsRow.alloc hown _) ⟨w.heap.size, 0, none⟩ 1 1 [.string f1, .string f2, .bool g] rfl (by
    intro j u hu
    have h1 := heap_alloc_new w (.cells #[.string f1, .string f2, .bool g] 37 (0, 0))
    match j, hu with
    | 0, hu =>
      simp at hu
      subst hu
      rw [show (⟨w.heap.size, 0, none⟩ : Addr).add 0 = ⟨w.heap.size, 0, none⟩ by rfl, cell_of_row _ _ _ _ _ _ h1]
      rfl
    | 1, hu =>
      simp at hu
      subst hu
      rw [show (⟨w.heap.size, 0, none⟩ : Addr).add 1 = ⟨w.heap.size, 1, none⟩ by rfl, cell_of_row _ _ _ _ _ _ h1]
      rfl
    | 2, hu =>
      simp at hu
      subst hu
      rw [show (⟨w.heap.size, 0, none⟩ : Addr).add 2 = ⟨w.heap.size, 2, none⟩ by rfl, cell_of_row _ _ _ _ _ _ h1]
      rfl
    | n + 3, hu => simp at hu) (by intro u hu; simp at hu; rcases hu with rfl | rfl | rfl <;> rfl) (by unfold maxLen; omega) (by omega) (by simp; omega)
  unfold Oper.wp
  simp [execOp, ho, resolve, invoke, builtin, hs, hx, hrun, Result.andThen]
  refine h v' w' ?_ (((Below.refl base w).alloc hbase _).grown r2 (by simp; omega) fun k hk => (World.ownsRow.lt hown k hk).1)
  unfold CHr
  rw [List.length_append, ccells_app]
  exact r1
theorem wp_appCr {w : World} {ops : Array Oper} {rest : List Oper} {o : Oper} {a : Act} {Q : Exit → Act → World → Prop} (hgd : o.guard = none) (s x : Operand)
    (ho : o.op = .call { callee := .builtin .append, args := #[s, x], argTypes := #[31, 31] })
    (base : Nat) (v : Value) (l : List Ch) (hs : a.eval s = v) (f1 f2 : ByteArray) (g : Bool) (hown : CHr w base v l)
    (hx : a.eval x = .slice (some ⟨w.heap.size, 0, none⟩) 1 1)
    (hlen : l.length + 1 ≤ 1000000000) (hbase : base ≤ w.heap.size)
    (h : ∀ v' w', CHr w' base v' (l ++ [⟨f1, f2, g⟩]) → Below base w w' → wpList Tryz.prog ops Q rest (a.put o.dst v') w') : wpList Tryz.prog ops Q (o :: rest) a (w.alloc (.cells #[.string f1, .string f2, .bool g] 37 (0, 0))) :=
  wpList_plain hgd fun K hK => by
    have := step_appCr (ops := #[]) (K := K) (Q := Q) (E := False) hgd s x ho base v l hs f1 f2 g hown hx hlen hbase fun v' w' q1 q2 => hK _ _ (h v' w' q1 q2)
    rw [if_pos (by simp [Region.wanted, hgd])] at this
    exact this
set_option maxRecDepth 100000 in
set_option maxHeartbeats 4000000 in
theorem of_any (A : Option Addr) (n c : Nat) (xs : List Ch) (w : World) (h : ChsIn w A n xs) (hn : n ≤ 1000000) :
    Calls Tryz.prog 10 #[.slice A n c] w fun e w' => ∃ v, e = .returned v ∧ CHr w' w.heap.size v xs ∧ Below w.heap.size w w' := by
  have hn0 : (0 : Int) ≤ (n : Int) := by omega
  have hl := h.len
  have H := Lib.hid (And.intro h hl)
  clear h hl
  go_enter Tryz.func10, Tryz.ntmps10
  go_wp2
  go_loopw [3, 4] (fun v i wr => ∃ j : Nat, j ≤ n ∧ i = .int .i64 j ∧ Hid (CHr wr w.heap.size v (xs.take j) ∧ Below w.heap.size w wr)) (fun _ i _ => n - mzInt i)
  case atStart => exact ⟨0, Nat.zero_le _, rfl, Lib.hid ⟨CHr.nil _ _, Below.refl _ _⟩⟩
  case round =>
    obtain ⟨j, hj, rfl, hrl⟩ := hrel
    have hj0 : (0 : Int) ≤ (j : Int) := by omega
    by_cases hlt : j < n
    · have hji : (j : Int) < (n : Int) := by omega
      obtain ⟨b, off, rfl, hc⟩ := (H.out.1.below hrl.out.2).cells (by omega)
      obtain ⟨e1, e2, e3⟩ := hc j hlt
      have hjl : j < xs.length := by rw [H.out.2]; exact hlt
      have htk : xs.take (j + 1) = xs.take j ++ [ch xs j] := by rw [List.take_succ_eq_append_getElem hjl, ch_get hjl]
      have hlt2 : (xs.take j).length + 1 ≤ 1000000000 := by rw [List.length_take]; omega
      generalize ch xs j = cc at *
      obtain ⟨K, V, gn⟩ := cc
      dsimp only at e1 e2 e3
      have hz := hrl.out.2.size
      have HT := Lib.hid htk
      clear htk hc
      go_wp2_with (at_builtin; refine wp_appCr rfl (.tmp 11) (.tmp 16) rfl w.heap.size _ (xs.take j) rfl K V gn hrl.out.1 rfl hlt2 hz ?_)
      intro v5 w5 ho5 hb5
      have HF := Lib.hid (And.intro ho5 (hrl.out.2.trans hb5))
      clear ho5 hb5 e1 e2 e3
      go_wp2
      go_roundw
      case rel => exact ⟨j + 1, by omega, by go_num, Lib.hid ⟨by rw [HT.out]; exact HF.out.1, HF.out.2⟩⟩
      case measure => simp [mzInt]; omega
    · obtain rfl : j = n := by omega
      have hjE : ¬ (j : Int) < (j : Int) := by omega
      have hx : xs.take j = xs := by rw [← H.out.2, List.take_length]
      have HF := Lib.hid hrl.out
      rw [hx] at HF
      clear hrl hx
      go_wp2
      go_ret
      exact ⟨_, rfl, HF.out.1, HF.out.2⟩
end Go.Proofs.YtnbefiaeihialaaGreat
