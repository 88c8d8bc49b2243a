/- Package sector: Copy. -/
import Derived.Test.YtolkofnlihbncaaSpD
import Derived.Deep.RegionHeld3
set_option linter.unusedVariables false
set_option linter.unusedSimpArgs false
namespace Go.Proofs.Ytolkofnlihbncaa
open Go.RowKit
theorem sstore_any (a : Addr) (v u : Int) (w : World) (hc : w.cell? a = some (.int .i64 u)) (hf : w.frozen? a = false) :
    Calls Try.prog 27 #[.pointer (some a), .int .i64 v] w fun e w' => e = .returned (.tuple #[]) ∧ w.setCell a (.int .i64 v) = w' := by
  have hl := run_call_store (P := Try.prog) Try.func30 (by kernel_rfl) (by kernel_rfl) (by kernel_rfl) (by kernel_rfl) (k := .i64) (y := v) hc hf
  go_enter Try.func27, Try.ntmps27
  go_wp2
  go_end0
  exact ⟨rfl, rfl⟩
theorem bs_zero (w : World) {base : Nat} (hB : base ≤ w.heap.size) : BS (w.alloc (.cells #[] 5 (0, 0))) base (.slice (some ⟨w.heap.size, 0, none⟩) 0 0) [] :=
  ⟨rfl, .inr ⟨w.heap.size, 0, #[], rfl, hB, heap_alloc_new _ _, Nat.zero_le _, by unfold maxLen; omega, rfl, rfl⟩⟩
/-- append(v, x...) of bytes, as one step of a region that draws. -/
theorem step_appB {w : World} {ops : Array Oper} {o : Oper} {a : Go.Act} {K : Go.Act → World → Prop} {Q : Exit → Go.Act → World → Prop} {E : Prop} (hgd : o.guard = none) (s x : Operand)
    (ho : o.op = .call { callee := .builtin .append, args := #[s, x], argTypes := #[54, 54] })
    (base : Nat) (v : Value) (l : List UInt8) (hs : a.eval s = v) (hown : BS w base v l)
    (D m c : Nat) (news : List UInt8) (hx : a.eval x = .slice (some ⟨D, 0, none⟩) m c) (hl : news.length = m) (hnews : ∀ j (h : j < news.length), w.cell? ⟨D, j, none⟩ = some (.int .u8 news[j].toNat))
    (hlen : l.length + m ≤ 70368744177664) (hbase : base ≤ w.heap.size)
    (h : ∀ v' w', BS w' base v' (l ++ news) → Below base w w' → K (a.put o.dst v') w') : if Region.wanted o (yielded ops a.tmps) = true then Oper.wp Try.prog o a w K Q else E := by
  have hw : Region.wanted o (yielded ops a.tmps) = true := by simp [Region.wanted, hgd]
  rw [if_pos hw]
  obtain ⟨i0, hi, hz0, hz1, hz2⟩ := info_parts Try.infoU8
  obtain ⟨v', w', hrun, r1, r2, _⟩ := run_append_own (P := Try.prog) w base 54 o.type 5 i0 (.int .u8 0) 1 1 Try.underlying54 hi hz0 hz1 hz2 rfl (by decide) v l.length (bcells l) hown ⟨D, 0, none⟩ m c (bcells news) (by rw [bcells_length, hl]; omega) (by
    intro j u hu
    have hj : j < news.length := by
      rcases Nat.lt_or_ge j news.length with h' | h'
      · exact h'
      · rw [List.getElem?_eq_none (by rw [bcells_length]; exact h')] at hu; cases hu
    rw [bcells_get hj] at hu
    have hadd : (⟨D, 0, none⟩ : Addr).add j = ⟨D, j, none⟩ := by unfold Addr.add; split <;> simp_all
    rw [hadd, hnews j hj, hu]) (bcells_one _) (by unfold maxLen; omega) (by omega) hbase
  unfold Oper.wp
  simp [execOp, ho, resolve, invoke, builtin, hs, hx, hrun, Result.andThen]
  refine h v' w' ?_ (hown.grown (v' := v') (m := news) r2 hbase).below
  unfold BS
  rw [bcells_append, List.length_append, hl]
  exact r1
/-- The copy's bytes lie in a row of their own. -/
theorem BS.dat {w : World} {base : Nat} {v : Value} {l : List UInt8} (h : BS w base v l) (h0 : 0 < l.length) : ∃ D c R, v = .slice (some ⟨D, 0, none⟩) l.length c ∧ base ≤ D ∧ D < w.heap.size ∧ l.length ≤ c ∧ c ≤ maxLen ∧ w.heap[D]? = some (.cells (bcells l ++ R).toArray 5 (0, 0)) := by
  rcases h.2 with ⟨hv, h1⟩ | ⟨g', cap', cur, hv, hb, hg, hn, hm, hsz, ht⟩
  · omega
  · refine ⟨g', cap', cur.toList.drop l.length, hv, hb, lt_of_block hg, by omega, hm, ?_⟩
    rw [hg, ← ht, Nat.mul_one, List.take_append_drop]
set_option maxRecDepth 100000 in
set_option maxHeartbeats 8000000 in
theorem copy_any (g D c : Nat) (R : List Value) (k : Dk) (w : World) (h : DkAt w g D c R k) :
    Calls Try.prog 21 #[.pointer (some ⟨g, 0, none⟩)] w fun e w' => ∃ g' D' c' R', e = .returned (.pointer (some ⟨g', 0, none⟩)) ∧ DkAt w' g' D' c' R' k ∧ Below w.heap.size w w' ∧ w.heap.size ≤ g' ∧ w.heap.size ≤ D' := by
  have hn1 := h.ok.n1
  have hn2 := h.ok.n2
  have hln := h.ok.len
  have hgl := lt_of_block h.mem
  have hFB := fun (W : World) (hb : Below w.heap.size w W) (j : Nat) (hj : j < k.data.length) => (h.below hb).byte j hj
  obtain ⟨C, hCd⟩ : ∃ C : World → Prop, C = fun W => Hid (Below w.heap.size w W) := ⟨_, rfl⟩
  have key : ∀ W, C W → W.cell? ⟨g, 0, none⟩ = some (.slice (some ⟨D, 0, none⟩) (k.n * 64) c) ∧ W.cell? ⟨g, 1, none⟩ = some (.int .i64 k.cut) ∧ W.cell? ⟨g, 2, none⟩ = some (.int .i64 k.torn) ∧ W.cell? ⟨g, 3, none⟩ = some (.int .i64 k.since) ∧ W.cell? ⟨g, 4, none⟩ = some (.bool k.down) ∧ C W := fun W hC => by
    have hb : Hid (Below w.heap.size w W) := by rw [hCd] at hC; exact hC
    obtain ⟨m0, m1, m2, m3, m4, m5⟩ := (h.below hb.out).cell
    exact ⟨m0, m1, m2, m3, m4, hC⟩
  have hC2 : C w := by rw [hCd]; exact Lib.hid (Below.refl _ _)
  have hCs : ∀ W, C W → C W.drew := fun W h => by rw [hCd] at h ⊢; exact Lib.hid h.out.drew
  have hCk : ∀ W o, C W → C (W.alloc o) := fun W o h => by rw [hCd] at h ⊢; exact Lib.hid (h.out.alloc h.out.size o)
  have hCb : ∀ W W', C W → Below w.heap.size W W' → C W' := fun W W' h h' => by rw [hCd] at h ⊢; exact Lib.hid (h.out.trans h')
  have hCo : ∀ W, C W → Below w.heap.size w W := fun W h => by rw [hCd] at h; exact h.out
  have hlen : ([] : List UInt8).length + k.n * 64 ≤ 70368744177664 := by simp; omega
  have H := Lib.hid h
  have KY := Lib.hid key
  have HCS := Lib.hid hCs
  have HCK := Lib.hid hCk
  have HCB := Lib.hid hCb
  have HCO := Lib.hid hCo
  have HFB := Lib.hid hFB
  have HLN := Lib.hid hln
  clear h hFB hln key hCs hCk hCb hCo hCd
  go_enter Try.func21, Try.ntmps21
  go_upto_region 1 with fail
  go_region_held3 (fun w3 => w3.cell? ⟨g, 0, none⟩ = some (.slice (some ⟨D, 0, none⟩) (k.n * 64) c) ∧ w3.cell? ⟨g, 1, none⟩ = some (.int .i64 k.cut) ∧ w3.cell? ⟨g, 2, none⟩ = some (.int .i64 k.torn) ∧ w3.cell? ⟨g, 3, none⟩ = some (.int .i64 k.since) ∧ w3.cell? ⟨g, 4, none⟩ = some (.bool k.down) ∧ C w3)
    ((refine KY.out _ ?_; repeat (first | exact hC2 | refine HCS.out _ ?_ | refine HCK.out _ _ ?_ | (refine HCB.out _ _ ?_ hb9))))
    (first | (refine step_appB rfl (.tmp 4) (.tmp 8) rfl w.heap.size _ [] rfl (bs_zero _ (by simp)) D (k.n * 64) c k.data rfl HLN.out (fun j hj => HFB.out _ (HCO.out _ (HCK.out _ _ (HCS.out _ hC2))) j hj) hlen (by simp) ?_; intro v9 w9 ho9 hb9; try rw [List.nil_append] at ho9; obtain ⟨D9, c9, R9, rfl, z1, z2, z3, z4, z5⟩ := BS.dat ho9 (by rw [HLN.out]; omega)))
  have hC9 : C w9 := HCB.out _ _ (HCK.out _ _ (HCS.out _ hC2)) hb9
  have hB9 := HCO.out _ hC9
  have hz9 := hB9.size
  have hM := heap_alloc_new w9 (.cells #[.slice (some ⟨D9, 0, none⟩) k.data.length c9, .int .i64 k.cut, .int .i64 k.torn, .int .i64 k.since, .bool k.down, .int .i64 0] 61 (0, 0))
  have hBA : Below w.heap.size w (w9.alloc (.cells #[.slice (some ⟨D9, 0, none⟩) k.data.length c9, .int .i64 k.cut, .int .i64 k.torn, .int .i64 k.since, .bool k.down, .int .i64 0] 61 (0, 0))) := hB9.alloc hz9 _
  have hDA := (Below.heap_alloc w9 (.cells #[.slice (some ⟨D9, 0, none⟩) k.data.length c9, .int .i64 k.cut, .int .i64 k.torn, .int .i64 k.since, .bool k.down, .int .i64 0] 61 (0, 0)) D9 z2).trans z5
  have hg5 := (H.out.below hBA).cell.2.2.2.2.2
  have hs5 : (w9.alloc (.cells #[.slice (some ⟨D9, 0, none⟩) k.data.length c9, .int .i64 k.cut, .int .i64 k.torn, .int .i64 k.since, .bool k.down, .int .i64 0] 61 (0, 0))).cell? ⟨w9.heap.size, 5, none⟩ = some (.int .i64 0) := by rw [cell_of_row _ _ _ _ _ _ hM]; rfl
  have hf5 := frozen_of_row _ _ 5 _ _ hM
  generalize w9.alloc (.cells #[.slice (some ⟨D9, 0, none⟩) k.data.length c9, .int .i64 k.cut, .int .i64 k.torn, .int .i64 k.since, .bool k.down, .int .i64 0] 61 (0, 0)) = w10 at *
  have cl := sload_any ⟨g, 5, none⟩ k.all w10.drew hg5
  have cs := sstore_any ⟨w9.heap.size, 5, none⟩ k.all 0 w10.drew hs5 hf5
  have HZ := Lib.hid (And.intro hM (And.intro hBA (And.intro hDA (And.intro z1 (And.intro z2 (And.intro z3 z4))))))
  have CL := Lib.hid cl
  have CS := Lib.hid cs
  clear hC9 hB9 hM hBA hDA z1 z2 z3 z4 z5 ho9 hb9 KY HCS HCK HCB HCO HFB hC2 hg5 hs5 hf5 cl cs
  go_upto_region 2 with fail
  go_region_law (first
    | (go_simp; go_at_call 25; (with_reducible refine CL.out.mono ?_); rintro e wx ⟨rfl, rfl⟩)
    | (go_simp; go_at_call 27; (with_reducible refine CS.out.mono ?_); rintro e wx ⟨rfl, rfl⟩))
  all_goals
    have hm := (setCell_heap HZ.out.1 5 (.int .i64 k.all))
    have hD : D9 ≠ w9.heap.size := by have := HZ.out.2.2.2.2.1; omega
    have hd := (Below.heap_setCell w10 ⟨w9.heap.size, 5, none⟩ (.int .i64 k.all) D9 hD).trans HZ.out.2.2.1
    have hb := HZ.out.2.1.setCell (p := ⟨w9.heap.size, 5, none⟩) hz9 (.int .i64 k.all)
    have HF := Lib.hid (And.intro hm (And.intro hd hb))
    clear hm hd hb hD
    go_wp2
    go_ret
    refine ⟨w9.heap.size, D9, c9, R9, rfl, ⟨H.out.ok, ?_, ?_, HF.out.2.1⟩, HF.out.2.2.drew, hz9, HZ.out.2.2.2.1⟩
    · rw [← HLN.out]; exact ⟨HZ.out.2.2.2.2.2.1, by have := HZ.out.2.2.2.2.2.2; unfold maxLen at this; omega⟩
    · refine Eq.trans (show _ = _ from HF.out.1) ?_
      unfold Dk.cells
      rw [← HLN.out]; rfl
end Go.Proofs.Ytolkofnlihbncaa
