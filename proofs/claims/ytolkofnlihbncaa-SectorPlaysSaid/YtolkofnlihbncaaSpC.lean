/- The document's disk: New. -/
import Derived.Test.YtolkofnlihbncaaSpB
import Derived.Deep.RegionLawGrows
import Derived.Deep.Cut
set_option linter.unusedVariables false
set_option linter.unusedSimpArgs false
namespace Go.Proofs.Ytolkofnlihbncaa
open Go.RowKit
/-- append(v, x) of one text, as one step of a region that draws. -/
theorem step_app1s {w : World} {ops : Array Oper} {o : Oper} {a : Go.Act} {K : Go.Act → World → Prop} {Q : Exit → Go.Act → World → Prop} {E : Prop} (hgd : o.guard = none) (s x : Operand)
    (ho : o.op = .call { callee := .builtin .append, args := #[s, x], argTypes := #[42, 42] })
    (base : Nat) (v : Value) (l : List ByteArray) (hs : a.eval s = v) (c : ByteArray) (hown : SSo w base v l)
    (hx : a.eval x = .slice (some ⟨w.heap.size, 0, none⟩) 1 1)
    (hlen : l.length + 1 ≤ 1000000000000) (hbase : base ≤ w.heap.size)
    (h : ∀ v' w', SSo w' base v' (l ++ [c]) → Eff (fun k => v.ownBlock = some k) w w' → K (a.put o.dst v') w') : if Region.wanted o (yielded ops a.tmps) = true then Oper.wp Try.prog o a (w.alloc (.cells #[.string c] 9 (0, 0))) K Q else E := by
  have hw : Region.wanted o (yielded ops a.tmps) = true := by simp [Region.wanted, hgd]
  rw [if_pos hw]
  obtain ⟨i0, hi, hz0, hz1, hz2⟩ := info_parts Try.infoStr
  obtain ⟨v', w', hrun, r1, r2, _⟩ := run_append_own (P := Try.prog) (w.alloc (.cells #[.string c] 9 (0, 0))) base 42 o.type 9 i0 (.string ⟨#[]⟩) 1 16 Try.underlying42 hi hz0 hz1 hz2 rfl (by decide) v l.length (l.map Value.string) (SSo.alloc hown _) ⟨w.heap.size, 0, none⟩ 1 1 [.string c] rfl (by
    intro j u hu
    have h1 := heap_alloc_new w (.cells #[.string c] 9 (0, 0))
    match j, hu with
    | 0, hu =>
      simp at hu
      subst hu
      rw [show (⟨w.heap.size, 0, none⟩ : Addr).add 0 = ⟨w.heap.size, 0, none⟩ by rfl, cell_of_row _ _ _ _ _ _ h1]
      rfl
    | n + 1, hu => simp at hu) (by intro u hu; simp at hu; subst hu; rfl) (by unfold maxLen; omega) (by omega) (by simp; omega)
  unfold Oper.wp
  simp [execOp, ho, resolve, invoke, builtin, hs, hx, hrun, Result.andThen]
  refine h v' w' ?_ ?_
  · unfold SSo
    rw [List.length_append, List.map_append]
    exact r1
  · exact ((Eff.refl _ w).alloc _).grown r2 (fun k hk _ => hk)
def zsec : ByteArray := ⟨(fill []).toArray⟩
theorem newL (n : Nat) : secL (newK n) = List.replicate n zsec := by
  apply List.ext_getElem
  · rw [secL_len, List.length_replicate]; rfl
  · intro i h1 h2
    rw [secL_len] at h1
    have hi : i < n := h1
    rw [secL_get, List.getElem_replicate]
    unfold secS zsec
    congr 2
    apply List.ext_getElem?
    intro j
    have e : sec (newK n) i = ((zeros (n * 64)).drop (i * 64)).take 64 := rfl
    rw [e]
    unfold zeros fill
    rw [List.getElem?_take, List.getElem?_drop, List.getElem?_replicate]
    show _ = (List.replicate 64 (0 : UInt8))[j]?
    rw [List.getElem?_replicate]
    by_cases hj : j < 64
    · rw [if_pos hj, if_pos (by omega), if_pos hj]
    · rw [if_neg hj, if_neg hj]
theorem SSo.mono {w : World} {base base' : Nat} {v : Value} {l : List ByteArray} (h : SSo w base v l) (hb : base' ≤ base) : SSo w base' v l := by
  refine ⟨h.1, ?_⟩
  rcases h.2 with hn | ⟨g, cap, cur, hv, hg, hh, r⟩
  · exact .inl hn
  · exact .inr ⟨g, cap, cur, hv, by omega, hh, r⟩
theorem SSo.eff' {w : World} {base : Nat} {v : Value} {l : List ByteArray} (h : SSo w base v l) {p : Addr} {x : Value} (hp : p.block < base) : SSo (w.setCell p x) base v l :=
  Eff.own ((Eff.refl (fun k => k = p.block) w).setCell (p := p) (fun _ => rfl) x) h (fun k hk e => by have h1 := (World.ownsRow.lt h k hk).1; have h2 : k = p.block := e; omega)
theorem six_set {w : World} {b : Nat} {T : TypeId} {x0 x1 x2 x3 x4 x5 : Value} (h : w.heap[b]? = some (.cells #[x0, x1, x2, x3, x4, x5] T (0, 0))) (a0 a1 a2 a3 a4 a5 : Value) :
    ((((((w.setCell ⟨b, 0, none⟩ a0).setCell ⟨b, 1, none⟩ a1).setCell ⟨b, 2, none⟩ a2).setCell ⟨b, 3, none⟩ a3).setCell ⟨b, 4, none⟩ a4).setCell ⟨b, 5, none⟩ a5).heap[b]? = some (.cells #[a0, a1, a2, a3, a4, a5] T (0, 0)) ∧
    Eff (· = b) w ((((((w.setCell ⟨b, 0, none⟩ a0).setCell ⟨b, 1, none⟩ a1).setCell ⟨b, 2, none⟩ a2).setCell ⟨b, 3, none⟩ a3).setCell ⟨b, 4, none⟩ a4).setCell ⟨b, 5, none⟩ a5) := by
  have h0 := setCell_heap h 0 a0
  have h1 := setCell_heap h0 1 a1
  have h2 := setCell_heap h1 2 a2
  have h3 := setCell_heap h2 3 a3
  have h4 := setCell_heap h3 4 a4
  have h5 := setCell_heap h4 5 a5
  refine ⟨h5.trans (by rfl), ?_⟩
  have r0 := (Eff.refl (· = b) w).setAt 0 a0
  have r1 := r0.setAt 1 a1
  have r2 := r1.setAt 2 a2
  have r3 := r2.setAt 3 a3
  have r4 := r3.setAt 4 a4
  exact r4.setAt 5 a5
/-- What holds while the sectors are laid. -/
structure NwI (w0 : World) (b : Nat) (A : Option Addr) (n c : Nat) (L : List ByteArray) (W : World) : Prop where
  zero : W.heap[b]? = some (.cells #[.slice none 0 0, .int .i64 0, .int .i64 0, .int .i64 0, .bool false, .int .i64 0] 44 (0, 0))
  var : W.heap[b + 1]? = some (.cells #[.slice A n c, .int .i64 0, .int .i64 0, .int .i64 0, .bool false, .int .i64 0] 44 (0, 0))
  own : SSo W (b + 2) (.slice A n c) L
  below : Below b w0 W
theorem NwI.keep {w0 W W' : World} {b n c : Nat} {A : Option Addr} {L : List ByteArray} (h : NwI w0 b A n c L W) {S : Nat → Prop} (he : Eff S W W') (h0 : ¬ S b) (h1 : ¬ S (b + 1)) (hS : ∀ x, S x → b ≤ x) (ho : SSo W' (b + 2) (.slice A n c) L) : NwI w0 b A n c L W' :=
  ⟨he.heap h.zero h0, he.heap h.var h1, ho, by
    have hb := h.below
    exact ⟨he.os.trans hb.os, he.tape.trans hb.tape, he.output.trans hb.output, Nat.le_trans hb.size he.size, fun k hk => (he.block k (by have := lt_of_block h.zero; omega) (fun x => by have := hS k x; omega)).trans (hb.block k hk)⟩⟩
theorem NwI.mono {w0 W W' : World} {b n c : Nat} {A : Option Addr} {L : List ByteArray} (h : NwI w0 b A n c L W) (hb : Below W.heap.size W W') : NwI w0 b A n c L W' :=
  h.keep (Eff.of_below hb (fun _ => False)) id id (fun _ x => x.elim) (h.own.below hb)
theorem NwI.drew {w0 W : World} {b n c : Nat} {A : Option Addr} {L : List ByteArray} (h : NwI w0 b A n c L W) : NwI w0 b A n c L W.drew := h.mono (Below.refl _ _).drew
theorem NwI.cell {w0 W : World} {b n c : Nat} {A : Option Addr} {L : List ByteArray} (h : NwI w0 b A n c L W) : W.cell? ⟨b + 1, 0, none⟩ = some (.slice A n c) ∧ W.frozen? ⟨b + 1, 0, none⟩ = false ∧ b + 2 ≤ W.heap.size ∧ ∀ o, (W.alloc o).cell? ⟨b + 1, 0, none⟩ = some (.slice A n c) :=
  ⟨by rw [cell_of_row _ _ _ _ _ _ h.var]; rfl, frozen_of_row _ _ _ _ _ h.var, lt_of_block h.var, fun o => by rw [cell_of_row _ _ _ _ _ _ ((Below.heap_alloc _ _ _ (lt_of_block h.var)).trans h.var)]; rfl⟩
theorem NwI.app {w0 W W' : World} {b n c n' c' : Nat} {A A' : Option Addr} {L L' : List ByteArray} (h : NwI w0 b A n c L W) (ho : SSo W' (b + 2) (.slice A' n' c') L') (he : Eff (fun k => (Value.slice A n c).ownBlock = some k) W W') :
    W'.cell? ⟨b + 1, 0, none⟩ = some (.slice A n c) ∧ W'.frozen? ⟨b + 1, 0, none⟩ = false ∧ NwI w0 b A' n' c' L' (W'.setCell ⟨b + 1, 0, none⟩ (.slice A' n' c')) := by
  have hge : ∀ x, (Value.slice A n c).ownBlock = some x → b + 2 ≤ x := fun x hx => (World.ownsRow.lt h.own x hx).1
  have h1 := he.heap h.zero (fun x => by have := hge _ x; omega)
  have h2 := he.heap h.var (fun x => by have := hge _ x; omega)
  refine ⟨by rw [cell_of_row _ _ _ _ _ _ h2]; rfl, frozen_of_row _ _ _ _ _ h2, ⟨(Below.heap_setCell _ _ _ _ (by show b ≠ b + 1; omega)).trans h1, (setCell_heap h2 0 _).trans (by rfl), ?_, ?_⟩⟩
  · exact ho.eff' (p := ⟨b + 1, 0, none⟩) (by show b + 1 < b + 2; omega)
  · have hb := h.below
    have hs := he.size
    have hlt := lt_of_block h.zero
    have hb2 : Below b w0 W' := ⟨he.os.trans hb.os, he.tape.trans hb.tape, he.output.trans hb.output, Nat.le_trans hb.size hs, fun k hk => (he.block k (by omega) (fun x => by have := hge k x; omega)).trans (hb.block k hk)⟩
    exact hb2.setCell (p := ⟨b + 1, 0, none⟩) (by show b ≤ b + 1; omega) _
set_option maxRecDepth 100000 in
set_option maxHeartbeats 4000000 in
theorem rnew_any (n : Nat) (w : World) (h1 : 1 ≤ n) (h2 : n ≤ 4096) :
    Calls Try.prog 16 #[.int .i64 n] w fun e w' => ∃ sl, e = .returned (dkV sl (newK n)) ∧ SSo w' w.heap.size sl (secL (newK n)) ∧ Below w.heap.size w w' := by
  have hn0 : (0 : Int) ≤ (n : Int) := by omega
  have cf := fun W => rfill_any ⟨#[]⟩ W (by decide)
  change ∀ W, Calls _ _ _ _ fun e w' => e = .returned (.string zsec) ∧ _ at cf
  rw [newL]
  have h0 : NwI w w.heap.size none 0 0 [] ((w.alloc (.cells #[.slice none 0 0, .int .i64 0, .int .i64 0, .int .i64 0, .bool false, .int .i64 0] 44 (0, 0))).alloc (.cells #[.slice none 0 0, .int .i64 0, .int .i64 0, .int .i64 0, .bool false, .int .i64 0] 44 (0, 0))) :=
    ⟨(Below.heap_alloc _ _ _ (by simp)).trans (heap_alloc_new w _), heap2_new w _ _, SSo.nil _ _, below2 w _ _⟩
  have H0 := Lib.hid h0
  have CF := Lib.hid cf
  clear h0 cf
  go_enter Try.func16, Try.ntmps16
  go_wp2
  generalize ((w.alloc (.cells #[.slice none 0 0, .int .i64 0, .int .i64 0, .int .i64 0, .bool false, .int .i64 0] 44 (0, 0))).alloc (.cells #[.slice none 0 0, .int .i64 0, .int .i64 0, .int .i64 0, .bool false, .int .i64 0] 44 (0, 0))) = w2 at *
  go_loopw [4] (fun i wr => ∃ (j : Nat) (A : Option Addr) (c : Nat), j ≤ n ∧ i = .int .i64 j ∧ Hid (NwI w w.heap.size A j c (List.replicate j zsec) wr)) (fun i _ => n - (intOf i).toNat)
  case atStart => exact ⟨0, none, 0, Nat.zero_le _, rfl, H0⟩
  case round =>
    obtain ⟨j, A, c, hj, rfl, hrl⟩ := hrel
    have hj0 : (0 : Int) ≤ (j : Int) := by omega
    by_cases hlt : j < n
    · have hji : (j : Int) < (n : Int) := by omega
      obtain ⟨m0, f0, z0, q0⟩ := hrl.out.cell
      have KEY := Lib.hid (fun W W' (h : NwI w w.heap.size A j c (List.replicate j zsec) W) (hb : Below W.heap.size W W') => (⟨(h.mono hb).cell, h.mono hb⟩ : _ ∧ NwI w w.heap.size A j c (List.replicate j zsec) W'))
      have HI := hrl.out
      go_upto_region 5 with fail
      go_region_law (first
        | (go_simp; go_at_call 26; (with_reducible refine (CF.out _).mono ?_); rintro e w9 ⟨rfl, hb9⟩; obtain ⟨⟨m1, f1, z1, q1⟩, hP⟩ := KEY.out _ _ (by repeat (first | assumption | with_reducible refine NwI.drew ?_)) hb9)
        | (refine step_app1s rfl (.tmp 11) (.tmp 13) rfl (w.heap.size + 2) _ (List.replicate j zsec) rfl zsec (by exact hP.own) rfl (by rw [List.length_replicate]; omega) z1 ?_; intro v9 w9 ho he; obtain ⟨A9, c9, rfl⟩ := ho.shape; obtain ⟨m2, f2, hN⟩ := hP.app ho he))
      all_goals
        have el : (List.replicate j zsec ++ [zsec]).length = j + 1 := by simp
        have er : List.replicate j zsec ++ [zsec] = List.replicate (j + 1) zsec := List.replicate_succ'.symm
        rw [el] at hN
        try rw [el]
        rw [er] at hN
        have HF := Lib.hid hN
        clear ho he m2 f2 hN el er m0 f0 q0 HI
        go_wp2
        go_roundw
        case rel => exact ⟨j + 1, A9, c9, by omega, by go_num, HF⟩
        case measure => simp [intOf]; omega
    · obtain rfl : j = n := by omega
      have hjE : ¬ (j : Int) < (j : Int) := by omega
      have hI := hrl.out
      have hvar := hI.var
      have hzero := hI.zero
      have HF := Lib.hid hI
      clear hrl hI
      have q0 := (cell_of_row _ _ 0 _ _ _ hvar)
      have q1 := (cell_of_row _ _ 1 _ _ _ hvar)
      have q2 := (cell_of_row _ _ 2 _ _ _ hvar)
      have q3 := (cell_of_row _ _ 3 _ _ _ hvar)
      have q4 := (cell_of_row _ _ 4 _ _ _ hvar)
      have q5 := (cell_of_row _ _ 5 _ _ _ hvar)
      have p0 := (cell_of_row _ _ 0 _ _ _ hzero)
      have p1 := (cell_of_row _ _ 1 _ _ _ hzero)
      have p2 := (cell_of_row _ _ 2 _ _ _ hzero)
      have p3 := (cell_of_row _ _ 3 _ _ _ hzero)
      have p4 := (cell_of_row _ _ 4 _ _ _ hzero)
      have p5 := (cell_of_row _ _ 5 _ _ _ hzero)
      have f0 := (frozen_of_row _ _ 0 _ _ hzero)
      have f1 := (frozen_of_row _ _ 1 _ _ hzero)
      have f2 := (frozen_of_row _ _ 2 _ _ hzero)
      have f3 := (frozen_of_row _ _ 3 _ _ hzero)
      have f4 := (frozen_of_row _ _ 4 _ _ hzero)
      have f5 := (frozen_of_row _ _ 5 _ _ hzero)
      have hcv : (loadVar 44 ⟨w.heap.size + 1, 0, none⟩).run Try.prog wr = .ok (.agg #[.slice A j c, .int .i64 0, .int .i64 0, .int .i64 0, .bool false, .int .i64 0]) wr := run_dk rfl hvar
      have HZ := Lib.hid hzero
      clear hcv hvar hzero
      go_wp2
      have hs6 := six_set HZ.out (.slice A j c) (.int .i64 0) (.int .i64 0) (.int .i64 0) (.bool false) (.int .i64 0)
      have hb5 := Eff.belowOne (w0 := w) HF.out.below hs6.2 (Nat.le_refl _)
      have ho5 := SSo.mono (Eff.own hs6.2 HF.out.own (fun k hk e => by have h1 := (World.ownsRow.lt HF.out.own k hk).1; have h2 : k = w.heap.size := e; omega)) (Nat.le_add_right w.heap.size 2)
      exact ret_dk1 rfl rfl rfl hs6.1 rfl ⟨_, rfl, ho5, hb5⟩
end Go.Proofs.Ytolkofnlihbncaa
