/- Rows of bytes out of a string's conversion: a frozen stretch lies behind them; append writes on. -/
import Derived.Test.YtnbefiaeihialaaGreatChg
import Derived.Lib.ConvBytes
import Derived.Lib.FrozenHead2
import Derived.Laws.IdiomCopy
set_option linter.unusedVariables false
set_option linter.unusedSimpArgs false
namespace Go.Proofs.YtnbefiaeihialaaGreat
open Go.RowKit
/-- A slice of bytes of the call's own; what of its row is frozen lies behind the row. -/
def BF (w : World) (base : Nat) (v : Value) (l : List UInt8) : Prop :=
  ∃ (g cap : Nat) (cur : Array Value) (fz : Nat × Nat), v = .slice (some ⟨g, 0, none⟩) l.length cap ∧ base ≤ g ∧ w.heap[g]? = some (.cells cur 5 fz) ∧ (∀ i, i < cur.size → ¬ (fz.1 ≤ i ∧ i < fz.2)) ∧ l.length ≤ cap ∧ cap ≤ maxLen ∧ cur.size = cap ∧ cur.toList.take l.length = bcells l
theorem BF.shape {w : World} {base : Nat} {v : Value} {l : List UInt8} (h : BF w base v l) : ∃ g cap, v = .slice (some ⟨g, 0, none⟩) l.length cap ∧ base ≤ g ∧ g < w.heap.size := by
  obtain ⟨g, cap, cur, fz, hv, hb, hg, _⟩ := h
  exact ⟨g, cap, hv, hb, lt_of_block hg⟩
theorem BF.keep {w w' : World} {base : Nat} {v : Value} {l : List UInt8} (h : BF w base v l) (hk : ∀ g cap, v = .slice (some ⟨g, 0, none⟩) l.length cap → w'.heap[g]? = w.heap[g]?) : BF w' base v l := by
  obtain ⟨g, cap, cur, fz, hv, hb, hg, r⟩ := h
  exact ⟨g, cap, cur, fz, hv, hb, (hk g cap hv).trans hg, r⟩
theorem BF.below {w w' : World} {base : Nat} {v : Value} {l : List UInt8} (h : BF w base v l) (hb : Below w.heap.size w w') : BF w' base v l := by
  obtain ⟨g, cap, hv, _, hl⟩ := h.shape
  exact h.keep fun g' cap' hv' => by
    rw [hv] at hv'
    injection hv' with e _ _
    injection e with e
    injection e with e
    subst e
    exact hb.block _ hl
theorem BF.upto {w w' : World} {base g n cap B : Nat} {l : List UInt8} (h : BF w base (.slice (some ⟨g, 0, none⟩) n cap) l) (hb : Below B w w') (hg : g < B) : BF w' base (.slice (some ⟨g, 0, none⟩) n cap) l :=
  h.keep fun g' cap' hv' => by
    injection hv' with e _ _
    injection e with e
    injection e with e
    subst e
    exact hb.block _ hg
theorem BF.max {w : World} {base g n cap : Nat} {l : List UInt8} (h : BF w base (.slice (some ⟨g, 0, none⟩) n cap) l) : l.length ≤ cap ∧ cap ≤ maxLen := by
  obtain ⟨g', cap', cur, fz, hv, _, _, _, h1, h2, _⟩ := h
  injection hv with _ _ e
  subst e
  exact ⟨h1, h2⟩
theorem BF.cell {w : World} {base g n cap : Nat} {l : List UInt8} (h : BF w base (.slice (some ⟨g, 0, none⟩) n cap) l) {j : Nat} (hj : j < l.length) : w.cell? ⟨g, j, none⟩ = some (.int .u8 l[j].toNat) := by
  obtain ⟨g', cap', cur, fz, hv, _, hg, _, _, _, _, ht⟩ := h
  injection hv with e _ _
  injection e with e
  injection e with e
  subst e
  have h1 := bcells_get hj
  rw [← ht, List.getElem?_take, if_pos hj] at h1
  rw [cell_of_row _ _ _ _ _ _ hg]
  simpa using h1
/-- []byte(s). -/
theorem BF.conv (w : World) (s : ByteArray) (hs : s.size ≤ 1000000000000) : BF (Lib.bytesWorld w 5 s) w.heap.size (.slice (some ⟨w.heap.size, 0, none⟩) s.size (grownCap w s.size 0 5)) s.data.toList := by
  have hge := grownCap_ge w s.size 0 5
  have hcm := grownCap_le_maxLen w s.size 0 5 (by unfold maxLen; omega)
  have hsz : (Lib.bytesCells w 5 s).size = grownCap w s.size 0 5 := by
    unfold Lib.bytesCells
    rw [Array.size_append, Array.size_map, Array.size_replicate]
    have e : s.data.size = s.size := rfl
    omega
  refine ⟨w.heap.size, grownCap w s.size 0 5, Lib.bytesCells w 5 s, ((Lib.bytesCells w 5 s).size, (Lib.bytesCells w 5 s).size + 1), by rw [bsize], Nat.le_refl _, ?_, fun i hi hh => by omega, by rw [bsize]; exact hge, hcm, hsz, ?_⟩
  · rw [Lib.bytesWorld_at_new]
  · unfold Lib.bytesCells
    rw [Array.toList_append, Array.toList_map, List.take_append_of_le_length (by rw [List.length_map]; exact Nat.le_refl _)]
    rw [List.take_of_length_le (by rw [List.length_map]; exact Nat.le_refl _)]
    rfl
theorem bytesWorld_below (w : World) (s : ByteArray) : Below w.heap.size w (Lib.bytesWorld w 5 s) := ⟨rfl, rfl, rfl, by rw [Lib.bytesWorld_size]; omega, fun k hk => Lib.bytesWorld_at_old w _ s k hk⟩
theorem setCells_here {g : Nat} {T : TypeId} {fz : Nat × Nat} : ∀ (vs : List Value) (o : Nat) (w : World) (cur : Array Value), w.heap[g]? = some (.cells cur T fz) → o + vs.length ≤ cur.size →
    (w.setCells g o vs).heap[g]? = some (.cells (cur.toList.take o ++ vs ++ cur.toList.drop (o + vs.length)).toArray T fz)
  | [], o, w, cur, h, _ => by
    show w.heap[g]? = _
    rw [h]; simp
  | v :: r, o, w, cur, h, hl => by
    have h1 := setCell_heap h o v
    have ih := setCells_here r (o + 1) (w.setCell ⟨g, o, none⟩ v) _ h1 (by rw [Array.size_setIfInBounds]; simp at hl; omega)
    show ((w.setCell ⟨g, o, none⟩ v).setCells g (o + 1) r).heap[g]? = _
    rw [ih, Array.toList_setIfInBounds]
    have hol : o < cur.toList.length := by rw [Array.length_toList]; simp at hl; omega
    congr 3
    rw [List.take_succ_eq_append_getElem (by rw [List.length_set]; exact hol), List.getElem_set_self, List.take_set_of_le (Nat.le_refl _)]
    rw [List.drop_set_of_lt (by omega)]
    simp [Nat.add_assoc, Nat.add_comm 1]
theorem setCells_other {g k : Nat} (hk : k ≠ g) : ∀ (vs : List Value) (o : Nat) (w : World), (w.setCells g o vs).heap[k]? = w.heap[k]?
  | [], _, _ => rfl
  | v :: r, o, w => (setCells_other hk r (o + 1) _).trans (Below.heap_setCell w ⟨g, o, none⟩ v k hk)
theorem setCells_below {B g : Nat} (hB : B ≤ g) {w0 : World} : ∀ (vs : List Value) (o : Nat) (w : World), Below B w0 w → Below B w0 (w.setCells g o vs)
  | [], _, _, h => h
  | v :: r, o, w, h => setCells_below hB r (o + 1) _ (h.setCell (p := ⟨g, o, none⟩) hB v)
theorem frozen_out {w : World} {g i : Nat} {cur : Array Value} {T : TypeId} {fz : Nat × Nat} (h : w.heap[g]? = some (.cells cur T fz)) (hi : ¬ (fz.1 ≤ i ∧ i < fz.2)) : w.frozen? ⟨g, i, none⟩ = false := by
  unfold World.frozen?
  rw [h]
  obtain ⟨a, b⟩ := fz
  show (decide (a ≤ i) && decide (i < b)) = false
  rw [← Bool.decide_and, decide_eq_false_iff_not]
  exact hi
/-- append onto such a row: what is appended has been read. -/
theorem BF.app {w : World} {base g n cap : Nat} {l : List UInt8} (h : BF w base (.slice (some ⟨g, 0, none⟩) n cap) l) (m : List UInt8) (args : Array TypeId) (ty : TypeId) (x : Value)
    (hroom : n + m.length ≤ cap → ∀ W, (storeCells ⟨g, n, none⟩ (bcells m)).run Tryz.prog w = .ok () W → (Builtin.append_ args ty #[.slice (some ⟨g, 0, none⟩) n cap, x]).run Tryz.prog w = .ok (.slice (some ⟨g, 0, none⟩) (n + m.length) cap) W)
    (hgrow : cap < n + m.length → (∀ j u, (bcells l)[j]? = some u → w.cell? ((⟨g, 0, none⟩ : Addr).add j) = some u) → (Builtin.append_ args ty #[.slice (some ⟨g, 0, none⟩) n cap, x]).run Tryz.prog w = .ok (.slice (some ⟨w.heap.size, 0, none⟩) (n + m.length) (grownCap w (n + m.length) cap 5)) (w.drew.alloc (.cells ((bcells l).toArray ++ (bcells m).toArray ++ Builtin.zeroCells (Value.int .u8 0).cells (grownCap w (n + m.length) cap 5 - (n + m.length))) 5)))
    (hbase : base ≤ w.heap.size) (hmax : n + m.length ≤ maxLen) :
    ∃ v' w', (Builtin.append_ args ty #[.slice (some ⟨g, 0, none⟩) n cap, x]).run Tryz.prog w = .ok v' w' ∧ BF w' base v' (l ++ m) ∧ Below base w w' := by
  have hcellall := fun j hj => h.cell (j := j) hj
  obtain ⟨g', cap', cur, fz, hv, hb, hg, hf, hlc, hcm, hcs, ht⟩ := h
  injection hv with e en ec
  injection e with e
  injection e with e
  subst e en ec
  by_cases hr : l.length + m.length ≤ cap
  · have hst := run_storeCells_cells (P := Tryz.prog) g l.length (bcells m) 0 w (fun j hj => by
        rw [bcells_length] at hj
        rw [Nat.add_zero, cell_of_row _ _ _ _ _ _ hg, Array.getElem?_eq_getElem (by omega)]; rfl) (fun j hj => by
        rw [bcells_length] at hj
        rw [Nat.add_zero]
        exact frozen_out hg (hf _ (by omega))) (bcells_one m)
    rw [Nat.add_zero] at hst
    refine ⟨_, _, hroom hr _ hst, ⟨g, cap, _, fz, by rw [List.length_append], hb, setCells_here (bcells m) l.length w cur hg (by rw [bcells_length]; omega), ?_, by rw [List.length_append]; omega, hcm, ?_, ?_⟩, setCells_below hb _ _ _ (Below.refl _ _)⟩
    · intro i hi
      refine hf i ?_
      have hi2 : i < min l.length cur.toList.length + m.length + (cur.toList.length - (l.length + m.length)) := by simpa [bcells_length, Nat.add_assoc] using hi
      have hcl : cur.toList.length = cur.size := by simp
      omega
    · have hcl : cur.toList.length = cur.size := by simp
      have e : (cur.toList.take l.length ++ bcells m ++ cur.toList.drop (l.length + (bcells m).length)).toArray.size = min l.length cur.toList.length + m.length + (cur.toList.length - (l.length + m.length)) := by simp [bcells_length, Nat.add_assoc]
      rw [e]; omega
    · show ((cur.toList.take l.length ++ bcells m) ++ _).take (l ++ m).length = _
      rw [ht, ← bcells_append, List.take_append_of_le_length (by rw [bcells_length]; exact Nat.le_refl _), List.take_of_length_le (by rw [bcells_length]; exact Nat.le_refl _)]
  · have hgr := hgrow (by omega) (fun j u hu => by
      have hj : j < l.length := by have := (List.getElem?_eq_some_iff.1 hu).1; rwa [bcells_length] at this
      rw [bcells_get hj] at hu
      injection hu with hu
      rw [← hu, show (⟨g, 0, none⟩ : Addr).add j = ⟨g, j, none⟩ by unfold Addr.add; split <;> simp_all]
      exact hcellall j hj)
    have hge := grownCap_ge w (l.length + m.length) cap 5
    have hcm2 := grownCap_le_maxLen w (l.length + m.length) cap 5 hmax
    refine ⟨_, _, hgr, ⟨w.heap.size, _, _, (0, 0), by rw [List.length_append], hbase, heap_alloc_new w.drew _, fun i _ hh => by have := hh.2; simp at this, by rw [List.length_append]; exact hge, hcm2, ?_, ?_⟩, ((Below.refl _ w).drew).alloc hbase _⟩
    · simp only [Array.size_append, List.size_toArray, bcells_length, size_zeroCells]
      have e : (Value.int IntKind.u8 0).cells.size = 1 := rfl
      rw [e]; omega
    · simp only [Array.toList_append, List.append_assoc]
      rw [← List.append_assoc, ← bcells_append, List.take_append_of_le_length (by rw [bcells_length]; exact Nat.le_refl _), List.take_of_length_le (by rw [bcells_length]; exact Nat.le_refl _)]
theorem zcells : (Value.int IntKind.u8 0).cells = #[Value.int .u8 0] := rfl
/-- append(v, c): one byte, in a new block. -/
theorem wp_bf1 {w : World} {ops : Array Oper} {rest : List Oper} {o : Oper} {a : Act} {Q : Exit → Act → World → Prop} (hgd : o.guard = none) (s x : Operand)
    (ho : o.op = .call { callee := .builtin .append, args := #[s, x], argTypes := #[73, 73] })
    (base : Nat) (v : Value) (l : List UInt8) (hs : a.eval s = v) (c : UInt8) (z : Int) (hz : z = (c.toNat : Int)) (hown : BF w base v l) (hx : a.eval x = .slice (some ⟨w.heap.size, 0, none⟩) 1 1)
    (hlen : l.length + 1 ≤ 1000000000000) (hbase : base ≤ w.heap.size)
    (h : ∀ v' w', BF w' base v' (l ++ [c]) → Below base w w' → wpList Tryz.prog ops Q rest (a.put o.dst v') w') : wpList Tryz.prog ops Q (o :: rest) a (w.alloc (.cells #[.int .u8 z] 5 (0, 0))) := by
  subst hz
  have hown2 := hown.below ((Below.refl _ w).alloc (Nat.le_refl _) (.cells #[.int .u8 (c.toNat : Int)] 5 (0, 0)))
  obtain ⟨i0, hi, hz0, hz1, hz2⟩ := info_parts Tryz.infoU8
  obtain ⟨g, cap, rfl, hb, hlt⟩ := hown2.shape
  have hnew : ∀ j u, (bcells [c])[j]? = some u → (w.alloc (.cells #[.int .u8 (c.toNat : Int)] 5 (0, 0))).cell? ((⟨w.heap.size, 0, none⟩ : Addr).add j) = some u := fun j u hu => by
    match j, hu with
    | 0, hu =>
      rw [show (⟨w.heap.size, 0, none⟩ : Addr).add 0 = ⟨w.heap.size, 0, none⟩ by rfl, cell_of_row _ _ _ _ _ _ (heap_alloc_new w _)]
      exact hu
    | j + 1, hu => simp [bcells] at hu
  have hsz : base ≤ (w.alloc (.cells #[.int .u8 (c.toNat : Int)] 5 (0, 0))).heap.size := by simp; omega
  obtain ⟨v', w', hr, h1, h2⟩ := hown2.app [c] #[73, 73] o.type (.slice (some ⟨w.heap.size, 0, none⟩) 1 1)
    (fun hroom W hst => by
      have hf := run_firstCells_some (P := Tryz.prog) (w.alloc (.cells #[.int .u8 (c.toNat : Int)] 5 (0, 0))) 1 1 ⟨w.heap.size, 0, none⟩ 1 1 (bcells [c]) rfl hnew
      have hroom' : l.length + 1 ≤ cap := hroom
      simp [Builtin.append_, run_underlying Tryz.underlying73, sizeOf, typeInfo, hi, hz1, Builtin.lenOf, hroom', hf, Addr.add_lit, hst])
    (fun hgr holds => by
      have := run_append_grow (P := Tryz.prog) (w.alloc (.cells #[.int .u8 (c.toNat : Int)] 5 (0, 0))) 73 o.type 5 i0 (.int .u8 0) Tryz.underlying73 hi hz0 ⟨g, 0, none⟩ l.length cap (bcells l) (by rw [hz1, bcells_length, Nat.mul_one]) holds ⟨w.heap.size, 0, none⟩ 1 1 (bcells [c]) (by rw [hz1]; rfl) hnew hgr (by omega) (by rw [hz2]; exact growslice_fits hgr (by omega))
      exact this)
    hsz (by show l.length + 1 ≤ maxLen; unfold maxLen; omega)
  refine wpList_plain hgd fun K hK => ?_
  unfold Oper.wp execOp
  simp only [ho, resolve, invoke, builtin, Sem.run_bind, Sem.run_pure, Result.andThen_ok, List.map_toArray, List.map_cons, List.map_nil, hs, hx, hr]
  exact hK _ _ (h v' w' h1 (((Below.refl _ w).alloc hbase _).trans h2))
/-- append(v, t...): a string. -/
theorem wp_bfs {w : World} {ops : Array Oper} {rest : List Oper} {o : Oper} {a : Act} {Q : Exit → Act → World → Prop} (hgd : o.guard = none) (s x : Operand)
    (ho : o.op = .call { callee := .builtin .append, args := #[s, x], argTypes := #[73, 9] })
    (base : Nat) (v : Value) (l : List UInt8) (hs : a.eval s = v) (t : ByteArray) (hown : BF w base v l) (hx : a.eval x = .string t)
    (hlen : l.length + t.size ≤ 1000000000000) (hbase : base ≤ w.heap.size)
    (h : ∀ v' w', BF w' base v' (l ++ t.data.toList) → Below base w w' → wpList Tryz.prog ops Q rest (a.put o.dst v') w') : wpList Tryz.prog ops Q (o :: rest) a w := by
  obtain ⟨i0, hi, hz0, hz1, hz2⟩ := info_parts Tryz.infoU8
  obtain ⟨g, cap, rfl, hb, hlt⟩ := hown.shape
  have hsc : Lib.strCells t = bcells t.data.toList := by unfold Lib.strCells bcells; rfl
  have hsz : t.data.toList.length = t.size := bsize t
  obtain ⟨v', w', hr, h1, h2⟩ := hown.app t.data.toList #[73, 9] o.type (.string t)
    (fun hroom W hst => by
      have hf := Lib.run_firstCells_string (P := Tryz.prog) w 1 t
      rw [hsc] at hf
      rw [hsz] at hroom ⊢
      simp [Builtin.append_, run_underlying Tryz.underlying73, run_underlying Tryz.underlying9, sizeOf, typeInfo, hi, hz1, Builtin.lenOf, hroom, hf, Addr.add_lit, hst])
    (fun hgr holds => by
      rw [hsz] at hgr ⊢
      have := Lib.run_append_grow_string (P := Tryz.prog) w 73 9 o.type 5 i0 (.int .u8 0) Tryz.underlying73 Tryz.underlying9 hi hz0 ⟨g, 0, none⟩ l.length cap (bcells l) (by rw [hz1, bcells_length, Nat.mul_one]) holds t hgr (by omega) (by rw [hz2]; exact growslice_fits hgr (by omega))
      rw [hsc] at this
      exact this)
    hbase (by rw [hsz]; unfold maxLen; omega)
  refine wpList_plain hgd fun K hK => ?_
  unfold Oper.wp execOp
  simp only [ho, resolve, invoke, builtin, Sem.run_bind, Sem.run_pure, Result.andThen_ok, List.map_toArray, List.map_cons, List.map_nil, hs, hx, hr]
  exact hK _ _ (h v' w' h1 h2)
end Go.Proofs.YtnbefiaeihialaaGreat
