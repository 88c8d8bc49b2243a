/- A store in memory: its struct; the digest's constants are laid once. -/
import Derived.Test.YtnbefiaeihialaaGreatWalI
import Derived.Test.YtnbefiaeihialaaGreatOnc
import Derived.Test.YtnbefiaeihialaaGreatSecP
import Derived.Deep.MidRow
import Derived.Deep.WholeRow
import Derived.Deep.RegionLawGrows
import Derived.Maps.OwnSet
set_option linter.unusedVariables false
set_option linter.unusedSimpArgs false
namespace Go.Proofs.YtnbefiaeihialaaGreat
open Go.RowKit
def tabF : List Int := [1116352408, 1899447441, 3049323471, 3921009573, 961987163, 1508970993, 2453635748, 2870763221, 3624381080, 310598401, 607225278, 1426881987, 1925078388, 2162078206, 2614888103, 3248222580, 3835390401, 4022224774, 264347078, 604807628, 770255983, 1249150122, 1555081692, 1996064986, 2554220882, 2821834349, 2952996808, 3210313671, 3336571891, 3584528711, 113926993, 338241895, 666307205, 773529912, 1294757372, 1396182291, 1695183700, 1986661051, 2177026350, 2456956037, 2730485921, 2820302411, 3259730800, 3345764771, 3516065817, 3600352804, 4094571909, 275423344, 430227734, 506948616, 659060556, 883997877, 958139571, 1322822218, 1537002063, 1747873779, 1955562222, 2024104815, 2227730452, 2361852424, 2428436474, 2756734187, 3204031479, 3329325298]
def zeroT : List Int := List.replicate 64 0
theorem tabF_len : tabF.length = 64 := rfl
theorem run_storeAt_at {P : Program} {w : World} (ty : TypeId) (g o : Nat) (cells : List Value) (t : TypeId) (cur : Array Value) (hg : w.heap[g]? = some (.cells cur t (0, 0))) (hl : o + cells.length ≤ cur.size) (hi : (P.info? ty).map (·.size) = some cells.length) (h1 : ∀ v ∈ cells, v.oneCell' = true) :
    (Instr.storeAt ty (.pointer (some ⟨g, o, none⟩)) (.agg cells.toArray)).run P w = .ok () (w.setRow g (cur.toList.take o ++ cells ++ cur.toList.drop (o + cells.length)).toArray) := by
  have := run_storeCells_at (P := P) g o t cells 0 cur w hg (by omega) h1
  cases hq : P.info? ty with
  | none => simp [hq] at hi
  | some i =>
    have hs : cells.length = i.size := by simp [hq] at hi; omega
    simp only [Nat.add_zero] at this
    have hv : (storeVar ty ⟨g, o, none⟩ (.agg cells.toArray)).run P w = .ok () (w.setRow g (cur.toList.take o ++ cells ++ cur.toList.drop (o + cells.length)).toArray) := by
      simp [storeVar, sizeOf, typeInfo, hq, Value.cells, hs] at this ⊢
      exact this
    simp only [Instr.storeAt, Instr.sureAddr, Sem.run_bind, Sem.run_pure, Result.andThen_ok, hv]
theorem wp_store_at {P : Program} {op : Oper} {a : Act} {w : World} {K : Act → World → Prop} {Q : Exit → Act → World → Prop} (ty : TypeId) (x y : Operand) (ho : op.op = .store ty x y)
    (g o : Nat) (cells : List Value) (hx : a.eval x = .pointer (some ⟨g, o, none⟩)) (hy : a.eval y = .agg cells.toArray)
    (t : TypeId) (cur : Array Value) (hg : w.heap[g]? = some (.cells cur t (0, 0))) (hl : o + cells.length ≤ cur.size) (hi : (P.info? ty).map (·.size) = some cells.length) (h1 : ∀ v ∈ cells, v.oneCell' = true)
    (h : K (a.put op.dst undef) (w.setRow g (cur.toList.take o ++ cells ++ cur.toList.drop (o + cells.length)).toArray)) : op.wp P a w K Q := by
  unfold Oper.wp execOp
  simp only [ho, hx, hy, run_storeAt_at ty g o cells t cur hg hl hi h1, Sem.run_bind, Sem.run_pure, Result.andThen_ok]
  exact h
theorem wpList_store_at {P : Program} {ops : Array Oper} {rest : List Oper} {op : Oper} {a : Act} {w : World} {Q : Exit → Act → World → Prop} (hgd : op.guard = none) (ty : TypeId) (x y : Operand) (ho : op.op = .store ty x y)
    (g o : Nat) (cells : List Value) (hx : a.eval x = .pointer (some ⟨g, o, none⟩)) (hy : a.eval y = .agg cells.toArray)
    (t : TypeId) (cur : Array Value) (hg : w.heap[g]? = some (.cells cur t (0, 0))) (hl : o + cells.length ≤ cur.size) (hi : (P.info? ty).map (·.size) = some cells.length) (h1 : ∀ v ∈ cells, v.oneCell' = true)
    (h : wpList P ops Q rest (a.put op.dst undef) (w.setRow g (cur.toList.take o ++ cells ++ cur.toList.drop (o + cells.length)).toArray)) : wpList P ops Q (op :: rest) a w :=
  wpList_plain hgd fun _ hK => wp_store_at ty x y ho g o cells hx hy t cur hg hl hi h1 (hK _ _ h)
theorem step_store_at {P : Program} {ops : Array Oper} {E : Prop} {op : Oper} {a : Act} {w : World} {K : Act → World → Prop} {Q : Exit → Act → World → Prop} (hgd : op.guard = none) (ty : TypeId) (x y : Operand) (ho : op.op = .store ty x y)
    (g o : Nat) (cells : List Value) (hx : a.eval x = .pointer (some ⟨g, o, none⟩)) (hy : a.eval y = .agg cells.toArray)
    (t : TypeId) (cur : Array Value) (hg : w.heap[g]? = some (.cells cur t (0, 0))) (hl : o + cells.length ≤ cur.size) (hi : (P.info? ty).map (·.size) = some cells.length) (h1 : ∀ v ∈ cells, v.oneCell' = true)
    (h : K (a.put op.dst undef) (w.setRow g (cur.toList.take o ++ cells ++ cur.toList.drop (o + cells.length)).toArray)) : if Region.wanted op (yielded ops a.tmps) = true then op.wp P a w K Q else E := by
  rw [if_pos (by simp [Region.wanted, hgd])]
  exact wp_store_at ty x y ho g o cells hx hy t cur hg hl hi h1 h
theorem w32_one (l : List Int) : ∀ v ∈ w32 l, v.oneCell' = true := by
  intro v hv
  obtain ⟨x, _, rfl⟩ := List.mem_map.1 hv
  rfl
theorem tabC_len : (w32 tabF).length = 64 := by rw [w32_len]; rfl
theorem setRow_new_at (w : World) (cur : Array Value) (l : List Value) (t : TypeId) (h : cur.size = l.length) : (w.alloc (.cells cur t (0, 0))).setRow w.heap.size (cur.toList.take 0 ++ l ++ cur.toList.drop (0 + l.length)).toArray = w.alloc (.cells l.toArray t (0, 0)) := by
  rw [World.setRow_alloc_new, List.take_zero, List.nil_append, List.drop_eq_nil_of_le (by rw [Array.length_toList, h, Nat.zero_add]; exact Nat.le_refl _), List.append_nil]
set_option maxRecDepth 100000 in
set_option maxHeartbeats 8000000 in
theorem const_any (w : World) : Calls Tryz.prog 54 #[] w fun e w' => e = .returned (.agg (w32 tabF).toArray) ∧ w' = w.alloc (.cells (w32 tabF).toArray 102 (0, 0)) := by
  go_enter Tryz.func54, Tryz.ntmps54
  go_wp2_with (refine wpList_store_at rfl 102 _ _ rfl w.heap.size 0 (w32 tabF) rfl rfl 102 _ (heap_alloc_new w _) (by rw [tabC_len]; exact Nat.le_refl 64) (by rw [tabC_len]; kernel_rfl) (w32_one _) ?_)
  rw [setRow_new_at w _ _ _ (by rw [tabC_len]; rfl)]
  (try simp only [Exit.inBlock, Exit.then])
  exact bodyPost_ret (results_cell_row rfl _ _ w.heap.size 102 _ (0, 0) _ rfl (heap_alloc_new w _) Tryz.underlying102 rfl (by kernel_rfl)) rfl ⟨rfl, rfl⟩
/-- A store's cells: its disk, its numbers, its map, the lock of the constants, the constants. -/
def stC (g : Nat) (st : St) (mb : Nat) (d m : Int) (tab : List Int) : List Value :=
  [.pointer (some ⟨g, 0, none⟩), .int .i64 st.from_, .int .i64 st.half, .int .i64 st.side, .int .i64 st.gen, .int .i64 st.next, .int .i64 st.free, .map (some mb), .int .u32 d, .int .i32 m, .int .u32 0] ++ w32 tab
/-- In memory. -/
def StB (w : World) (s g : Nat) (st : St) (mb : Nat) (d m : Int) (tab : List Int) : Prop := w.heap[s]? = some (.cells (stC g st mb d m tab).toArray 104 (0, 0))
theorem set_arr (l : List Value) (i : Nat) (v : Value) : l.toArray.setIfInBounds i v = (l.set i v).toArray := by
  apply Array.ext'
  rw [Array.toList_setIfInBounds]
theorem StB.cells {w : World} {s g : Nat} {st : St} {mb : Nat} {d m : Int} {tab : List Int} (h : StB w s g st mb d m tab) :
    w.cell? ⟨s, 0, none⟩ = some (.pointer (some ⟨g, 0, none⟩)) ∧ w.cell? ⟨s, 1, none⟩ = some (.int .i64 st.from_) ∧ w.cell? ⟨s, 2, none⟩ = some (.int .i64 st.half) ∧ w.cell? ⟨s, 3, none⟩ = some (.int .i64 st.side) ∧ w.cell? ⟨s, 4, none⟩ = some (.int .i64 st.gen) ∧ w.cell? ⟨s, 5, none⟩ = some (.int .i64 st.next) ∧ w.cell? ⟨s, 6, none⟩ = some (.int .i64 st.free) ∧ w.cell? ⟨s, 7, none⟩ = some (.map (some mb)) ∧ w.cell? ⟨s, 8, none⟩ = some (.int .u32 d) ∧ w.cell? ⟨s, 9, none⟩ = some (.int .i32 m) := by
  refine ⟨?_, ?_, ?_, ?_, ?_, ?_, ?_, ?_, ?_, ?_⟩ <;> rw [cell_of_row _ _ _ _ _ _ h] <;> rfl
theorem StB.free {w : World} {s g : Nat} {st : St} {mb : Nat} {d m : Int} {tab : List Int} (h : StB w s g st mb d m tab) (i : Nat) : w.frozen? ⟨s, i, none⟩ = false := frozen_of_row _ _ _ _ _ h
theorem StB.tab {w : World} {s g : Nat} {st : St} {mb : Nat} {d m : Int} {tab : List Int} (h : StB w s g st mb d m tab) {j : Nat} (hj : j < tab.length) : w.cell? ⟨s, 11 + j, none⟩ = some (.int .u32 (nth tab j)) := by
  rw [cell_of_row _ _ _ _ _ _ h, List.getElem?_toArray]
  unfold stC
  rw [List.getElem?_append_right (by simp)]
  show (w32 tab)[11 + j - 11]? = _
  rw [show 11 + j - 11 = j by omega, w32_at hj]
theorem StB.lt {w : World} {s g : Nat} {st : St} {mb : Nat} {d m : Int} {tab : List Int} (h : StB w s g st mb d m tab) : s < w.heap.size := lt_of_block h
theorem StB.eff {w w' : World} {s g : Nat} {st : St} {mb : Nat} {d m : Int} {tab : List Int} (h : StB w s g st mb d m tab) {S : Nat → Prop} (he : Eff S w w') (hn : ¬ S s) : StB w' s g st mb d m tab := he.heap h hn
theorem StB.below {w w' : World} {s g : Nat} {st : St} {mb : Nat} {d m : Int} {tab : List Int} (h : StB w s g st mb d m tab) (hb : Below w.heap.size w w') : StB w' s g st mb d m tab := (hb.block _ h.lt).trans h
theorem StB.setD {w : World} {s g : Nat} {st : St} {mb : Nat} {d m : Int} {tab : List Int} (h : StB w s g st mb d m tab) (x : Int) : StB (w.setCell ⟨s, 8, none⟩ (.int .u32 x)) s g st mb x m tab := (setCell_heap h 8 _).trans (by rw [set_arr]; rfl)
theorem StB.setL {w : World} {s g : Nat} {st : St} {mb : Nat} {d m : Int} {tab : List Int} (h : StB w s g st mb d m tab) (x : Int) : StB (w.setCell ⟨s, 9, none⟩ (.int .i32 x)) s g st mb d x tab := (setCell_heap h 9 _).trans (by rw [set_arr]; rfl)
theorem StB.setT {w : World} {s g : Nat} {st : St} {mb : Nat} {d m : Int} {tab : List Int} (h : StB w s g st mb d m tab) (ht : tab.length = 64) :
    StB (w.setRow s ((stC g st mb d m tab).toArray.toList.take 11 ++ w32 tabF ++ (stC g st mb d m tab).toArray.toList.drop (11 + (w32 tabF).length)).toArray) s g st mb d m tabF := by
  unfold StB
  rw [setRow_heap w s _ _ _ _ h]
  have e : (stC g st mb d m tab).toArray.toList = stC g st mb d m tab := rfl
  rw [e]
  congr 3
  have e2 : (stC g st mb d m tab).drop (11 + (w32 tabF).length) = [] := by
    refine List.drop_eq_nil_of_le ?_
    unfold stC
    rw [List.length_append, tabC_len, w32_len, ht]
    exact Nat.le_refl _
  rw [e2, List.append_nil]; rfl
end Go.Proofs.YtnbefiaeihialaaGreat
