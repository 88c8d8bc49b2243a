/- Package header: folded. -/
import Derived.Test.YtdaekoapkclliaaDoorHdrG
set_option linter.unusedVariables false
set_option linter.unusedSimpArgs false
namespace Go.Proofs.YtdaekoapkclliaaDoor
open Go.RowKit
theorem size_alloc (w : World) (o : Obj) : (w.alloc o).heap.size = w.heap.size + 1 := by
  show (w.heap.push o).size = _
  rw [Array.size_push]
def bss (l : List ByteArray) : List Bs := l.map (·.data.toList)
theorem bss_len (l : List ByteArray) : (bss l).length = l.length := List.length_map ..
theorem bss_app (a b : List ByteArray) : bss (a ++ b) = bss a ++ bss b := List.map_append ..
theorem bss_get {l : List ByteArray} {k : Nat} (h : k < l.length) : (bss l).getD k [] = l[k].data.toList := by
  unfold bss; rw [List.getD_eq_getElem?_getD, List.getElem?_map, List.getElem?_eq_getElem h]; rfl
theorem putL_stp (f : Bool) (D : List ByteArray) (x wd : ByteArray) : (bss (putL f D x wd).1, (putL f D x wd).2.data.toList) = stp f (bss D, x.data.toList) wd.data.toList := by
  unfold putL stp
  have e1 : (wd.size ≠ 0) ↔ (wd.data.toList ≠ []) := by rw [← bsize, Ne, Ne, List.length_eq_zero_iff]
  have e2 : x.data.toList.length = x.size := bsize x
  have e3 : wd.data.toList.length = wd.size := bsize wd
  simp only [e2, e3]
  by_cases h : f = false ∧ wd.size ≠ 0 ∧ 78 < x.size + 1 + wd.size
  · rw [if_pos h, if_pos ⟨h.1, e1.1 h.2.1, h.2.2⟩]; simp [bss]
  · rw [if_neg h, if_neg (fun q => h ⟨q.1, e1.2 q.2.1, q.2.2⟩)]; simp
theorem foldS_one (n : Bs) (ws : List Bs) : ∀ k, (foldS n ws k).1.length ≤ k
  | 0 => Nat.le_refl _
  | k + 1 => by
    have ih := foldS_one n ws k
    rw [foldS]; unfold stp; split
    · rw [List.length_append]; simp; omega
    · simp; omega
theorem bw_take (ws : List Bs) (k : Nat) : (bw (ws.take k)).length ≤ (bw ws).length := by
  have : bw ws = bw (ws.take k) ++ bw (ws.drop k) := by rw [← bw_app, List.take_append_drop]
  rw [this, List.length_append]; omega
theorem foldS_last (n b : Bs) {k : Nat} (h : k ≤ (wd b).length) : (foldS n (wd b) k).2.length ≤ n.length + b.length + 2 := by
  have h1 := congrArg List.length (foldS_flat n (wd b) k h)
  have h2 := bw_take (wd b) k
  rw [bw_wd] at h2
  simp only [List.length_append, List.length_cons, List.length_nil] at h1 h2
  omega
def blankB : ByteArray := ⟨#[32]⟩
def wordsB (s : ByteArray) : List ByteArray := Lib.splitB blankB 0 (Lib.countB s blankB) s
theorem wordsB_wd (s : ByteArray) : bss (wordsB s) = wd s.data.toList := by
  unfold wordsB bss
  rw [Lib.splitB_data]
  exact split_wd _
theorem wordsB_len (s : ByteArray) : (wordsB s).length = Lib.countB s blankB + 1 := Lib.splitB_all blankB (by decide) 0 _ s rfl
def FoldedP (n b : Bs) (w : World) (e : Ending) (w' : World) : Prop :=
  ∃ (ls : List ByteArray) (g cap : Nat), e = .returned (.slice (some ⟨g, 0, none⟩) ls.length cap) ∧ SSo w' w.heap.size (.slice (some ⟨g, 0, none⟩) ls.length cap) ls ∧ bss ls = foldL n b ∧ Below w.heap.size w w'
set_option maxRecDepth 100000 in
set_option maxHeartbeats 8000000 in
theorem folded_any (nm bd : ByteArray) (w : World) (h1 : nm.size ≤ 100000) (h2 : bd.size ≤ 100000) (hmax : MaxAt w) :
    Calls Tryd.prog 22 #[.agg #[.string nm, .string bd]] w (FoldedP nm.data.toList bd.data.toList w) := by
  obtain ⟨N0, hN0⟩ : ∃ N0 : ByteArray, N0 = nm ++ ⟨#[58]⟩ := ⟨_, rfl⟩
  have hNd : N0.data.toList = nm.data.toList ++ [58] := by rw [hN0]; simp
  have hNz : N0.size = nm.size + 1 := by rw [hN0, ByteArray.size_append]; rfl
  have hns : ¬ (9223372036854775807 < nm.size + 1) := by omega
  -- the world ahead of the words
  obtain ⟨W0, hW0⟩ : ∃ W0 : World, W0 = ((w.alloc (.cells #[.string nm, .string bd] 38 (0, 0))).alloc (.cells #[.string N0] 9 (0, 0))).alloc (.cells #[.slice (some ⟨w.heap.size + 1, 0, none⟩) 1 1] 48 (0, 0)) := ⟨_, rfl⟩
  have hbx0 : W0.heap[w.heap.size]? = some (.cells #[.string nm, .string bd] 38 (0, 0)) := by
    rw [hW0, Below.heap_alloc _ _ _ (by rw [size_alloc, size_alloc]; omega), heap_alloc2_old]
  have hbx1 : W0.heap[w.heap.size + 1]? = some (.cells #[.string N0] 9 (0, 0)) := by
    rw [hW0, Below.heap_alloc _ _ _ (by rw [size_alloc, size_alloc]; omega), heap_alloc2_new]
  have hbx2 : W0.heap[w.heap.size + 1 + 1]? = some (.cells #[.slice (some ⟨w.heap.size + 1, 0, none⟩) 1 1] 48 (0, 0)) := by
    have := heap_alloc_new ((w.alloc (.cells #[.string nm, .string bd] 38 (0, 0))).alloc (.cells #[.string N0] 9 (0, 0))) (.cells #[.slice (some ⟨w.heap.size + 1, 0, none⟩) 1 1] 48 (0, 0))
    rw [size_alloc, size_alloc] at this
    rw [hW0]; exact this
  have hb0 : Below w.heap.size w W0 := by
    rw [hW0]
    exact (((Below.refl _ w).alloc (Nat.le_refl _) _).alloc (by rw [size_alloc]; omega) _).alloc (by rw [size_alloc, size_alloc]; omega) _
  have hz0 : W0.heap.size = w.heap.size + 3 := by rw [hW0]; simp only [size_alloc]
  have hL0 : LsAt W0 w.heap.size (w.heap.size + 1 + 1) (w.heap.size + 1) 1 [] N0 :=
    ⟨hbx2, ⟨rfl, .inr ⟨w.heap.size + 1, 1, #[.string N0], rfl, by omega, hbx1, Nat.le_refl _, by unfold maxLen; omega, rfl, rfl⟩⟩, by omega, by omega⟩
  have q0 : W0.cell? ⟨w.heap.size, 0, none⟩ = some (.string nm) := by rw [cell_of_row _ _ _ _ _ _ hbx0]; rfl
  have q1 : W0.cell? ⟨w.heap.size, 1, none⟩ = some (.string bd) := by rw [cell_of_row _ _ _ _ _ _ hbx0]; rfl
  have q2 : W0.cell? ⟨w.heap.size + 1 + 1, 0, none⟩ = some (.slice (some ⟨w.heap.size + 1, 0, none⟩) 1 1) := by rw [cell_of_row _ _ _ _ _ _ hbx2]; rfl
  have hm0 := hmax.below hb0
  have hbe := empty_sz (x := bd)
  have HN := Lib.hid (And.intro hNd hNz)
  have HW := Lib.hid (And.intro hb0 (And.intro hz0 (And.intro hL0 hm0)))
  clear hNd hNz hbx0 hbx1 hbx2 hb0 hz0 hL0 hm0 hmax
  by_cases hz : bd.size = 0
  · rw [decide_eq_true hz] at hbe
    have hbe2 : (bd.toList != []) = false := by rw [bne, hbe]; rfl
    have hbd : bd.data.toList = [] := List.eq_nil_of_length_eq_zero (by rw [bsize]; exact hz)
    have hfin : FoldedP nm.data.toList bd.data.toList w (.returned (.slice (some ⟨w.heap.size + 1, 0, none⟩) 1 1)) W0 :=
      ⟨[N0], w.heap.size + 1, 1, rfl, HW.out.2.2.1.own, by rw [hbd]; unfold foldL bss; rw [if_pos rfl]; simp [HN.out.1], HW.out.1⟩
    have HF := Lib.hid hfin
    clear hz hbd hfin
    go_enter Tryd.func22, Tryd.ntmps22
    go_upto_region 2 with fail
    rw [← hN0, ← hW0]
    clear hN0 hW0
    go_wp2
    go_ret
    exact HF.out
  · rw [decide_eq_false hz] at hbe
    have hbe2 : (bd.toList != []) = true := by rw [bne, hbe]; rfl
    obtain ⟨mm, hmm⟩ := HW.out.2.2.2
    have c1 := Tryd.strings_Split bd blankB mm W0 (by omega) hmm (by decide)
    have hlen := wordsB_len bd
    have hwd := wordsB_wd bd
    obtain ⟨ws, hws⟩ : ∃ ws, ws = wordsB bd := ⟨_, rfl⟩
    have hcz : Lib.countB bd blankB + 1 ≤ 100001 := by
      have := Lib.countB_le blankB (by decide) bd.size bd (Nat.le_refl _); omega
    have hneb : bd.data.toList ≠ [] := fun e => hz (by rw [← bsize, e]; rfl)
    rw [show Lib.splitB blankB 0 (Lib.countB bd blankB) bd = ws from hws.symm] at c1
    rw [← hws] at hlen hwd
    generalize hcn : Lib.countB bd blankB + 1 = cn at *
    unfold blankB at c1
    have HS := Lib.hid (And.intro hlen (And.intro hwd hneb))
    clear hlen hwd hws hz hmm hneb hcn
    go_enter Tryd.func22, Tryd.ntmps22
    go_upto_region 2 with fail
    rw [← hN0, ← hW0]
    clear hN0 hW0
    go_wp2_with fail
    refine c1.mono ?_
    rintro e w5 ⟨rfl, hw5⟩
    have hG : w5.heap[W0.heap.size]? = some (.cells (ws.map Value.string).toArray 9 (0, 0)) := by rw [hw5]; exact heap_alloc_new _ _
    have hb5 : Below W0.heap.size W0 w5 := by rw [hw5]; exact (Below.refl _ _).alloc (Nat.le_refl _) _
    have hL5 : LsAt w5 w.heap.size (w.heap.size + 1 + 1) (w.heap.size + 1) 1 [] N0 := by
      have h := HW.out.2.2.1
      refine ⟨(hb5.block _ (lt_of_block h.var)).trans h.var, ?_, h.ne, Nat.le_trans h.base hb5.size⟩
      exact Eff.own (Eff.of_below hb5 (fun _ => False)) h.own (fun _ _ x => x)
    have H5 := Lib.hid (And.intro hG (And.intro hL5 (HW.out.1.trans (hb5.mono HW.out.1.size))))
    have hGz : w.heap.size + 3 = W0.heap.size := HW.out.2.1.symm
    clear hw5 hG hb5 hL5 c1 q0 q1 q2
    generalize W0.heap.size = G at *
    have hcn0 : (0 : Int) ≤ (cn : Int) := by omega
    go_wp2
    go_loopw [19] (fun i wr => ∃ (k : Nat) (D : List ByteArray) (x : ByteArray) (g cap : Nat), k ≤ cn ∧ i = .int .i64 k ∧ LsAt wr w.heap.size (w.heap.size + 1 + 1) g cap D x ∧ Hid ((bss D, x.data.toList) = foldS nm.data.toList (wd bd.data.toList) k) ∧ g ≠ G ∧ wr.heap[G]? = some (.cells (ws.map Value.string).toArray 9 (0, 0)) ∧ Below w.heap.size w wr) (fun i _ => cn - (intOf i).toNat)
    case atStart => exact ⟨0, [], N0, _, _, Nat.zero_le _, rfl, H5.out.2.1, Lib.hid (by rw [HN.out.1]; rfl), by omega, H5.out.1, H5.out.2.2⟩
    case round =>
      obtain ⟨k, D, x, g, cap, hk, rfl, hL, hst, hgG, hG, hbl⟩ := hrel
      have hk0 : (0 : Int) ≤ (k : Int) := by omega
      by_cases hlt : k < cn
      · have hki : (k : Int) < (cn : Int) := by omega
        have hkw : k < ws.length := by rw [HS.out.1]; exact hlt
        have hc0 : wr.cell? ⟨G, k, none⟩ = some (.string ws[k]) := by rw [cell_of_row _ _ _ _ _ _ hG, List.getElem?_toArray, List.getElem?_map, List.getElem?_eq_getElem hkw]; rfl
        have hkd := bss_get hkw
        rw [HS.out.2.1] at hkd
        have hsum := (wd_sum bd.data.toList).1
        have hwz : ws[k].size ≤ 100000 := by
          have hm : ws[k].data.toList ∈ wd bd.data.toList := by rw [← HS.out.2.1]; exact List.mem_map.2 ⟨_, List.getElem_mem hkw, rfl⟩
          have h9 := hsum _ hm
          rw [bsize, bsize] at h9; omega
        have hwl : (wd bd.data.toList).length = cn := by rw [← HS.out.2.1, bss_len]; exact HS.out.1
        have hDl : D.length ≤ k := by
          have h9 := foldS_one nm.data.toList (wd bd.data.toList) k
          rw [← hst.out, bss_len] at h9; exact h9
        have hxl : x.size ≤ 200002 := by
          have h9 := foldS_last nm.data.toList bd.data.toList (k := k) (by omega)
          rw [← hst.out] at h9
          simp only [bsize] at h9; omega
        generalize hwk : ws[k] = wk at *
        obtain ⟨fk, hfk⟩ : ∃ fk : Bool, fk = (k == 0) := ⟨_, rfl⟩
        have c2 := put_any fk w.heap.size (w.heap.size + 1 + 1) g cap D x wk wr hL (by omega) (by omega) (by omega)
        have hnx : (bss (putL fk D x wk).1, (putL fk D x wk).2.data.toList) = foldS nm.data.toList (wd bd.data.toList) (k + 1) := by
          rw [putL_stp, hst.out, foldS, hkd, hfk]
        have hfki : ((k : Int) == 0) = fk := by
          rw [hfk, Bool.eq_iff_iff, beq_iff_eq, beq_iff_eq]; omega
        have hGlt := lt_of_block hG
        have hLl := hL.lt
        have hbase := hL.own.len.2.1
        have HX := Lib.hid (And.intro hnx (And.intro hG (And.intro hbl (And.intro hGlt (And.intro hLl hbase)))))
        generalize putL fk D x wk = P at *
        clear hkw hkd hsum hwz hwl hDl hxl hwk hnx hG hbl hL hst hfk hGlt hLl hbase
        go_wp2_with fail
        refine c2.mono ?_
        rintro e w6 ⟨rfl, g', cap', hL6, hg6, hE6⟩
        have hG6 : w6.heap[G]? = some (.cells (ws.map Value.string).toArray 9 (0, 0)) := hE6.heap HX.out.2.1 (by rintro (h | h) <;> omega)
        have hb6 : Below w.heap.size w w6 := Eff.below HX.out.2.2.1 hE6 HX.out.2.2.1.size (fun j hj => by
          have := HX.out.2.2.2.2.2
          rcases hj with h | h <;> omega)
        have hgG6 : g' ≠ G := by
          have := HX.out.2.2.2.1
          rcases hg6 with h | h <;> omega
        have HF := Lib.hid (And.intro hL6 (And.intro hG6 (And.intro hb6 hgG6)))
        clear c2 hL6 hg6 hE6 hG6 hb6 hgG6
        go_wp2
        go_roundw
        case rel => exact ⟨k + 1, P.1, P.2, g', cap', by omega, by go_num, HF.out.1, Lib.hid HX.out.1, HF.out.2.2.2, HF.out.2.1, HF.out.2.2.1⟩
        case measure => simp [intOf]; omega
      · obtain rfl : k = cn := by omega
        have hjE : ¬ (k : Int) < (k : Int) := by omega
        have e1 : wr.cell? ⟨w.heap.size + 1 + 1, 0, none⟩ = some (.slice (some ⟨g, 0, none⟩) (D.length + 1) cap) := by rw [cell_of_row _ _ _ _ _ _ hL.var]; rfl
        have hfin : FoldedP nm.data.toList bd.data.toList w (.returned (.slice (some ⟨g, 0, none⟩) (D.length + 1) cap)) wr := by
          refine ⟨D ++ [x], g, cap, by rw [List.length_append]; rfl, by rw [List.length_append]; exact hL.own, ?_, hbl⟩
          have hwl : (wd bd.data.toList).length = k := by rw [← HS.out.2.1, bss_len]; exact HS.out.1
          unfold foldL
          rw [if_neg HS.out.2.2, hwl, ← hst.out, bss_app]; rfl
        have HF := Lib.hid hfin
        clear hfin hL hst hG hbl
        go_wp2
        go_ret
        exact HF.out
end Go.Proofs.YtdaekoapkclliaaDoor
