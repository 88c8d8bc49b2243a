/- The reference of package quota: Take and Give. -/
import Derived.Test.YtoekcknppphnjaaQuotaK
import Derived.StillTailTactics
set_option linter.unusedVariables false
set_option linter.unusedSimpArgs false
namespace Go.Proofs.Ytoekcknppphnjaa
open Go.RowKit
/-- The reference's book in memory: two rows of the call's own. -/
structure RefB (w : World) (gB cB gT cT : Nat) (k : Book) : Prop where
  b : OwnI w 0 (.slice (some ⟨gB, 0, none⟩) k.L cB) (k.B.take k.L)
  t : OwnI w 0 (.slice (some ⟨gT, 0, none⟩) k.L cT) (k.T.take k.L)
theorem pwdrewN {B : Nat} {w W : World} (h : Below B w W) (n : Nat) : Below B w (W.drewN n) := ⟨h.os, h.tape, h.output, h.size, h.block⟩
theorem OwnI.cell {w : World} {base g c L : Nat} {xs : List Int} (h : OwnI w base (.slice (some ⟨g, 0, none⟩) L c) xs) (i : Nat) (hi : i < xs.length) (hl : xs.length = L) : w.cell? ⟨g, i, none⟩ = some (.int .i64 (nth xs i)) := by
  unfold OwnI at h
  rw [hl] at h
  rw [h.cellAt i (by omega), List.getElem?_map, get_nth hi]; rfl
theorem nth_take {l : List Int} {n i : Nat} (h : i < n) : nth (l.take n) i = nth l i := by rw [nth_eq, nth_eq, List.getElem?_take, if_pos h]
theorem RefB.cellB {w : World} {gB cB gT cT : Nat} {k : Book} (h : RefB w gB cB gT cT k) (ho : k.Ok) (i : Nat) (hi : i < k.L) : w.cell? ⟨gB, i, none⟩ = some (.int .i64 (nth k.B i)) := by
  have := ho.lb; have := ho.le
  have := h.b.cell i (by simp; omega) (by simp; omega)
  rwa [nth_take hi] at this
theorem RefB.cellT {w : World} {gB cB gT cT : Nat} {k : Book} (h : RefB w gB cB gT cT k) (ho : k.Ok) (i : Nat) (hi : i < k.L) : w.cell? ⟨gT, i, none⟩ = some (.int .i64 (nth k.T i)) := by
  have := ho.lt; have := ho.le
  have := h.t.cell i (by simp; omega) (by simp; omega)
  rwa [nth_take hi] at this
theorem OwnI.below {w w' : World} {base : Nat} {v : Value} {xs : List Int} (h : OwnI w base v xs) (hb : Below w.heap.size w w') : OwnI w' base v xs := (Eff.of_below hb (fun _ => False)).own h fun _ _ x => x
theorem RefB.below {w w' : World} {gB cB gT cT : Nat} {k : Book} (h : RefB w gB cB gT cT k) (hb : Below w.heap.size w w') : RefB w' gB cB gT cT k := ⟨h.b.below hb, h.t.below hb⟩
def RefPost (k k' : Book) (code : Int) (gB cB gT _cT : Nat) (w : World) (e : Ending) (w' : World) : Prop :=
  Below w.heap.size w w' ∧ ∃ gT' cT', e = .returned (.tuple #[.agg #[.slice (some ⟨gB, 0, none⟩) k.L cB, .slice (some ⟨gT', 0, none⟩) k.L cT'], .int .i64 code]) ∧ RefB w' gB cB gT' cT' k' ∧ (gT' = gT ∨ w.heap.size ≤ gT')
theorem refPost_same {k : Book} {code : Int} {gB cB gT cT : Nat} {w w' : World} (h : RefB w gB cB gT cT k) (hb : Below w.heap.size w w') :
    RefPost k k code gB cB gT cT w (.returned (.tuple #[.agg #[.slice (some ⟨gB, 0, none⟩) k.L cB, .slice (some ⟨gT, 0, none⟩) k.L cT], .int .i64 code])) w' :=
  ⟨hb, gT, cT, rfl, h.below hb, .inl rfl⟩
set_option maxHeartbeats 1000000 in
theorem refTake_none (gB cB gT cT : Nat) (k : Book) (i n : Int) (w : World) (h : RefB w gB cB gT cT k) (hi : ¬ (0 ≤ i ∧ i < k.L)) (_hL : k.L ≤ 16) :
    Calls Try.prog 11 #[.agg #[.slice (some ⟨gB, 0, none⟩) k.L cB, .slice (some ⟨gT, 0, none⟩) k.L cT], .int .i64 i, .int .i64 n] w (RefPost k k 4 gB cB gT cT w) := by
  have HP : Hid (∀ w', Below w.heap.size w w' → _) := fun w' hb => refPost_same (code := 4) h hb
  clear h
  generalize k.L = L at *
  rcases Int.lt_or_le i 0 with hn | hn
  all_goals
    try have hge : (L : Int) ≤ i := by omega
    clear hi
    go_enter Try.func11, Try.ntmps11
    go_wp2
    refine bodyPost_ret (v := .tuple #[.agg #[.slice (some ⟨gB, 0, none⟩) L cB, .slice (some ⟨gT, 0, none⟩) L cT], .int .i64 4]) ?_ rfl (HP.out _ ?_)
    · simp [results, Try.results11, go_sem]
    · repeat (first | exact Below.refl _ _ | apply Below.drew | apply pwdrewN | (refine Below.alloc ?_ (by simp; try omega) _) | (refine Below.setCell ?_ (by simp; try omega) _))
set_option maxHeartbeats 1000000 in
theorem refTake_neg (gB cB gT cT : Nat) (k : Book) (i : Nat) (n : Int) (w : World) (h : RefB w gB cB gT cT k) (hi : i < k.L) (_hL : k.L ≤ 16) (hn : n < 0) :
    Calls Try.prog 11 #[.agg #[.slice (some ⟨gB, 0, none⟩) k.L cB, .slice (some ⟨gT, 0, none⟩) k.L cT], .int .i64 i, .int .i64 n] w (RefPost k k 1 gB cB gT cT w) := by
  have HP : Hid (∀ w', Below w.heap.size w w' → _) := fun w' hb => refPost_same (code := 1) h hb
  clear h
  generalize k.L = L at *
  have hi1 : (0 : Int) ≤ (i : Int) := by omega
  have hi2 : (i : Int) < (L : Int) := by omega
  go_enter Try.func11, Try.ntmps11
  go_wp2
  all_goals
    refine bodyPost_ret (v := .tuple #[.agg #[.slice (some ⟨gB, 0, none⟩) L cB, .slice (some ⟨gT, 0, none⟩) L cT], .int .i64 1]) ?_ rfl (HP.out _ ?_)
    · simp [results, Try.results11, go_sem]
    · repeat (first | exact Below.refl _ _ | apply Below.drew | apply pwdrewN | (refine Below.alloc ?_ (by simp; try omega) _) | (refine Below.setCell ?_ (by simp; try omega) _))
set_option maxHeartbeats 1000000 in
theorem refTake_full (gB cB gT cT : Nat) (k : Book) (i : Nat) (n : Int) (w : World) (h : RefB w gB cB gT cT k) (ho : k.Ok) (hi : i < k.L) (hn : 0 ≤ n) (hf : nth k.B i - nth k.T i < n) :
    Calls Try.prog 11 #[.agg #[.slice (some ⟨gB, 0, none⟩) k.L cB, .slice (some ⟨gT, 0, none⟩) k.L cT], .int .i64 i, .int .i64 n] w (RefPost k k 5 gB cB gT cT w) := by
  have HP : Hid (∀ w', Below w.heap.size w w' → _) := fun w' hb => refPost_same (code := 5) h hb
  have hL := ho.le
  have c1 := h.cellB ho i hi
  have c2 := h.cellT ho i hi
  have n1 : gB < w.heap.size := World.block_lt_of_cell? _ _ c1
  have n2 : gT < w.heap.size := World.block_lt_of_cell? _ _ c2
  obtain ⟨i1, i2, i3⟩ := ho.inv i
  clear h ho
  generalize k.L = L at *
  generalize nth k.B i = bb at *
  generalize nth k.T i = tt at *
  have hi1 : (0 : Int) ≤ (i : Int) := by omega
  have hi2 : (i : Int) < (L : Int) := by omega
  have e1 : ∀ o1 o2, ((w.alloc o1).alloc o2).cell? ⟨gB, i, none⟩ = some (.int .i64 bb) := fun o1 o2 => by rw [World.cell?_alloc_lt _ _ _ (by simp; omega), World.cell?_alloc_lt _ _ _ (by simpa using n1), c1]
  have e2 : ∀ o1 o2, ((w.alloc o1).alloc o2).cell? ⟨gT, i, none⟩ = some (.int .i64 tt) := fun o1 o2 => by rw [World.cell?_alloc_lt _ _ _ (by simp; omega), World.cell?_alloc_lt _ _ _ (by simpa using n2), c2]
  clear c1 c2
  go_enter Try.func11, Try.ntmps11
  go_wp2
  go_quiet (fail)
  go_wp2
  all_goals
    refine bodyPost_ret (v := .tuple #[.agg #[.slice (some ⟨gB, 0, none⟩) L cB, .slice (some ⟨gT, 0, none⟩) L cT], .int .i64 5]) ?_ rfl (HP.out _ ?_)
    · simp [results, Try.results11, go_sem]
    · repeat (first | exact Below.refl _ _ | apply Below.drew | apply pwdrewN | (refine Below.alloc ?_ (by simp; try omega) _) | (refine Below.setCell ?_ (by simp; try omega) _))
set_option maxHeartbeats 1000000 in
theorem refTake_ok (gB cB gT cT : Nat) (k : Book) (i : Nat) (n : Int) (w : World) (h : RefB w gB cB gT cT k) (ho : k.Ok) (hi : i < k.L) (hz : takeC k i n = 0) :
    Calls Try.prog 11 #[.agg #[.slice (some ⟨gB, 0, none⟩) k.L cB, .slice (some ⟨gT, 0, none⟩) k.L cT], .int .i64 i, .int .i64 n] w (RefPost k (takeB k i n) 0 gB cB gT cT w) := by
  obtain ⟨hn, hf⟩ := (takeC_zero hi).1 hz
  have hL := ho.le
  have c1 := h.cellB ho i hi
  have c2 := h.cellT ho i hi
  have n1 : gB < w.heap.size := World.block_lt_of_cell? _ _ c1
  have n2 : gT < w.heap.size := World.block_lt_of_cell? _ _ c2
  obtain ⟨i1, i2, i3⟩ := ho.inv i
  have hlt := ho.lt
  have HW : Hid (∀ w', Below w.heap.size w w' → w.heap.size ≤ w'.heap.size → Calls Try.prog 20 #[.agg #[.slice (some ⟨gB, 0, none⟩) k.L cB, .slice (some ⟨gT, 0, none⟩) k.L cT], .int .i64 i, .int .i64 (nth k.T i + n)] w'
      (WithPost (some ⟨gB, 0, none⟩) k.L cB k.L ((k.T.take k.L).set i (nth k.T i + n)) w')) := fun w' hb _ =>
    with_any (some ⟨gB, 0, none⟩) k.L cB gT k.L cT (k.T.take k.L) i (nth k.T i + n) w' (by simp; omega) ((h.t.below hb)) hi hL
  have HT : Hid ((k.T.take k.L).set i (nth k.T i + n) = (takeB k i n).T.take k.L) := by
    unfold takeB; rw [if_pos hz]; simp only [Book.set]; rw [tk_in hi, List.take_set]; rfl
  have HB : Hid (∀ w', Below w.heap.size w w' → OwnI w' 0 (.slice (some ⟨gB, 0, none⟩) k.L cB) (k.B.take k.L)) := fun w' hb => h.b.below hb
  have HS : Hid ((takeB k i n).L = k.L ∧ (takeB k i n).B = k.B) := take_same
  generalize takeB k i n = k2 at *
  clear h ho hz
  generalize hLL : k.L = L at *
  generalize nth k.B i = bb at *
  generalize nth k.T i = tt at *
  have hi1 : (0 : Int) ≤ (i : Int) := by omega
  have hi2 : (i : Int) < (L : Int) := by omega
  have HLL := Lib.hid hLL
  have HLT := Lib.hid hlt
  clear hLL hlt
  have e1 : ∀ o1 o2, ((w.alloc o1).alloc o2).cell? ⟨gB, i, none⟩ = some (.int .i64 bb) := fun o1 o2 => by rw [World.cell?_alloc_lt _ _ _ (by simp; omega), World.cell?_alloc_lt _ _ _ (by simpa using n1), c1]
  have e2 : ∀ o1 o2, ((w.alloc o1).alloc o2).cell? ⟨gT, i, none⟩ = some (.int .i64 tt) := fun o1 o2 => by rw [World.cell?_alloc_lt _ _ _ (by simp; omega), World.cell?_alloc_lt _ _ _ (by simpa using n2), c2]
  clear c1 c2
  go_enter Try.func11, Try.ntmps11
  go_wp2
  go_quiet (fail)
  generalize hW : ((w.alloc (.cells #[.slice (some ⟨gB, 0, none⟩) L cB, .slice (some ⟨gT, 0, none⟩) L cT] 30)).alloc (.cells #[.slice none 0 0, .slice none 0 0] 30)).drewN nq = W
  have p0 : W.cell? ⟨w.heap.size, 0, none⟩ = some (.slice (some ⟨gB, 0, none⟩) L cB) := by rw [← hW, World.cell?_drewN, World.cell?_alloc_lt _ _ _ (by simp)]; simp
  have p1 : W.cell? ⟨w.heap.size, 1, none⟩ = some (.slice (some ⟨gT, 0, none⟩) L cT) := by rw [← hW, World.cell?_drewN, World.cell?_alloc_lt _ _ _ (by simp)]; simp
  have p2 : W.cell? ⟨gT, i, none⟩ = some (.int .i64 tt) := by rw [← hW, World.cell?_drewN, e2]
  have hWW : Below w.heap.size w W := by rw [← hW]; exact pwdrewN (((Below.refl _ w).alloc (Nat.le_refl _) _).alloc (by simp) _) nq
  have hW1 : W.heap[w.heap.size + 1]? = some (.cells #[.slice none 0 0, .slice none 0 0] 30 (0, 0)) := by rw [← hW]; exact heap_alloc2_new _ _ _
  have hsz : w.heap.size + 2 ≤ W.heap.size := by rw [← hW]; show _ ≤ ((w.alloc _).alloc _).heap.size; simp
  have HH := Lib.hid hW
  clear hW e1 e2
  go_wp2
  go_still_tail 9, (by kernel_rfl)
  change wpList _ _ _ _ _ W.drew
  have c9 := HW.out W.drew hWW.drew (by simp; omega)
  go_wp2_with fail
  refine c9.mono ?_
  rintro e w3 ⟨hb3, g, c, rfl, hown⟩
  have e3 : w3.heap[w.heap.size + 1]? = some (.cells #[.slice none 0 0, .slice none 0 0] 30 (0, 0)) := (hb3.block _ (by simp; omega)).trans hW1
  have r0 := cell_of_row w3 _ 0 _ _ _ e3
  have r1 := cell_of_row w3 _ 1 _ _ _ e3
  have s0 := frozen_of_row w3 _ 0 _ _ e3
  have s1 := frozen_of_row w3 _ 1 _ _ e3
  simp at r0 r1
  have hb33 : Below w.heap.size w w3 := hWW.drew.trans (hb3.mono (by simp; omega))
  have hgN : W.heap.size ≤ g ∧ ¬ g = w.heap.size + 1 := by
    obtain ⟨g', cp, e, hb, _⟩ := World.ownsRow.form hown (by have := HLT.out; simp; omega)
    simp at e hb
    obtain ⟨rfl, _⟩ := e
    exact ⟨by omega, by omega⟩
  have HF : Hid (RefPost k k2 0 gB cB gT cT w (.returned (.tuple #[.agg #[.slice (some ⟨gB, 0, none⟩) L cB, .slice (some ⟨g, 0, none⟩) L c], .int .i64 0]))
      ((w3.setCell ⟨w.heap.size + 1, 0, none⟩ (.slice (some ⟨gB, 0, none⟩) L cB)).setCell ⟨w.heap.size + 1, 1, none⟩ (.slice (some ⟨g, 0, none⟩) L c))) := by
    have hb4 : Below w.heap.size w ((w3.setCell ⟨w.heap.size + 1, 0, none⟩ (.slice (some ⟨gB, 0, none⟩) L cB)).setCell ⟨w.heap.size + 1, 1, none⟩ (.slice (some ⟨g, 0, none⟩) L c)) := (hb33.setCell (by simp) _).setCell (by simp) _
    refine ⟨hb4, g, c, by rw [HLL.out], ⟨?_, ?_⟩, .inr (by omega)⟩
    · rw [HS.out.1, HS.out.2]
      exact HB.out _ hb4
    · have h1 := ownsRow_setCell_other hown (a := ⟨w.heap.size + 1, 0, none⟩) (by simp [Value.ownBlock]; exact hgN.2) (.slice (some ⟨gB, 0, none⟩) L cB)
      have h2 := ownsRow_setCell_other h1 (a := ⟨w.heap.size + 1, 1, none⟩) (by simp [Value.ownBlock]; exact hgN.2) (.slice (some ⟨g, 0, none⟩) L c)
      rw [HS.out.1, ← HT.out]
      refine ⟨h2.1, ?_⟩
      rcases h2.2 with ⟨h', _⟩ | ⟨g', cp, cur, h', _, r⟩
      · simp at h'
      · exact .inr ⟨g', cp, cur, h', Nat.zero_le _, r⟩
  clear hown hb3 e3 hb33 hWW hW1 c9 p0 p1 p2
  go_wp2
  refine bodyPost_ret (v := .tuple #[.agg #[.slice (some ⟨gB, 0, none⟩) L cB, .slice (some ⟨g, 0, none⟩) L c], .int .i64 0]) ?_ rfl HF.out
  simp [results, Try.results11, go_sem, r0, r1]
end Go.Proofs.Ytoekcknppphnjaa
