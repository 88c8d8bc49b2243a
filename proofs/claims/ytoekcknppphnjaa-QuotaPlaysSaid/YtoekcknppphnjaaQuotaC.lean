/- Package quota: Copy and New. -/
import Derived.Test.YtoekcknppphnjaaQuotaB
import Derived.StillTailTactics
set_option linter.unusedVariables false
set_option linter.unusedSimpArgs false
namespace Go.Proofs.Ytoekcknppphnjaa
open Go.RowKit
theorem list16 (l : List Int) (h : l.length = 16) : ∃ a0 a1 a2 a3 a4 a5 a6 a7 a8 a9 b0 b1 b2 b3 b4 b5 : Int, l = [a0, a1, a2, a3, a4, a5, a6, a7, a8, a9, b0, b1, b2, b3, b4, b5] := by
  match l, h with
  | [a0, a1, a2, a3, a4, a5, a6, a7, a8, a9, b0, b1, b2, b3, b4, b5], _ => exact ⟨a0, a1, a2, a3, a4, a5, a6, a7, a8, a9, b0, b1, b2, b3, b4, b5, rfl⟩
/-- A row of cells read as one value. -/
theorem load_at {P : Program} (w : World) (a : Addr) (ty : TypeId) (cs : List Value) (d : TypeDesc) (hc : ∀ j v, cs[j]? = some v → w.cell? (a.add j) = some v)
    (hu : P.underlying ty = some d) (hd : (match d with | .struct _ | .array _ _ => true | _ => false) = true) (hi : (P.info? ty).map (·.size) = some cs.length) :
    (loadVar ty a).run P w = .ok (.agg cs.toArray) w := by
  have hl := run_loadCells_list (P := P) (w := w) a cs hc
  cases hq : P.info? ty with
  | none => simp [hq] at hi
  | some i =>
    have hs : i.size = cs.length := by simpa [hq] using hi
    have hagg : (isAgg ty).run P w = .ok true w := by
      unfold isAgg
      rw [Sem.run_bind, run_underlying hu w]
      cases d <;> simp_all
    simp [loadVar, Sem.run_bind, hagg, sizeOf, typeInfo, hq, hs, hl]
theorem Try.underlying43 : Try.prog.underlying 43 = some (.array 16 3) := by kernel_rfl
theorem Try.size43 : (Try.prog.info? 43).map (·.size) = some 16 := by kernel_rfl
theorem Bk.loadB {w : World} {b : Nat} {k : Book} (h : Bk w b k) : (loadVar 43 ⟨b, 1, none⟩).run Try.prog w = .ok (.agg (k.B.map (Value.int .i64)).toArray) w := by
  refine load_at w _ _ _ _ ?_ Try.underlying43 rfl (by rw [Try.size43]; simp [h.ok.lb])
  intro j v hj
  have hb := h.ok.lb
  have hlt : j < 16 := by
    have := (List.getElem?_eq_some_iff.1 hj).1
    simp at this; omega
  have : (⟨b, 1, none⟩ : Addr).add j = ⟨b, 1 + j, none⟩ := by unfold Addr.add; split <;> simp_all
  rw [this, h.cellB j hlt]
  rw [List.getElem?_map, get_nth (by omega)] at hj
  simpa using hj
def part (T : List Int) (j : Nat) : List Int := T.take j ++ List.replicate (16 - j) 0
theorem part_set (T : List Int) (j : Nat) (hT : T.length = 16) (hj : j < 16) : (part T j).set j (nth T j) = part T (j + 1) := by
  unfold part
  rw [List.set_append, if_neg (by simp; omega), List.length_take, Nat.min_eq_left (by omega), Nat.sub_self, List.take_succ_eq_append_getElem (by omega), nth_lt (by omega), List.append_assoc]
  congr 1
  rw [show 16 - j = (16 - (j + 1)) + 1 by omega, List.replicate_succ, List.set_cons_zero]
  rfl
theorem part_all (T : List Int) (L : Nat) (hT : T.length = 16) (hL : L ≤ 16) (hr : ∀ i, L ≤ i → nth T i = 0) : part T L = T := by
  refine nth_ext (by simp [part]; omega) fun i hi => ?_
  unfold part
  rw [nth_eq, List.getElem?_append]
  by_cases h : i < L
  · rw [if_pos (by simp; omega), List.getElem?_take, if_pos h, ← nth_eq]
  · rw [if_neg (by simp; omega), hr i (by omega), List.getElem?_replicate]
    split <;> rfl
theorem cell_of {w : World} {g : Nat} {cs : List Value} {T : TypeId} {fr : Nat × Nat} (h : w.heap[g]? = some (.cells cs.toArray T fr)) (i : Nat) : w.cell? ⟨g, i, none⟩ = cs[i]? := by
  simp [World.cell?, h]
set_option maxHeartbeats 1000000 in
theorem copy_any (b : Nat) (k : Book) (w : World) (h : Bk w b k) :
    Calls Try.prog 14 #[.pointer (some ⟨b, 0, none⟩)] w fun e w' => e = .returned (.pointer (some ⟨w.heap.size, 0, none⟩)) ∧ Below w.heap.size w w' ∧ Bk w' w.heap.size k := by
  have h0 := h.cell0
  have hbk := h.lt
  have hok := h.ok
  have hhp := h.heap
  have hB := list16 _ h.ok.lb
  obtain ⟨L, B, T⟩ := k
  have hL : L ≤ 16 := hok.le
  have hT : T.length = 16 := hok.lt
  simp only at *
  obtain ⟨a0, a1, a2, a3, a4, a5, a6, a7, a8, a9, b0, b1, b2, b3, b4, b5, rfl⟩ := hB
  have x1 : w.cell? ⟨b, 1, none⟩ = some (.int .i64 a0) := h.cellB 0 (by decide)
  have x2 : w.cell? ⟨b, 2, none⟩ = some (.int .i64 a1) := h.cellB 1 (by decide)
  have x3 : w.cell? ⟨b, 3, none⟩ = some (.int .i64 a2) := h.cellB 2 (by decide)
  have x4 : w.cell? ⟨b, 4, none⟩ = some (.int .i64 a3) := h.cellB 3 (by decide)
  have x5 : w.cell? ⟨b, 5, none⟩ = some (.int .i64 a4) := h.cellB 4 (by decide)
  have x6 : w.cell? ⟨b, 6, none⟩ = some (.int .i64 a5) := h.cellB 5 (by decide)
  have x7 : w.cell? ⟨b, 7, none⟩ = some (.int .i64 a6) := h.cellB 6 (by decide)
  have x8 : w.cell? ⟨b, 8, none⟩ = some (.int .i64 a7) := h.cellB 7 (by decide)
  have x9 : w.cell? ⟨b, 9, none⟩ = some (.int .i64 a8) := h.cellB 8 (by decide)
  have x10 : w.cell? ⟨b, 10, none⟩ = some (.int .i64 a9) := h.cellB 9 (by decide)
  have x11 : w.cell? ⟨b, 11, none⟩ = some (.int .i64 b0) := h.cellB 10 (by decide)
  have x12 : w.cell? ⟨b, 12, none⟩ = some (.int .i64 b1) := h.cellB 11 (by decide)
  have x13 : w.cell? ⟨b, 13, none⟩ = some (.int .i64 b2) := h.cellB 12 (by decide)
  have x14 : w.cell? ⟨b, 14, none⟩ = some (.int .i64 b3) := h.cellB 13 (by decide)
  have x15 : w.cell? ⟨b, 15, none⟩ = some (.int .i64 b4) := h.cellB 14 (by decide)
  have x16 : w.cell? ⟨b, 16, none⟩ = some (.int .i64 b5) := h.cellB 15 (by decide)
  have h0' : ∀ o, (w.alloc o).drew.cell? ⟨b, 0, none⟩ = some (.int .i64 (L : Int)) := fun o => (World.cell?_alloc_lt w o _ hbk).trans h0
  have HH := Lib.hid hhp
  have HO := Lib.hid hok
  have HT := Lib.hid hT
  clear h hhp hok hT
  go_enter Try.func14, Try.ntmps14
  go_wp2
  go_still_tail 9, (by kernel_rfl)
  clear x1 x2 x3 x4 x5 x6 x7 x8 x9 x10 x11 x12 x13 x14 x15 x16
  change wpList _ _ _ _ _ w.drew
  go_wp2
  go_loopw [19] (fun i wr => ∃ j : Nat, j ≤ L ∧ i = .int .i64 j ∧ Below w.heap.size w wr ∧ w.heap.size < wr.heap.size ∧
     wr.heap[w.heap.size]? = some (.cells (((L : Int) :: ([a0, a1, a2, a3, a4, a5, a6, a7, a8, a9, b0, b1, b2, b3, b4, b5] ++ part T j)).map (Value.int .i64)).toArray 51 (0, 0))) (fun i _ => L - (intOf i).toNat)
  case atStart =>
    refine ⟨0, Nat.zero_le _, rfl, ((Below.refl _ w).alloc (Nat.le_refl _) _).drew, by simp, ?_⟩
    show (w.heap.push _)[_]? = _
    simp [part, List.replicate]
  case round =>
    obtain ⟨j, hj, rfl, hbl, hsz, hnew⟩ := hrel
    by_cases hlt : j < L
    · have hbr : Bk wr b ⟨L, [a0, a1, a2, a3, a4, a5, a6, a7, a8, a9, b0, b1, b2, b3, b4, b5], T⟩ := ⟨HO.out, (hbl.block b hbk).trans HH.out⟩
      have cT := hbr.cellT j (by omega)
      have hj1 : (0 : Int) ≤ (j : Int) := by omega
      have hj2 : (j : Int) < 16 := by omega
      have c1 : Calls Try.prog 22 #[.pointer (some ⟨b, 17 + j, none⟩)] wr.drew fun e w'' => e = .returned (.int .i64 (nth T j)) ∧ w'' = wr.drew :=
        (load_any _ _ wr.drew cT).mono fun _ _ ⟨p, q⟩ => ⟨p, q.symm⟩
      have c2 := store_any ⟨w.heap.size, 17 + j, none⟩ (.int .i64 (nth (part T j) j)) (nth T j) wr.drew
        (by rw [World.cell?_drew, cell_of hnew, show 17 + j = j + 16 + 1 by omega]
            have hp : (part T j).length = 16 := by simp [part, HT.out]; omega
            have := get_nth (l := part T j) (i := j) (by omega)
            simp [this])
        (by show World.frozen? wr _ = false; simp [World.frozen?, hnew])
      have HN := Lib.hid hnew
      have HB := Lib.hid hbl
      clear hnew cT hbr hbl
      go_wp2
      go_still_tail 11, (by kernel_rfl)
      still_call c1
      refine wpStill_nil ?_
      change wpList _ _ _ _ _ wr.drew
      go_wp2_with (go_at_call 21; refine c2.mono ?_; rintro e w' ⟨rfl, rfl⟩)
      go_roundw
      case rel =>
        refine ⟨j + 1, by omega, by go_num, HB.out.drew.setCell (by simp) _, by simp; exact hsz, ?_⟩
        show (wr.setCell _ _).heap[_]? = _
        rw [setCell_heap HN.out]
        congr 2
        rw [List.setIfInBounds_toArray, ← part_set T j HT.out (by omega)]
        congr 1
        rw [show 17 + j = (16 + j) + 1 by omega]
        simp only [List.map_cons, List.map_append, List.set_cons_succ]
        rw [List.set_append, if_neg (by simp), List.map_set]
        simp
      case measure => simp [intOf]; omega
    · obtain rfl : j = L := by omega
      have hfin : Bk wr w.heap.size ⟨j, [a0, a1, a2, a3, a4, a5, a6, a7, a8, a9, b0, b1, b2, b3, b4, b5], T⟩ := ⟨HO.out, by rw [hnew, part_all T j HT.out HO.out.le HO.out.rest]; rfl⟩
      have HF := Lib.hid hfin
      clear hfin hnew
      go_wp2
      go_ret
      exact ⟨rfl, hbl, HF.out⟩
end Go.Proofs.Ytoekcknppphnjaa
