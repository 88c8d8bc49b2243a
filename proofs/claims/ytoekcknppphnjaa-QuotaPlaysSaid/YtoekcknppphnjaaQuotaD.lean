/- Package quota: New. -/
import Derived.Test.YtoekcknppphnjaaQuotaC
set_option linter.unusedVariables false
set_option linter.unusedSimpArgs false
namespace Go.Proofs.Ytoekcknppphnjaa
open Go.RowKit
def okB (x : Int) : Bool := decide (0 ≤ x) && decide (x ≤ 1099511627776)
def newOk (xs : List Int) : Bool := decide (1 ≤ xs.length) && decide (xs.length ≤ 16) && xs.all okB
def newBook (xs : List Int) : Book := ⟨xs.length, part xs xs.length, List.replicate 16 0⟩
theorem part_set' (T : List Int) (j : Nat) (hT : j < T.length) (hj : j < 16) : (part T j).set j (nth T j) = part T (j + 1) := by
  unfold part
  rw [List.set_append, if_neg (by simp; omega), List.length_take, Nat.min_eq_left (by omega), Nat.sub_self, List.take_succ_eq_append_getElem (by omega), nth_lt (by omega), List.append_assoc]
  congr 1
  rw [show 16 - j = (16 - (j + 1)) + 1 by omega, List.replicate_succ, List.set_cons_zero]
  rfl
theorem part_len (T : List Int) (j : Nat) (h : j ≤ T.length) (hj : j ≤ 16) : (part T j).length = 16 := by simp [part]; omega
theorem newBook_eq (xs : List Int) (_h : xs.length ≤ 16) : newBook xs = ⟨xs.length, part xs xs.length, List.replicate 16 0⟩ := rfl
theorem newBook_nth (xs : List Int) (h : xs.length ≤ 16) (i : Nat) : nth (newBook xs).B i = nth xs i := by
  rw [newBook_eq xs h]
  simp only [nth_eq, part, List.take_length, List.getElem?_append]
  split
  · rfl
  · rw [List.getElem?_replicate, List.getElem?_eq_none (by omega)]; split <;> rfl
theorem newBook_ok (xs : List Int) (h : newOk xs = true) : (newBook xs).Ok := by
  simp only [newOk, Bool.and_eq_true, decide_eq_true_eq, List.all_eq_true] at h
  obtain ⟨⟨h1, h2⟩, h3⟩ := h
  refine ⟨by rw [newBook_eq _ h2]; exact part_len _ _ (Nat.le_refl _) h2, by simp [newBook], h2, fun i => ?_, fun i _ => ?_⟩
  · rw [newBook_nth _ h2]
    have ht : nth (newBook xs).T i = 0 := by simp only [newBook, nth_eq, List.getElem?_replicate]; split <;> rfl
    rw [ht]
    by_cases hi : i < xs.length
    · have := h3 (nth xs i) (by rw [nth_lt hi]; exact List.getElem_mem hi)
      simp [okB] at this; omega
    · rw [nth_ge (by omega)]; omega
  · simp only [newBook, nth_eq, List.getElem?_replicate]; split <;> rfl
def NewPost (xs : List Int) (w : World) (e : Ending) (w' : World) : Prop :=
  Below w.heap.size w w' ∧ ((newOk xs = true ∧ e = .returned (.tuple #[.pointer (some ⟨w.heap.size, 0, none⟩), .int .i64 0]) ∧ Bk w' w.heap.size (newBook xs)) ∨
    (newOk xs = false ∧ e = .returned (.tuple #[.pointer none, .int .i64 1])))
theorem newOk_len {xs : List Int} (h : xs.length < 1 ∨ 16 < xs.length) : newOk xs = false := by
  simp only [newOk, Bool.and_eq_false_iff, decide_eq_false_iff_not]; omega
theorem newOk_bad {xs : List Int} {j : Nat} (hj : j < xs.length) (h : okB (nth xs j) = false) : newOk xs = false := by
  cases hq : newOk xs with
  | false => rfl
  | true =>
    simp only [newOk, Bool.and_eq_true, List.all_eq_true] at hq
    rw [hq.2 (nth xs j) (by rw [nth_lt hj]; exact List.getElem_mem hj)] at h
    cases h
theorem newOk_all {xs : List Int} (h1 : 1 ≤ xs.length) (h2 : xs.length ≤ 16) (h : ∀ j, j < xs.length → okB (nth xs j) = true) : newOk xs = true := by
  simp only [newOk, Bool.and_eq_true, decide_eq_true_eq, List.all_eq_true]
  refine ⟨⟨h1, h2⟩, fun x hx => ?_⟩
  obtain ⟨j, hj, rfl⟩ := List.getElem_of_mem hx
  rw [← nth_lt hj]; exact h j hj
set_option maxHeartbeats 400000 in
theorem new_len (A : Option Addr) (n c : Nat) (w : World) (xs : List Int) (hx : xs.length = n) (hm : n ≤ 9223372036854775807) (h : n < 1 ∨ 16 < n) :
    Calls Try.prog 8 #[.slice A n c] w (NewPost xs w) := by
  have hp : ∀ w', w = w' → NewPost xs w (.returned (.tuple #[.pointer none, .int .i64 1])) w' := fun w' e => e ▸ ⟨Below.refl _ _, .inr ⟨newOk_len (by omega), rfl⟩⟩
  have HP := Lib.hid hp
  clear hp hx
  rcases h with h | h
  · go_enter Try.func8, Try.ntmps8
    go_wp2
    go_ret2
    exact HP.out _ rfl
  · have h' : ¬ n < 1 := by omega
    go_enter Try.func8, Try.ntmps8
    go_wp2
    go_ret2
    exact HP.out _ rfl
set_option maxHeartbeats 1000000 in
theorem new_some (b0 off n c : Nat) (w : World) (xs : List Int) (hx : xs.length = n) (h1 : 1 ≤ n) (h2 : n ≤ 16) (hc : ∀ j, j < n → w.cell? ⟨b0, off + j, none⟩ = some (.int .i64 (nth xs j))) :
    Calls Try.prog 8 #[.slice (some ⟨b0, off, none⟩) n c] w (NewPost xs w) := by
  have hb0 : b0 < w.heap.size := World.block_lt_of_cell? _ _ (hc 0 (by omega))
  have HX := Lib.hid hx
  clear hx
  go_enter Try.func8, Try.ntmps8
  go_wp2
  go_loopw [21] (fun i wr => ∃ j : Nat, j ≤ n ∧ i = .int .i64 j ∧ Below w.heap.size w wr ∧ w.heap.size < wr.heap.size ∧ (∀ t, t < j → okB (nth xs t) = true) ∧
     wr.heap[w.heap.size]? = some (.cells (((n : Int) :: (part xs j ++ List.replicate 16 0)).map (Value.int .i64)).toArray 51 (0, 0))) (fun i _ => n - (intOf i).toNat)
  case atStart =>
    refine ⟨0, Nat.zero_le _, rfl, (Below.refl _ w).alloc (Nat.le_refl _) _, by simp, fun t ht => absurd ht (by omega), ?_⟩
    show (w.heap.push _)[_]? = _
    simp [part, List.replicate]
  case round =>
    obtain ⟨j, hj, rfl, hbl, hsz, hgood, hnew⟩ := hrel
    have HG := Lib.hid hgood
    clear hgood
    by_cases hlt : j < n
    · have hcj : wr.cell? ⟨b0, off + j, none⟩ = some (.int .i64 (nth xs j)) := (hbl.cell hb0).trans (hc j hlt)
      have hj1 : (0 : Int) ≤ (j : Int) := by omega
      have hj2 : (j : Int) < 16 := by omega
      by_cases hbad : okB (nth xs j) = false
      · have hp : NewPost xs w (.returned (.tuple #[.pointer none, .int .i64 1])) wr := ⟨hbl, .inr ⟨newOk_bad (by rw [HX.out]; exact hlt) hbad, rfl⟩⟩
        have HP := Lib.hid hp
        have hq : nth xs j < 0 ∨ (0 ≤ nth xs j ∧ 1099511627776 < nth xs j) := by
          simp [okB] at hbad; omega
        clear hp hbad hnew hbl hc
        generalize nth xs j = x at *
        rcases hq with hq | ⟨hq1, hq2⟩
        · go_wp2
          go_ret2
          exact HP.out
        · go_wp2
          go_ret2
          exact HP.out
      · have hbad' : okB (nth xs j) = true := by simpa using hbad
        have hq : 0 ≤ nth xs j ∧ nth xs j ≤ 1099511627776 := by simpa [okB] using hbad'
        obtain ⟨hq1, hq2⟩ := hq
        have hnc : ∃ v, wr.cell? ⟨w.heap.size, 1 + j, none⟩ = some v := by
          refine ⟨.int .i64 (nth (part xs j) j), ?_⟩
          rw [cell_of hnew, show 1 + j = j + 1 by omega]
          have hp : (part xs j).length = 16 := part_len _ _ (by rw [HX.out]; exact hj) (by omega)
          simp [List.getElem?_append, hp, nth_lt (show j < (part xs j).length by omega), show j < 16 by omega]
        obtain ⟨v0, hnc⟩ := hnc
        have hnf : wr.frozen? ⟨w.heap.size, 1 + j, none⟩ = false := by simp [World.frozen?, hnew]
        have hstep : Below w.heap.size w (wr.setCell ⟨w.heap.size, 1 + j, none⟩ (.int .i64 (nth xs j))) ∧
            (wr.setCell ⟨w.heap.size, 1 + j, none⟩ (.int .i64 (nth xs j))).heap[w.heap.size]? = some (.cells (((n : Int) :: (part xs (j + 1) ++ List.replicate 16 0)).map (Value.int .i64)).toArray 51 (0, 0)) := by
          refine ⟨hbl.setCell (Nat.le_refl _) _, ?_⟩
          rw [setCell_heap hnew]
          congr 2
          have hp : (part xs j).length = 16 := part_len _ _ (by rw [HX.out]; exact hj) (by omega)
          rw [List.setIfInBounds_toArray, ← part_set' xs j (by rw [HX.out]; exact hlt) (by omega)]
          congr 1
          rw [show 1 + j = j + 1 by omega]
          simp only [List.map_cons, List.map_append, List.set_cons_succ]
          rw [List.set_append, if_pos (by simp; omega), List.map_set]
        have HS := Lib.hid hstep
        have HB := Lib.hid hbad'
        clear hstep hnew hbl hc hbad hbad'
        generalize hxx : nth xs j = x at *
        have HXX := Lib.hid hxx
        clear hxx
        go_wp2
        go_roundw
        case rel =>
          refine ⟨j + 1, by omega, by go_num, HS.out.1, by simp; exact hsz, fun t ht => ?_, HS.out.2⟩
          by_cases e : t = j
          · subst e; rw [HXX.out]; exact HB.out
          · exact HG.out t (by omega)
        case measure => simp [intOf]; omega
    · obtain rfl : j = n := by omega
      have hok : newOk xs = true := newOk_all (by rw [HX.out]; exact h1) (by rw [HX.out]; exact h2) fun t ht => HG.out t (by rw [HX.out] at ht; exact ht)
      have hfin : NewPost xs w (.returned (.tuple #[.pointer (some ⟨w.heap.size, 0, none⟩), .int .i64 0])) wr :=
        ⟨hbl, .inl ⟨hok, rfl, newBook_ok xs hok, by rw [hnew, newBook_eq xs (by rw [HX.out]; exact h2), HX.out]; rfl⟩⟩
      have HF := Lib.hid hfin
      clear hfin hnew hok
      go_wp2
      go_ret2
      exact HF.out
end Go.Proofs.Ytoekcknppphnjaa
