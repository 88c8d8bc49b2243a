/- Package sector: Arm, Down, Start, Writes, New; Write at whatever arguments. -/
import Derived.Test.YtnbefiaeihialaaGreatSectorB
set_option linter.unusedVariables false
set_option linter.unusedSimpArgs false
namespace Go.Proofs.YtnbefiaeihialaaGreat
open Go.RowKit
def armK (k : Dk) (a t : Int) : Dk := { k with cut := if a < 1 then 0 else a, torn := if a < 1 then 0 else t, since := 0 }
def startK (k : Dk) : Dk := { k with down := false, since := 0 }
/-- A write, whatever it is given. -/
def writeK (k : Dk) (i : Int) (s : List UInt8) : Dk := if k.down = false ∧ (0 ≤ i ∧ i < k.n) ∧ s.length ≤ 64 then wroteK k i.toNat s else k
def writeC (k : Dk) (i : Int) (s : List UInt8) : Int := if k.down = true then 6 else if ¬ (0 ≤ i ∧ i < k.n) then 1 else if 64 < s.length then 3 else wroteC k
theorem writeK_n (k : Dk) (i : Int) (s : List UInt8) : (writeK k i s).n = k.n := by unfold writeK wroteK; (repeat' split) <;> rfl
theorem write_any (g D c : Nat) (R : List Value) (k : Dk) (i : Int) (s : ByteArray) (w : World) (h : DkAt w g D c R k) (hs2 : s.size ≤ 9223372036854775807)
    (b1 : 0 ≤ k.since) (b2 : k.since < 1000000000000) (b3 : 0 ≤ k.all) (b4 : k.all < 1000000000000) :
    Calls Tryz.prog 26 #[.pointer (some ⟨g, 0, none⟩), .int .i64 i, .string s] w
      fun e w' => e = .returned (.int .i64 (writeC k i s.data.toList)) ∧ Eff (fun b => b = g ∨ b = D) w w' ∧ DkAt w' g D c R (writeK k i s.data.toList) := by
  have hsz : s.data.toList.length = s.size := by rw [Array.length_toList]; rfl
  cases hd : k.down with
  | true =>
    have e1 : writeK k i s.data.toList = k := by simp [writeK, hd]
    have e2 : writeC k i s.data.toList = 6 := by simp [writeC, hd]
    rw [e1, e2]
    exact (write_no g i s 6 w rfl (place_down g D c R k i w h hd)).mono fun _ _ ⟨p, q⟩ => ⟨p, q ▸ Eff.refl _ _, q ▸ h⟩
  | false =>
    by_cases hi : 0 ≤ i ∧ i < k.n
    · obtain ⟨j, rfl⟩ := Int.eq_ofNat_of_zero_le hi.1
      by_cases hl : s.size ≤ 64
      · have e1 : writeK k j s.data.toList = wroteK k j s.data.toList := by unfold writeK; rw [if_pos ⟨hd, hi, by omega⟩]; rfl
        have e2 : writeC k j s.data.toList = wroteC k := by unfold writeC; rw [if_neg (by simp [hd]), if_neg (fun hh => hh hi), if_neg (by omega)]
        rw [e1, e2]
        exact write_in g D c R k j s w h hd (by omega) hl b1 b2 b3 b4
      · have e1 : writeK k j s.data.toList = k := by unfold writeK; rw [if_neg (fun hh => by have := hh.2.2; omega)]
        have e2 : writeC k j s.data.toList = 3 := by unfold writeC; rw [if_neg (by simp [hd]), if_neg (fun hh => hh hi), if_pos (by omega)]
        rw [e1, e2]
        exact (write_long g D c R k j s w h hd (by omega) (by omega) hs2).mono fun _ _ ⟨p, q⟩ => ⟨p, q ▸ Eff.refl _ _, q ▸ h⟩
    · have e1 : writeK k i s.data.toList = k := by unfold writeK; rw [if_neg (fun hh => hi hh.2.1)]
      have e2 : writeC k i s.data.toList = 1 := by unfold writeC; rw [if_neg (by simp [hd]), if_pos hi]
      rw [e1, e2]
      exact (write_no g i s 1 w rfl (place_out g D c R k i w h hd hi)).mono fun _ _ ⟨p, q⟩ => ⟨p, q ▸ Eff.refl _ _, q ▸ h⟩
theorem Eff.setAt {N : Nat} {a b : World} (h : Eff (· = N) a b) (i : Nat) (v : Value) : Eff (· = N) a (b.setCell ⟨N, i, none⟩ v) := Eff.setCell (S := (· = N)) h (p := ⟨N, i, none⟩) (fun _ => rfl) v
theorem DkAt.turn {w w' : World} {g D c : Nat} {R : List Value} {k k' : Dk} (h : DkAt w g D c R k) (he : Eff (· = g) w w') (hm : w'.heap[g]? = some (.cells (k'.cells D c) 90 (0, 0))) (h1 : k'.n = k.n) (h2 : k'.data = k.data) : DkAt w' g D c R k' :=
  ⟨⟨by rw [h1]; exact h.ok.n1, by rw [h1]; exact h.ok.n2, by rw [h1, h2]; exact h.ok.len⟩, by rw [h1]; exact h.cap, hm, by rw [h2]; exact he.heap h.dat (fun e => h.ne e.symm)⟩
set_option maxHeartbeats 400000 in
theorem down_any (g D c : Nat) (R : List Value) (k : Dk) (w : World) (h : DkAt w g D c R k) :
    Calls Tryz.prog 40 #[.pointer (some ⟨g, 0, none⟩)] w fun e w' => e = .returned (.bool k.down) ∧ w = w' := by
  have h4 := h.cell.2.2.2.2.1
  clear h
  go_enter Tryz.func40, Tryz.ntmps40
  go_wp2
  go_ret
  exact ⟨rfl, rfl⟩
set_option maxHeartbeats 400000 in
theorem start_any (g D c : Nat) (R : List Value) (k : Dk) (w : World) (h : DkAt w g D c R k) :
    Calls Tryz.prog 29 #[.pointer (some ⟨g, 0, none⟩)] w fun e w' => e = .returned (.tuple #[]) ∧ Eff (· = g) w w' ∧ DkAt w' g D c R (startK k) := by
  have h3 := h.cell.2.2.2.1
  have h4 := h.cell.2.2.2.2.1
  have f3 := h.free 3
  have f4 := h.free 4
  have H := Lib.hid h
  clear h
  go_enter Tryz.func29, Tryz.ntmps29
  go_wp2
  go_end0
  refine ⟨rfl, by repeat (first | with_reducible exact Eff.refl _ _ | with_reducible apply Eff.setAt), H.out.turn (by repeat (first | with_reducible exact Eff.refl _ _ | with_reducible apply Eff.setAt)) ?_ rfl rfl⟩
  first | exact (setCell_heap (setCell_heap H.out.mem 4 _) 3 _).trans rfl | exact (setCell_heap (setCell_heap H.out.mem 3 _) 4 _).trans rfl
set_option maxHeartbeats 400000 in
theorem arm_any (g D c : Nat) (R : List Value) (k : Dk) (a t : Int) (w : World) (h : DkAt w g D c R k) :
    Calls Tryz.prog 28 #[.pointer (some ⟨g, 0, none⟩), .agg #[.int .i64 a, .int .i64 t]] w fun e w' => e = .returned (.tuple #[]) ∧ Eff (· = g) w w' ∧ DkAt w' g D c R (armK k a t) := by
  have h1 := h.cell.2.1
  have h2 := h.cell.2.2.1
  have h3 := h.cell.2.2.2.1
  have f1 := h.free 1
  have f2 := h.free 2
  have f3 := h.free 3
  have hg : g < w.heap.size := lt_of_block h.mem
  have H := Lib.hid h
  clear h
  go_enter Tryz.func28, Tryz.ntmps28
  have hm : ∀ o : Obj, (w.alloc o).heap[g]? = some (.cells (k.cells D c) 90 (0, 0)) := fun o => (Below.heap_alloc _ _ _ hg).trans H.out.mem
  have HM := Lib.hid hm
  clear hm
  by_cases ha : a < 1
  · have HA := Lib.hid ha
    go_wp2
    go_end0
    refine ⟨rfl, by repeat (first | with_reducible exact Eff.refl _ _ | with_reducible apply Eff.setAt | with_reducible apply Eff.alloc), H.out.turn (by repeat (first | with_reducible exact Eff.refl _ _ | with_reducible apply Eff.setAt | with_reducible apply Eff.alloc)) ?_ rfl rfl⟩
    have e : armK k a t = { k with cut := 0, torn := 0, since := 0 } := by have h := HA.out; unfold armK; rw [if_pos h, if_pos h]
    rw [e]
    exact (Below.heap_alloc _ _ _ (by simp; exact hg)).trans ((setCell_heap (setCell_heap (setCell_heap (setCell_heap (setCell_heap H.out.mem 1 _) 2 _) 3 _) 1 _) 2 _).trans rfl)
  · have HA := Lib.hid ha
    have ha' : 1 ≤ a := by omega
    clear ha
    go_wp2
    go_end0
    refine ⟨rfl, by repeat (first | with_reducible exact Eff.refl _ _ | with_reducible apply Eff.setAt | with_reducible apply Eff.alloc), H.out.turn (by repeat (first | with_reducible exact Eff.refl _ _ | with_reducible apply Eff.setAt | with_reducible apply Eff.alloc)) ?_ rfl rfl⟩
    have e : armK k a t = { k with cut := a, torn := t, since := 0 } := by have h := HA.out; unfold armK; rw [if_neg (by omega), if_neg (by omega)]
    rw [e]
    exact (Below.heap_alloc _ _ _ (by simp; exact hg)).trans ((setCell_heap (setCell_heap (setCell_heap H.out.mem 1 _) 2 _) 3 _).trans rfl)
set_option maxHeartbeats 400000 in
theorem new_no (n : Int) (w : World) (h : n < 1 ∨ 4096 < n) :
    Calls Tryz.prog 14 #[.int .i64 n] w fun e w' => e = .returned (.tuple #[.pointer none, .int .i64 1]) ∧ w = w' := by
  rcases (show n < 1 ∨ (1 ≤ n ∧ 4096 < n) by omega) with h1 | ⟨h1, h2⟩
  all_goals
    clear h
    go_enter Tryz.func14, Tryz.ntmps14
    go_wp2
    go_ret2
    exact ⟨rfl, rfl⟩
def newK (n : Nat) : Dk := ⟨n, zeros (n * 64), 0, 0, 0, 0, false⟩
set_option maxHeartbeats 400000 in
theorem new_in (n : Nat) (w : World) (h1 : 1 ≤ n) (h2 : n ≤ 4096) :
    Calls Tryz.prog 14 #[.int .i64 n] w fun e w' => e = .returned (.tuple #[.pointer (some ⟨w.heap.size + 1, 0, none⟩), .int .i64 0]) ∧ Below w.heap.size w w' ∧ DkAt w' (w.heap.size + 1) w.heap.size (n * 64) [] (newK n) := by
  have hmk : ∀ W : World, (Instr.makeSlice 73 (.int .i64 ((n * 64 : Nat) : Int)) (.int .i64 ((n * 64 : Nat) : Int))).run Tryz.prog W = .ok (.slice (some ⟨W.heap.size, 0, none⟩) (n * 64) (n * 64)) (W.alloc (.cells (madeCells #[.int .u8 0] (n * 64)) 5)) := fun W =>
    run_make_row' 73 5 (.int .u8 0) 1 Tryz.underlying73 Tryz.infoByte rfl .i64 .i64 (n * 64) (by omega) (by omega) W
  have e : ((n * 64 : Nat) : Int) = (n : Int) * 64 := by omega
  rw [e] at hmk
  have hz : (madeCells #[Value.int .u8 0] (n * 64)) = (bcells (zeros (n * 64))).toArray := by unfold zeros; rw [← bcells_zero]
  rw [hz] at hmk
  clear hz e
  go_enter Tryz.func14, Tryz.ntmps14
  go_wp2
  go_ret2
  refine ⟨by simp, ((Below.refl _ _).alloc (Nat.le_refl _) _).alloc (by simp) _, ⟨⟨h1, h2, zeros_len _⟩, ⟨Nat.le_refl _, by show n * 64 ≤ _; omega⟩, heap_alloc2_new _ _ _, ?_⟩⟩
  rw [heap_alloc2_old, List.append_nil]
  rfl
end Go.Proofs.YtnbefiaeihialaaGreat
