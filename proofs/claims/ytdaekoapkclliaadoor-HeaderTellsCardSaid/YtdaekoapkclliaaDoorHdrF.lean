/- Package header: a row of fields in memory; Get. -/
import Derived.Test.YtdaekoapkclliaaDoorHdrE
set_option linter.unusedVariables false
set_option linter.unusedSimpArgs false
namespace Go.Proofs.YtdaekoapkclliaaDoor
open Go.RowKit
abbrev Fld := ByteArray × ByteArray
def fdb (f : Fld) : Fd := (f.1.data.toList, f.2.data.toList)
def fds (l : List Fld) : List Fd := l.map fdb
theorem fds_len (l : List Fld) : (fds l).length = l.length := List.length_map ..
def fl (xs : List Fld) (j : Nat) : Fld := xs.getD j (⟨#[]⟩, ⟨#[]⟩)
theorem fl_get {xs : List Fld} {j : Nat} (h : j < xs.length) : fl xs j = xs[j] := by unfold fl; rw [List.getD_eq_getElem?_getD, List.getElem?_eq_getElem h]; rfl
/-- A row of fields that can be read. -/
structure FldsIn (w : World) (A : Option Addr) (n : Nat) (xs : List Fld) : Prop where
  len : xs.length = n
  max : n ≤ 9223372036854775807
  cells : 0 < n → ∃ b off, A = some ⟨b, off, none⟩ ∧ ∀ j, j < n → w.cell? ⟨b, off + j * 2, none⟩ = some (.string (fl xs j).1) ∧ w.cell? ⟨b, off + j * 2 + 1, none⟩ = some (.string (fl xs j).2)
theorem FldsIn.below {w w' : World} {A : Option Addr} {n : Nat} {xs : List Fld} (h : FldsIn w A n xs) (hb : Below w.heap.size w w') : FldsIn w' A n xs :=
  ⟨h.len, h.max, fun hn => by
    obtain ⟨b, off, e, hc⟩ := h.cells hn
    refine ⟨b, off, e, fun j hj => ?_⟩
    obtain ⟨q, q'⟩ := hc j hj
    exact ⟨(hb.cell (p := ⟨b, off + j * 2, none⟩) (World.block_lt_of_cell? _ _ q)).trans q, (hb.cell (p := ⟨b, off + j * 2 + 1, none⟩) (World.block_lt_of_cell? _ _ q')).trans q'⟩⟩
def Small (xs : List Fld) : Prop := ∀ f ∈ xs, f.1.size ≤ 100000 ∧ f.2.size ≤ 100000
theorem Small.at_ {xs : List Fld} (h : Small xs) {j : Nat} (hj : j < xs.length) : (fl xs j).1.size ≤ 100000 ∧ (fl xs j).2.size ≤ 100000 := by
  rw [fl_get hj]; exact h _ (List.getElem_mem hj)
/-- What Get tells. -/
def getB : List Fld → Bs → ByteArray × Bool
  | [], _ => (⟨#[]⟩, false)
  | f :: r, nm => if sameF f.1.data.toList nm then (f.2, true) else getB r nm
theorem getB_drop {xs : List Fld} {j : Nat} (h : j < xs.length) (nm : Bs) : getB (xs.drop j) nm = if sameF (fl xs j).1.data.toList nm then ((fl xs j).2, true) else getB (xs.drop (j + 1)) nm := by
  rw [List.drop_eq_getElem_cons h, getB, fl_get h]
set_option maxRecDepth 100000 in
set_option maxHeartbeats 4000000 in
theorem get_any (A : Option Addr) (n c : Nat) (xs : List Fld) (nm : ByteArray) (w : World) (h : FldsIn w A n xs) (hsm : Small xs) (h1 : nm.size ≤ 100000) :
    Calls Tryd.prog 15 #[.slice A n c, .string nm] w fun e w' => e = .returned (.tuple #[.string (getB xs nm.data.toList).1, .bool (getB xs nm.data.toList).2]) ∧ Below w.heap.size w w' := by
  obtain ⟨R, hR⟩ : ∃ R, R = getB xs nm.data.toList := ⟨_, rfl⟩
  rw [← hR]
  have hn0 : (0 : Int) ≤ (n : Int) := by omega
  have hnm := h.max
  have H := Lib.hid (And.intro h (And.intro hsm hR))
  clear h hsm hR
  go_enter Tryd.func15, Tryd.ntmps15
  go_wp2
  go_loopw [10] (fun i wr => ∃ k : Nat, k ≤ n ∧ i = .int .i64 k ∧ Hid (R = getB (xs.drop k) nm.data.toList) ∧ Below w.heap.size w wr) (fun i _ => n - (intOf i).toNat)
  case atStart => exact ⟨0, Nat.zero_le _, rfl, Lib.hid (by rw [List.drop_zero]; exact H.out.2.2), Below.refl _ _⟩
  case round =>
    obtain ⟨k, hk, rfl, hg, hbl⟩ := hrel
    have hk0 : (0 : Int) ≤ (k : Int) := by omega
    by_cases hlt : k < n
    · have hki : (k : Int) < (n : Int) := by omega
      obtain ⟨b, off, rfl, hc⟩ := (H.out.1.below hbl).cells (by omega)
      obtain ⟨e1, e2⟩ := hc k hlt
      have hkl : k < xs.length := by rw [H.out.1.len]; exact hlt
      have hsz := H.out.2.1.at_ hkl
      have hgd := hg.out
      rw [getB_drop hkl] at hgd
      generalize fl xs k = f at *
      obtain ⟨fn, fb⟩ := f
      dsimp only at e1 e2 hsz hgd
      have c1 := fun W => same_any fn nm W (by omega) (by omega)
      have hbn : Below w.heap.size w (wr.alloc (.cells #[.string fn, .string fb] 38 (0, 0))) := hbl.alloc hbl.size _
      have hgn := heap_alloc_new wr (.cells #[.string fn, .string fb] 38 (0, 0))
      have HB := Lib.hid (And.intro hbn hgn)
      have hwl : wr.heap.size < (wr.alloc (.cells #[.string fn, .string fb] 38 (0, 0))).heap.size := lt_of_block hgn
      cases hs : sameF fn.data.toList nm.data.toList with
      | true =>
        rw [hs] at c1 hgd
        simp only [if_true] at hgd
        subst hgd
        clear hc hkl hg hbl hbn hgn hs hsz
        go_wp2_with fail
        refine (c1 _).mono ?_
        rintro e w1 ⟨rfl, hb1⟩
        have hg1 := (hb1.block _ (lt_of_block HB.out.2)).trans HB.out.2
        have q0 : w1.cell? ⟨wr.heap.size, 0, none⟩ = some (.string fn) := by rw [cell_of_row _ _ _ _ _ _ hg1]; rfl
        have q1 : w1.cell? ⟨wr.heap.size, 1, none⟩ = some (.string fb) := by rw [cell_of_row _ _ _ _ _ _ hg1]; rfl
        have HF := Lib.hid (HB.out.1.trans (hb1.mono HB.out.1.size))
        clear c1 hb1 hg1
        go_wp2
        go_ret2
        exact ⟨rfl, HF.out⟩
      | false =>
        rw [hs] at c1 hgd
        simp only [Bool.false_eq_true, if_false] at hgd
        have HG := Lib.hid hgd
        clear hc hkl hg hbl hbn hgn hs hsz hgd
        go_wp2_with fail
        refine (c1 _).mono ?_
        rintro e w1 ⟨rfl, hb1⟩
        have HF := Lib.hid (HB.out.1.trans (hb1.mono HB.out.1.size))
        clear c1 hb1
        go_wp2
        go_roundw
        case rel => exact ⟨k + 1, by omega, by go_num, HG.out, HF.out⟩
        case measure => simp [intOf]; omega
    · obtain rfl : k = n := by omega
      have hjE : ¬ (k : Int) < (k : Int) := by omega
      obtain rfl : R = (⟨#[]⟩, false) := by rw [hg.out, List.drop_of_length_le (by rw [H.out.1.len]; exact Nat.le_refl _)]; rfl
      have HF := Lib.hid hbl
      clear hg hbl
      go_wp2
      go_ret2
      exact ⟨rfl, HF.out⟩
end Go.Proofs.YtdaekoapkclliaaDoor
