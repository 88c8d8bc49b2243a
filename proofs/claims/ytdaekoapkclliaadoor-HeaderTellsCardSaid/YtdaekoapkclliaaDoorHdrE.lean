/- Package header: lower, Same, Get. -/
import Derived.Test.YtdaekoapkclliaaDoorHdrD
import Derived.Lib.ConvBytes
set_option linter.unusedVariables false
set_option linter.unusedSimpArgs false
namespace Go.Proofs.YtdaekoapkclliaaDoor
open Go.RowKit
def lowB (c : UInt8) : UInt8 := if 65 ≤ c.toNat ∧ c.toNat ≤ 90 then c + 32 else c
def lowS (s : Bs) : Bs := s.map lowB
def sameF (a b : Bs) : Bool := decide (lowS a = lowS b)
theorem lowB_up {c : UInt8} {z : Int} (hz : z = (c.toNat : Int)) (h1 : 65 ≤ z) (h2 : z ≤ 90) : ((lowB c).toNat : Int) = z + 32 := by
  unfold lowB
  rw [if_pos (by omega)]
  have : (c + 32).toNat = c.toNat + 32 := by rw [UInt8.toNat_add]; show (c.toNat + 32) % 256 = _; omega
  omega
theorem lowB_no {c : UInt8} {z : Int} (hz : z = (c.toNat : Int)) (h : ¬ (65 ≤ z ∧ z ≤ 90)) : lowB c = c := by unfold lowB; rw [if_neg (by omega)]
theorem frozen_mark {w : World} {g i z z' : Nat} {cs : Array Value} {T : TypeId} (h : w.heap[g]? = some (.cells cs T (z, z'))) (hi : i < z) : w.frozen? ⟨g, i, none⟩ = false := by
  unfold World.frozen?
  simp only [h]
  rw [Bool.and_eq_false_iff]
  left
  exact decide_eq_false (by show ¬ z ≤ i; omega)
/-- Between the rounds: the first k bytes are lowered. -/
def lowK (s : Bs) (k : Nat) : Bs := (s.take k).map lowB ++ s.drop k
theorem lowK_len (s : Bs) (k : Nat) : (lowK s k).length = s.length := by unfold lowK; simp; omega
theorem lowK_at {s : Bs} {k : Nat} (h : k < s.length) : (lowK s k)[k]'(by rw [lowK_len]; exact h) = s[k] := by
  unfold lowK
  rw [List.getElem_append_right (by simp; omega)]
  simp [show min k s.length = k by omega]
theorem lowK_next {s : Bs} {k : Nat} (h : k < s.length) : lowK s (k + 1) = (lowK s k).set k (lowB s[k]) := by
  unfold lowK
  rw [List.set_append_right _ _ (by simp; omega)]
  rw [List.length_map, List.length_take, show k - min k s.length = 0 by omega, List.take_succ_eq_append_getElem h, List.drop_eq_getElem_cons h, List.map_append, List.set_cons_zero]
  simp
theorem set_self {l : Bs} {k : Nat} (h : k < l.length) : l.set k l[k] = l := List.set_getElem_self ..
theorem bcells_set (l : Bs) (k : Nat) (c : UInt8) (R : List Value) (h : k < l.length) (z : Int) (hz : z = (c.toNat : Int)) : ((bcells l ++ R).toArray).setIfInBounds k (.int .u8 z) = (bcells (l.set k c) ++ R).toArray := by
  subst hz
  rw [List.setIfInBounds_toArray, List.set_append_left _ _ (by rw [bcells_length]; exact h)]
  unfold bcells
  rw [List.map_set]
set_option maxRecDepth 100000 in
set_option maxHeartbeats 4000000 in
theorem lower_any (s : ByteArray) (w : World) (hs : s.size ≤ 1000000) :
    Calls Tryd.prog 31 #[.string s] w fun e w' => e = .returned (.string ⟨(lowS s.data.toList).toArray⟩) ∧ Below w.heap.size w w' := by
  have hcv := Lib.run_convert_string_bytes (P := Tryd.prog) w 9 42 5 s Tryd.underlying9 Tryd.underlying42 Tryd.underlying5
  obtain ⟨cap, hcap⟩ : ∃ cap, cap = grownCap w s.size 0 5 := ⟨_, rfl⟩
  have hcaps : s.size ≤ cap := by rw [hcap]; exact grownCap_ge w s.size 0 _
  rw [← hcap] at hcv
  have hb2 : Below w.heap.size w (Lib.bytesWorld w 5 s) := ⟨rfl, rfl, rfl, by rw [Lib.bytesWorld_size]; omega, fun k hk => Lib.bytesWorld_at_old w _ s k hk⟩
  have hg2 : ∃ R z z', (Lib.bytesWorld w 5 s).heap[w.heap.size]? = some (.cells (bcells s.data.toList ++ R).toArray 5 (z, z')) ∧ s.size ≤ z := by
    refine ⟨List.replicate (grownCap w s.size 0 5 - s.size) (.int .u8 0), (Lib.bytesCells w 5 s).size, (Lib.bytesCells w 5 s).size + 1, ?_, ?_⟩
    · rw [Lib.bytesWorld_at_new]
      congr 2
      unfold Lib.bytesCells
      apply Array.ext'
      simp [bcells]
    · unfold Lib.bytesCells
      rw [Array.size_append, Array.size_map]
      show s.data.size ≤ _
      omega
  obtain ⟨R, z, z', hg2, hz⟩ := hg2
  have hsl := bsize s
  obtain ⟨RR, hRR⟩ : ∃ RR : ByteArray, RR = ⟨(lowS s.data.toList).toArray⟩ := ⟨_, rfl⟩
  rw [← hRR]
  have hs0 : (0 : Int) ≤ (s.size : Int) := by omega
  have hsc : (s.size : Int) ≤ (cap : Int) := by omega
  generalize Lib.bytesWorld w 5 s = w2 at *
  have H := Lib.hid (And.intro hb2 (And.intro hg2 (And.intro hsl (And.intro hRR hz))))
  have HCAP := Lib.hid hcaps
  clear hcap hb2 hg2 hsl hRR hz hcaps
  go_enter Tryd.func31, Tryd.ntmps31
  go_wp2
  clear hcv
  go_loopw [10] (fun i wr => ∃ k : Nat, k ≤ s.size ∧ i = .int .i64 k ∧ wr.heap[w.heap.size]? = some (.cells (bcells (lowK s.data.toList k) ++ R).toArray 5 (z, z')) ∧ Below w.heap.size w wr) (fun i _ => s.size - (intOf i).toNat)
  case atStart => exact ⟨0, Nat.zero_le _, rfl, by have := H.out.2.1; simpa [lowK] using this, H.out.1⟩
  case round =>
    obtain ⟨k, hk, rfl, hg, hbl⟩ := hrel
    have hk0 : (0 : Int) ≤ (k : Int) := by omega
    by_cases hlt : k < s.size
    · have hki : (k : Int) < (s.size : Int) := by omega
      have hl : k < s.data.toList.length := by rw [H.out.2.2.1]; exact hlt
      have hlk : k < (lowK s.data.toList k).length := by rw [lowK_len]; exact hl
      obtain ⟨c, hc⟩ : ∃ c, c = s.data.toList[k] := ⟨_, rfl⟩
      obtain ⟨x, hx⟩ : ∃ x : Int, x = (c.toNat : Int) := ⟨_, rfl⟩
      have hcell : wr.cell? ⟨w.heap.size, k, none⟩ = some (.int .u8 x) := by
        rw [cell_of_row _ _ _ _ _ _ hg, List.getElem?_toArray, List.getElem?_append_left (by rw [bcells_length]; exact hlk), bcells_get hlk, lowK_at hl, hx, hc]
      have hfr : wr.frozen? ⟨w.heap.size, k, none⟩ = false := frozen_mark hg (by have := H.out.2.2.2.2; omega)
      have hx0 : 0 ≤ x := by omega
      have hnx := lowK_next hl
      rw [← hc] at hnx
      have hst : ∀ v : Int, v = ((lowB c).toNat : Int) → (wr.setCell ⟨w.heap.size, k, none⟩ (.int .u8 v)).heap[w.heap.size]? = some (.cells (bcells (lowK s.data.toList (k + 1)) ++ R).toArray 5 (z, z')) := fun v hv => by
        rw [setCell_heap hg, bcells_set _ _ (lowB c) _ hlk v hv, hnx]
      by_cases h65 : 65 ≤ x ∧ x ≤ 90
      · obtain ⟨h1, h2⟩ := h65
        have hup := lowB_up hx h1 h2
        have hw1 : IntKind.u8.wrap (x + 97) = x + 97 := IntWalk.u8_in _ (by omega)
        have hw2 : IntKind.u8.wrap (x + 97 - 65) = x + 32 := by rw [IntWalk.u8_in _ (by omega)]; omega
        have HF := Lib.hid (And.intro (hst (x + 32) hup.symm) ((hbl.setCell (p := ⟨w.heap.size, k, none⟩) (Nat.le_refl _) (.int .u8 (x + 32)))))
        clear hg hbl hl hlk hc hx hnx hst hup
        go_wp2
        go_roundw
        case rel => exact ⟨k + 1, by omega, by go_num, HF.out.1, HF.out.2⟩
        case measure => simp [intOf]; omega
      · have hno := lowB_no hx h65
        have hgk : wr.heap[w.heap.size]? = some (.cells (bcells (lowK s.data.toList (k + 1)) ++ R).toArray 5 (z, z')) := by
          rw [hnx, hno, hc, ← lowK_at hl, set_self hlk]; exact hg
        have HF := Lib.hid (And.intro hgk hbl)
        clear hg hbl hl hlk hc hx hnx hst hno hgk
        rcases (show ¬ 65 ≤ x ∨ (65 ≤ x ∧ ¬ x ≤ 90) by omega) with h1 | ⟨h1, h2⟩
        all_goals
          clear h65
          go_wp2
          go_roundw
          case rel => exact ⟨k + 1, by omega, by go_num, HF.out.1, HF.out.2⟩
          case measure => simp [intOf]; omega
    · obtain rfl : k = s.size := by omega
      have hjE : ¬ (s.size : Int) < (s.size : Int) := by omega
      have hcv2 : (convert 42 9 (.slice (some ⟨w.heap.size, 0, none⟩) s.size cap)).run Tryd.prog wr = .ok (.string RR) wr := by
        rw [H.out.2.2.2.1]
        refine conv_new (R := R) (T := 5) (fz := (z, z')) (l := lowS s.data.toList) ?_ (by unfold lowS; rw [List.length_map]; exact H.out.2.2.1)
        rw [hg]
        unfold lowK lowS
        rw [List.take_of_length_le (by rw [H.out.2.2.1]; exact Nat.le_refl _), List.drop_of_length_le (by rw [H.out.2.2.1]; exact Nat.le_refl _), List.append_nil]
      have HF := Lib.hid hbl
      clear hg hbl
      go_wp2
      go_ret
      exact ⟨rfl, HF.out⟩
set_option maxRecDepth 100000 in
theorem same_any (a b : ByteArray) (w : World) (h1 : a.size ≤ 1000000) (h2 : b.size ≤ 1000000) :
    Calls Tryd.prog 19 #[.string a, .string b] w fun e w' => e = .returned (.bool (sameF a.data.toList b.data.toList)) ∧ Below w.heap.size w w' := by
  have c1 := lower_any a w h1
  have c2 := fun W => lower_any b W h2
  have hR : ((⟨(lowS a.data.toList).toArray⟩ : ByteArray).toList == (⟨(lowS b.data.toList).toArray⟩ : ByteArray).toList) = sameF a.data.toList b.data.toList := by
    rw [bytes_eq2]; unfold sameF; simp
  generalize sameF a.data.toList b.data.toList = R at *
  generalize (⟨(lowS a.data.toList).toArray⟩ : ByteArray) = A at *
  generalize (⟨(lowS b.data.toList).toArray⟩ : ByteArray) = B at *
  have HR := Lib.hid hR
  clear hR
  go_enter Tryd.func19, Tryd.ntmps19
  go_wp2_with fail
  refine c1.mono ?_
  rintro e w1 ⟨rfl, hb1⟩
  clear c1
  go_wp2_with fail
  refine (c2 _).mono ?_
  rintro e w2 ⟨rfl, hb2⟩
  have HB := Lib.hid (hb1.trans (hb2.mono hb1.size))
  clear c2 hb1 hb2
  go_wp2
  go_ret
  exact ⟨ret_bool HR.out, HB.out⟩
end Go.Proofs.YtdaekoapkclliaaDoor
