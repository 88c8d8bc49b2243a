/- Package wal: num, number. -/
import Derived.Test.YtnbefiaeihialaaGreatWalF
import Derived.Test.YtnbefiaeihialaaGreatChg
import Derived.Lib.ConvBytes
import Derived.Laws.BitsLemmas
import Derived.IntWalk
set_option linter.unusedVariables false
set_option linter.unusedSimpArgs false
namespace Go.Proofs.YtnbefiaeihialaaGreat
open Go.RowKit
theorem bcells_put (l : Bs) (k : Nat) (c : UInt8) (R : List Value) (h : k < l.length) (z : Int) (hz : z = (c.toNat : Int)) : ((bcells l ++ R).toArray).setIfInBounds k (.int .u8 z) = (bcells (l.set k c) ++ R).toArray := by
  subst hz
  apply Array.ext'
  rw [Array.toList_setIfInBounds]
  show (bcells l ++ R).set k _ = _
  rw [List.set_append_left _ _ (by rw [bcells_length]; exact h)]
  congr 1
  unfold bcells
  rw [List.map_set]
theorem bigF_get (n : Nat) : ∀ (k i : Nat) (h : i < (bigF n k).length), (bigF n k)[i] = UInt8.ofNat (n / 256 ^ (k - 1 - i))
  | k + 1, 0, _ => by simp [bigF]
  | k + 1, i + 1, h => by
    have ih := bigF_get n k i (by simpa [bigF] using h)
    show (bigF n k)[i]'(by simpa [bigF] using h) = _
    rw [ih]
    congr 3; omega
/-- The first i bytes are there. -/
def numK (n k i : Nat) : Bs := (bigF n k).take i ++ List.replicate (k - i) 0
theorem numK_len (n k i : Nat) (h : i ≤ k) : (numK n k i).length = k := by unfold numK; simp [bigF_len]; omega
theorem numK_next {n k i : Nat} (h : i < k) : numK n k (i + 1) = (numK n k i).set i (UInt8.ofNat (n / 256 ^ (k - 1 - i))) := by
  have hl : i < (bigF n k).length := by rw [bigF_len]; exact h
  unfold numK
  rw [List.set_append_right _ _ (by simp [bigF_len]; omega), List.take_succ_eq_append_getElem hl, bigF_get n k i hl]
  have e : i - ((bigF n k).take i).length = 0 := by simp [bigF_len]; omega
  rw [e, show k - i = (k - (i + 1)) + 1 by omega, List.replicate_succ, List.set_cons_zero, List.append_assoc]; rfl
theorem byte_of (v m : Nat) : ((v : Int) / 2 ^ (8 * m) % 256) = ((UInt8.ofNat (v / 256 ^ m)).toNat : Int) := by
  have e : (UInt8.ofNat (v / 256 ^ m)).toNat = v / 256 ^ m % 256 := by simp
  have e2 : (256 : Nat) ^ m = 2 ^ (8 * m) := by rw [Nat.pow_mul]
  have e3 : (2 : Int) ^ (8 * m) = ((2 ^ (8 * m) : Nat) : Int) := by rw [Int.natCast_pow]; rfl
  rw [e, e2, e3, Int.natCast_emod, Int.natCast_ediv]
  rfl
set_option maxRecDepth 100000 in
set_option maxHeartbeats 4000000 in
theorem num_any (v k : Nat) (w : World) (hv : v < 4611686018427387904) (hk : k ≤ 8) :
    Calls Tryz.prog 32 #[.int .i64 v, .int .i64 k] w fun e w' => e = .returned (.string ⟨(bigF v k).toArray⟩) ∧ Below w.heap.size w w' := by
  have hmk : (Instr.makeSlice 73 (.int .i64 (k : Int)) (.int .i64 (k : Int))).run Tryz.prog w = .ok (.slice (some ⟨w.heap.size, 0, none⟩) k k) (w.alloc (.cells (madeCells #[.int .u8 0] k) 5)) :=
    run_make_row' 73 5 (.int .u8 0) 1 Tryz.underlying73 Tryz.infoByte rfl .i64 .i64 k (by omega) (by omega) w
  have hz : (madeCells #[Value.int .u8 0] k) = (bcells (numK v k 0)).toArray := by
    unfold numK; rw [List.take_zero, List.nil_append, Nat.sub_zero, ← bcells_zero]
  rw [hz] at hmk
  have hg0 : (w.alloc (.cells (bcells (numK v k 0)).toArray 5)).heap[w.heap.size]? = some (.cells (bcells (numK v k 0) ++ []).toArray 5 (0, 0)) := by rw [List.append_nil]; exact heap_alloc_new w _
  have hb0 : Below w.heap.size w (w.alloc (.cells (bcells (numK v k 0)).toArray 5)) := (Below.refl _ w).alloc (Nat.le_refl _) _
  have hk0 : (0 : Int) ≤ (k : Int) := by omega
  have hv0 : (0 : Int) ≤ (v : Int) := by omega
  obtain ⟨RR, hRR⟩ : ∃ RR : ByteArray, RR = ⟨(bigF v k).toArray⟩ := ⟨_, rfl⟩
  rw [← hRR]
  generalize w.alloc (.cells (bcells (numK v k 0)).toArray 5) = w1 at *
  have H := Lib.hid (And.intro hg0 (And.intro hb0 hRR))
  clear hz hg0 hb0 hRR
  go_enter Tryz.func32, Tryz.ntmps32
  go_wp2
  go_loopw [11] (fun i wr => ∃ j : Nat, j ≤ k ∧ i = .int .i64 j ∧ wr.heap[w.heap.size]? = some (.cells (bcells (numK v k j) ++ []).toArray 5 (0, 0)) ∧ Below w.heap.size w wr) (fun i _ => k - (intOf i).toNat)
  case atStart => exact ⟨0, Nat.zero_le _, rfl, H.out.1, H.out.2.1⟩
  case round =>
    obtain ⟨j, hj, rfl, hg, hbl⟩ := hrel
    have hj0 : (0 : Int) ≤ (j : Int) := by omega
    by_cases hlt : j < k
    · have hji : (j : Int) < (k : Int) := by omega
      have hnl := numK_len v k j hj
      have hfr : wr.frozen? ⟨w.heap.size, j, none⟩ = false := frozen_of_row _ _ _ _ _ hg
      have hcell : ∃ x, wr.cell? ⟨w.heap.size, j, none⟩ = some x := by
        rw [cell_of_row _ _ _ _ _ _ hg, List.getElem?_toArray, List.append_nil, bcells_get (by rw [hnl]; exact hlt)]; exact ⟨_, rfl⟩
      obtain ⟨x, hcell⟩ := hcell
      have hnx := numK_next (n := v) hlt
      have hst : ∀ z : Int, z = ((UInt8.ofNat (v / 256 ^ (k - 1 - j))).toNat : Int) → (wr.setCell ⟨w.heap.size, j, none⟩ (.int .u8 z)).heap[w.heap.size]? = some (.cells (bcells (numK v k (j + 1)) ++ []).toArray 5 (0, 0)) := fun z hz => by
        rw [setCell_heap hg, bcells_put _ _ (UInt8.ofNat (v / 256 ^ (k - 1 - j))) _ (by rw [hnl]; exact hlt) z hz, hnx]
      have HS := Lib.hid (And.intro hst hbl)
      clear hg hbl hnx hst hnl
      go_wp2
      go_roundw
      case rel => exact ⟨j + 1, by omega, by go_num, HS.out.1 _ (byte_of _ _), HS.out.2.setCell (p := ⟨w.heap.size, j, none⟩) (Nat.le_refl _) _⟩
      case measure => simp [intOf]; omega
    · obtain rfl : j = k := by omega
      have hjE : ¬ (j : Int) < (j : Int) := by omega
      have hcv2 : (convert 73 9 (.slice (some ⟨w.heap.size, 0, none⟩) j j)).run Tryz.prog wr = .ok (.string RR) wr := by
        rw [H.out.2.2]
        refine conv_new (R := []) (T := 5) (fz := (0, 0)) (l := bigF v j) ?_ (bigF_len _ _)
        rw [hg]
        unfold numK
        rw [Nat.sub_self, List.take_of_length_le (by rw [bigF_len]; exact Nat.le_refl _)]
        simp
      have HF := Lib.hid hbl
      clear hg hbl
      go_wp2
      go_ret
      exact ⟨rfl, HF.out⟩
theorem wraps_i64 (n : Int) (h₀ : 0 ≤ n) (h₁ : n < 2 ^ 62) : IntKind.i64.wrap n = n := by rw [IntKind.wrap_i64]; omega
theorem or_byte {a b : Nat} (ha : a < 256 ^ 6) (hb : b < 256) : bits BinOp.or IntKind.i64 ((a : Int) * 256) (b : Int) = ((a * 256 + b : Nat) : Int) := by
  rw [bits_join .i64 62 (by decide) wraps_i64 8 ((a : Int) * 256) (b : Int) (by omega) (by omega) (by omega) (by omega) (by omega) (by omega)]
  omega
/-- A number of few bytes stays small. -/
theorem numF_take_lt {s : Bs} {j : Nat} (h : j ≤ 7) : numF (s.take j) < 256 ^ 7 := by
  have h1 := numF_lt (s.take j)
  have h2 : 256 ^ (s.take j).length ≤ 256 ^ 7 := Nat.pow_le_pow_right (by decide) (by rw [List.length_take]; omega)
  omega
set_option maxRecDepth 100000 in
set_option maxHeartbeats 4000000 in
theorem number_any (s : ByteArray) (w : World) (hs : s.size ≤ 7) :
    Calls Tryz.prog 35 #[.string s] w fun e w' => e = .returned (.int .i64 (numF s.data.toList)) ∧ Below w.heap.size w w' := by
  have hcv := Lib.run_convert_string_bytes (P := Tryz.prog) w 9 73 5 s Tryz.underlying9 Tryz.underlying73 Tryz.underlying5
  obtain ⟨cap, hcap⟩ : ∃ cap, cap = grownCap w s.size 0 5 := ⟨_, rfl⟩
  have hcaps : s.size ≤ cap := by rw [hcap]; exact grownCap_ge w s.size 0 _
  rw [← hcap] at hcv
  have hb2 : Below w.heap.size w (Lib.bytesWorld w 5 s) := ⟨rfl, rfl, rfl, by rw [Lib.bytesWorld_size]; omega, fun k hk => Lib.bytesWorld_at_old w _ s k hk⟩
  have hg2 : ∃ R z z', (Lib.bytesWorld w 5 s).heap[w.heap.size]? = some (.cells (bcells s.data.toList ++ R).toArray 5 (z, z')) ∧ s.size ≤ z := by
    refine ⟨List.replicate (grownCap w s.size 0 5 - s.size) (.int .u8 0), (Lib.bytesCells w 5 s).size, (Lib.bytesCells w 5 s).size + 1, ?_, ?_⟩
    · rw [Lib.bytesWorld_at_new]
      congr 2
      unfold Lib.bytesCells
      apply Array.ext'
      simp [bcells]
    · unfold Lib.bytesCells
      rw [Array.size_append, Array.size_map]
      show s.data.size ≤ _
      omega
  obtain ⟨R, z, z', hg2, hz⟩ := hg2
  have hsl := bsize s
  have hs0 : (0 : Int) ≤ (s.size : Int) := by omega
  have hsc : (s.size : Int) ≤ (cap : Int) := by omega
  obtain ⟨NN, hNN⟩ : ∃ NN, NN = numF s.data.toList := ⟨_, rfl⟩
  rw [← hNN]
  generalize Lib.bytesWorld w 5 s = w2 at *
  have H := Lib.hid (And.intro hb2 (And.intro hg2 (And.intro hsl hNN)))
  clear hcap hb2 hg2 hsl hz hNN
  go_enter Tryz.func35, Tryz.ntmps35
  go_wp2
  clear hcv
  go_loopw [3, 9] (fun v i wr => ∃ k : Nat, k ≤ s.size ∧ i = .int .i64 k ∧ v = .int .i64 (numF (s.data.toList.take k)) ∧ w2 = wr) (fun _ i _ => s.size - (intOf i).toNat)
  case atStart => exact ⟨0, Nat.zero_le _, rfl, rfl, rfl⟩
  case round =>
    obtain ⟨k, hk, rfl, rfl, rfl⟩ := hrel
    have hk0 : (0 : Int) ≤ (k : Int) := by omega
    by_cases hlt : k < s.size
    · have hki : (k : Int) < (s.size : Int) := by omega
      have hl : k < s.data.toList.length := by rw [H.out.2.2.1]; exact hlt
      obtain ⟨c, hc⟩ : ∃ c, c = s.data.toList[k] := ⟨_, rfl⟩
      have hcell : w2.cell? ⟨w.heap.size, k, none⟩ = some (.int .u8 c.toNat) := by
        rw [cell_of_row _ _ _ _ _ _ H.out.2.1, List.getElem?_toArray, List.getElem?_append_left (by rw [bcells_length]; exact hl), bcells_get hl, hc]
      have hsm : numF (s.data.toList.take k) < 256 ^ 6 := by
        have h1 := numF_lt (s.data.toList.take k)
        have h2 : 256 ^ (s.data.toList.take k).length ≤ 256 ^ 6 := Nat.pow_le_pow_right (by decide) (by rw [List.length_take]; omega)
        omega
      have hnx : numF (s.data.toList.take (k + 1)) = numF (s.data.toList.take k) * 256 + c.toNat := by rw [List.take_succ_eq_append_getElem hl, numF_app, hc]
      have hct := c.toNat_lt
      generalize numF (s.data.toList.take k) = a at *
      generalize c.toNat = b at *
      have ha0 : (0 : Int) ≤ (a : Int) := by omega
      have hb0 : (0 : Int) ≤ (b : Int) := by omega
      have HN := Lib.hid hnx
      clear hnx hc hl
      have hor := or_byte (a := a) (b := b) (by omega) (by omega)
      go_wp2
      go_roundw
      case rel => exact ⟨k + 1, by omega, by go_num, by rw [HN.out]; go_num, by first | exact rfl | trivial⟩
      case measure => simp [intOf]; omega
    · obtain rfl : k = s.size := by omega
      have hjE : ¬ (s.size : Int) < (s.size : Int) := by omega
      have hall : numF (s.data.toList.take s.size) = NN := by rw [List.take_of_length_le (by rw [H.out.2.2.1]; exact Nat.le_refl _), H.out.2.2.2]
      rw [hall]
      clear hall
      go_wp2
      go_ret
      exact ⟨rfl, H.out.1⟩
end Go.Proofs.YtnbefiaeihialaaGreat
