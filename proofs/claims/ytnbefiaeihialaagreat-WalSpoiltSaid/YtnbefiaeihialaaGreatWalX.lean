/- Package ref08: sectors, two, Find. -/
import Derived.Test.YtnbefiaeihialaaGreatWalW
set_option linter.unusedVariables false
set_option linter.unusedSimpArgs false
namespace Go.Proofs.YtnbefiaeihialaaGreat
open Go.RowKit
set_option maxRecDepth 100000 in
set_option maxHeartbeats 4000000 in
theorem rsectors_any (n : Nat) (w : World) (hn : n ≤ 1000000000000) :
    Calls Tryz.prog 43 #[.int .i64 n] w fun e w' => e = .returned (.int .i64 (secN (46 + n))) ∧ w = w' := by
  have hn0 : (0 : Int) ≤ (n : Int) := by omega
  have hs : ((secN (46 + n) : Nat) : Int) = (14 + (n : Int) + 32 + 1 + 63) / 64 := by unfold secN; omega
  rw [hs]
  clear hs
  go_enter Tryz.func43, Tryz.ntmps43
  go_wp2
  go_ret
  refine ⟨ret_int ?_, rfl⟩
  simp only [IntKind.wrap_i64]
/-- A row of pairs that can be read. -/
structure PrsIn (w : World) (A : Option Addr) (n : Nat) (M : List Pr) : Prop where
  len : M.length = n
  max : n ≤ 9223372036854775807
  cells : 0 < n → ∃ b off, A = some ⟨b, off, none⟩ ∧ ∀ j (h : j < M.length), w.cell? ⟨b, off + j * 2, none⟩ = some (.string M[j].1) ∧ w.cell? ⟨b, off + j * 2 + 1, none⟩ = some (.string M[j].2)
theorem PrsIn.below {w w' : World} {A : Option Addr} {n : Nat} {M : List Pr} (h : PrsIn w A n M) (hb : Below w.heap.size w w') : PrsIn w' A n M :=
  ⟨h.len, h.max, fun hn => by
    obtain ⟨b, off, e, hc⟩ := h.cells hn
    refine ⟨b, off, e, fun j hj => ?_⟩
    obtain ⟨q, q'⟩ := hc j hj
    exact ⟨(hb.cell (p := ⟨b, off + j * 2, none⟩) (World.block_lt_of_cell? _ _ q)).trans q, (hb.cell (p := ⟨b, off + j * 2 + 1, none⟩) (World.block_lt_of_cell? _ _ q')).trans q'⟩⟩
theorem findM_drop {M : List Pr} {j : Nat} (h : j < M.length) (k : ByteArray) : findM (M.drop j) k = if M[j].1 = k then some M[j].2 else findM (M.drop (j + 1)) k := by
  rw [List.drop_eq_getElem_cons h, findM_cons]
set_option maxRecDepth 100000 in
set_option maxHeartbeats 4000000 in
theorem rfind_any (A : Option Addr) (n c : Nat) (M : List Pr) (k : ByteArray) (w : World) (h : PrsIn w A n M) :
    Calls Tryz.prog 21 #[.slice A n c, .string k] w fun e w' => e = .returned (.tuple #[.string ((findM M k).getD ⟨#[]⟩), .bool (findM M k).isSome]) ∧ w = w' := by
  have hn0 : (0 : Int) ≤ (n : Int) := by omega
  have hm := h.max
  obtain ⟨F, hF⟩ : ∃ F, F = findM M k := ⟨_, rfl⟩
  rw [← hF]
  have H := Lib.hid (And.intro h hF)
  clear h hF
  go_enter Tryz.func21, Tryz.ntmps21
  go_wp2
  go_loopw [6] (fun i wr => ∃ j : Nat, j ≤ n ∧ i = .int .i64 j ∧ Hid (F = findM (M.drop j) k) ∧ w = wr) (fun i _ => n - (intOf i).toNat)
  case atStart => exact ⟨0, Nat.zero_le _, rfl, Lib.hid (by rw [List.drop_zero]; exact H.out.2), rfl⟩
  case round =>
    obtain ⟨j, hj, rfl, hr, rfl⟩ := hrel
    have hj0 : (0 : Int) ≤ (j : Int) := by omega
    by_cases hlt : j < n
    · have hji : (j : Int) < (n : Int) := by omega
      have hjl : j < M.length := by rw [H.out.1.len]; exact hlt
      obtain ⟨b, off, rfl, hc⟩ := H.out.1.cells (by omega)
      obtain ⟨e1, e2⟩ := hc j hjl
      have hd := findM_drop hjl k
      generalize M[j] = p at *
      obtain ⟨K, V⟩ := p
      dsimp only at e1 e2 hd
      have heq : (K.toList == k.toList) = decide (K = k) := by
        rw [Lib.toList_data, Lib.toList_data, Bool.eq_iff_iff, beq_iff_eq, decide_eq_true_iff]
        exact ba_eq.symm
      clear hc
      by_cases hk : K = k
      · rw [decide_eq_true hk] at heq
        have HF := Lib.hid (hr.out.trans (hd.trans (if_pos hk)))
        clear hd hr
        go_wp2
        go_ret2
        rw [HF.out]
        exact ⟨rfl, rfl⟩
      · rw [decide_eq_false hk] at heq
        have HF := Lib.hid (hr.out.trans (hd.trans (if_neg hk)))
        clear hd hr
        go_wp2
        go_roundw
        case rel => exact ⟨j + 1, by omega, by go_num, HF, by first | exact rfl | trivial⟩
        case measure => simp [intOf]; omega
    · obtain rfl : j = n := by omega
      have hjE : ¬ (j : Int) < (j : Int) := by omega
      have hF : F = none := by rw [hr.out, List.drop_of_length_le (by rw [H.out.1.len]; exact Nat.le_refl _)]; rfl
      have HF := Lib.hid hF
      clear hF hr
      go_wp2
      go_ret2
      rw [HF.out]
      exact ⟨rfl, rfl⟩
end Go.Proofs.YtnbefiaeihialaaGreat
