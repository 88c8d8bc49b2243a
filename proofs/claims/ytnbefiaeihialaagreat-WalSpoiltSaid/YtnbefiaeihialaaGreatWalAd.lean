/- Package wal's law folder: rows of rows of changes; few. -/
import Derived.Test.YtnbefiaeihialaaGreatWalAc
set_option linter.unusedVariables false
set_option linter.unusedSimpArgs false
namespace Go.Proofs.YtnbefiaeihialaaGreat
open Go.RowKit
def row (rows : List (List Ch)) (j : Nat) : List Ch := rows.getD j []
theorem row_get {rows : List (List Ch)} {j : Nat} (h : j < rows.length) : row rows j = rows[j] := by unfold row; rw [List.getD_eq_getElem?_getD, List.getElem?_eq_getElem h]; rfl
/-- Rows of rows of changes that can be read. -/
structure RowsIn (w : World) (A : Option Addr) (n : Nat) (rows : List (List Ch)) : Prop where
  len : rows.length = n
  max : n ≤ 140737488355328
  cells : 0 < n → ∃ b off, A = some ⟨b, off, none⟩ ∧ ∀ j, j < n → ∃ Aj cj, w.cell? ⟨b, off + j, none⟩ = some (.slice Aj (row rows j).length cj) ∧ ChsIn w Aj (row rows j).length (row rows j)
theorem RowsIn.below {w w' : World} {A : Option Addr} {n : Nat} {rows : List (List Ch)} (h : RowsIn w A n rows) (hb : Below w.heap.size w w') : RowsIn w' A n rows :=
  ⟨h.len, h.max, fun hn => by
    obtain ⟨b, off, e, hc⟩ := h.cells hn
    refine ⟨b, off, e, fun j hj => ?_⟩
    obtain ⟨Aj, cj, q, q'⟩ := hc j hj
    exact ⟨Aj, cj, (hb.cell (p := ⟨b, off + j, none⟩) (World.block_lt_of_cell? _ _ q)).trans q, q'.below hb⟩⟩
def cst (c : Ch) : Nat := 1 + (min c.key.size 10000 + min c.val.size 10000) / 100
def rsum (l : List Ch) : Nat := (l.map cst).sum
def tot (rows : List (List Ch)) : Nat := (rows.map fun l => 1 + rsum l).sum
theorem rsum_take {l : List Ch} {k : Nat} (h : k < l.length) : rsum (l.take (k + 1)) = rsum (l.take k) + cst (ch l k) := by
  unfold rsum
  rw [List.take_succ_eq_append_getElem h, List.map_append, List.sum_append, ch_get h]; simp
theorem tot_take {rows : List (List Ch)} {j : Nat} (h : j < rows.length) : tot (rows.take (j + 1)) = tot (rows.take j) + (1 + rsum (row rows j)) := by
  unfold tot
  rw [List.take_succ_eq_append_getElem h, List.map_append, List.sum_append, row_get h]; simp
theorem sum_take_le (l : List Nat) (k : Nat) : (l.take k).sum ≤ l.sum := by
  conv => rhs; rw [← List.take_append_drop k l, List.sum_append]
  omega
theorem rsum_le (l : List Ch) (k : Nat) : rsum (l.take k) ≤ rsum l := by unfold rsum; rw [List.map_take]; exact sum_take_le _ _
theorem tot_le (rows : List (List Ch)) (k : Nat) : tot (rows.take k) ≤ tot rows := by unfold tot; rw [List.map_take]; exact sum_take_le _ _
def mzInt : Value → Nat
  | .int _ i => i.toNat
  | _ => 0
theorem cst_le (c : Ch) : cst c ≤ 201 := by unfold cst; omega
set_option maxRecDepth 100000 in
set_option maxHeartbeats 8000000 in
theorem few_any (A : Option Addr) (n c : Nat) (rows : List (List Ch)) (w : World) (h : RowsIn w A n rows) :
    Calls Tryz.prog 13 #[.slice A n c] w fun e w' => e = .returned (.bool (decide (tot rows ≤ 120))) ∧ ∃ d, w.drewN d = w' := by
  have hn := h.max
  have hlen := h.len
  have hn0 : (0 : Int) ≤ (n : Int) := by omega
  have H := Lib.hid h
  have HLN := Lib.hid hlen
  obtain ⟨BB, hBB⟩ : ∃ BB, BB = decide (tot rows ≤ 120) := ⟨_, rfl⟩
  rw [← hBB]
  have HBB := Lib.hid hBB
  clear h hlen hBB
  go_enter Tryz.func13, Tryz.ntmps13
  go_wp2
  go_loopw [3, 4] (fun m i wr => ∃ (j x d : Nat), j ≤ n ∧ i = .int .i64 j ∧ m = .int .i64 x ∧ x ≤ 120 + j ∧ Hid (x = tot (rows.take j)) ∧ wr = w.drewN d) (fun _ i _ => n - mzInt i)
  case atStart => exact ⟨0, 0, 0, Nat.zero_le _, rfl, rfl, by omega, Lib.hid rfl, rfl⟩
  case round =>
    obtain ⟨j, x, d, hj, rfl, rfl, hx, hxt, rfl⟩ := hrel
    have hj0 : (0 : Int) ≤ (j : Int) := by omega
    by_cases hlt : j < n
    · have hji : (j : Int) < (n : Int) := by omega
      obtain ⟨b, off, rfl, hc⟩ := H.out.cells (by omega)
      obtain ⟨Aj, cj, q, qin⟩ := hc j hlt
      have htt := tot_take (rows := rows) (j := j) (by rw [HLN.out]; exact hlt)
      have htl := tot_le rows (j + 1)
      obtain ⟨L, hL⟩ : ∃ L, L = row rows j := ⟨_, rfl⟩
      rw [← hL] at q qin htt
      obtain ⟨M, hM⟩ : ∃ M, M = L.length := ⟨_, rfl⟩
      rw [← hM] at q qin
      have hM0 : (0 : Int) ≤ (M : Int) := by omega
      have hMm := qin.max
      have HQ := Lib.hid (And.intro qin (And.intro htt (And.intro htl hM)))
      clear hc qin htt htl hL hM
      go_upto_region 7 with fail
      go_loopw [3, 5] (fun m k wr => ∃ (kk y d : Nat), kk ≤ M ∧ k = .int .i64 kk ∧ m = .int .i64 y ∧ y ≤ 121 + j ∧ Hid (y = tot (rows.take j) + 1 + rsum (L.take kk)) ∧ wr = w.drewN d) (fun _ k _ => M - mzInt k)
      case atStart => exact ⟨0, x + 1, d, Nat.zero_le _, rfl, by simp, by omega, Lib.hid (by rw [hxt.out]; simp [rsum]), rfl⟩
      case round =>
        obtain ⟨kk, y, d, hk, rfl, rfl, hy, hyt, rfl⟩ := hrel
        have hk0 : (0 : Int) ≤ (kk : Int) := by omega
        by_cases hkl : kk < M
        · have hki : (kk : Int) < (M : Int) := by omega
          obtain ⟨b1, o1, rfl, hc1⟩ := HQ.out.1.cells (by omega)
          obtain ⟨e1, e2, _⟩ := hc1 kk hkl
          have hrt := rsum_take (l := L) (k := kk) (by rw [← HQ.out.2.2.2]; exact hkl)
          have hrl := rsum_le L (kk + 1)
          have hcl := cst_le (ch L kk)
          unfold cst at hrt hcl
          generalize ch L kk = cc at *
          obtain ⟨K, V, gn⟩ := cc
          dsimp only at e1 e2 hrt hcl
          have hK0 : (0 : Int) ≤ (K.size : Int) := by omega
          have hV0 : (0 : Int) ≤ (V.size : Int) := by omega
          have HR := Lib.hid (And.intro hrt (And.intro hrl hcl))
          clear hrt hrl hcl hc1
          have hX : (y : Int) + 1 + (min (K.size : Int) 10000 + min (V.size : Int) 10000) / 100 = ((y + (1 + (min K.size 10000 + min V.size 10000) / 100) : Nat) : Int) := by omega
          have HX := Lib.hid hX
          clear hX
          go_upto_region 9 with fail
          go_quiet (fail)
          rw [HX.out]
          clear HX
          have hr1 := HR.out.1
          have hr3 := HR.out.2.2
          generalize (1 + (min K.size 10000 + min V.size 10000) / 100) = Z at *
          have hr2 := HR.out.2.1
          have hq2 := HQ.out.2.1
          have hq3 := HQ.out.2.2.1
          by_cases hbig : y + Z ≤ 120
          · have hb1 : ((y + Z : Nat) : Int) ≤ 120 := by omega
            have hb2 : ¬ 120 < ((y + Z : Nat) : Int) := by omega
            have hs : y + Z = tot (rows.take j) + 1 + rsum (L.take (kk + 1)) := by rw [hr1, hyt.out]; omega
            have HS := Lib.hid hs
            clear hs hr1 hr2 hr3 hq2 hq3 e1 e2
            obtain ⟨YZ, hYZ⟩ : ∃ YZ, YZ = y + Z := ⟨_, rfl⟩
            rw [← hYZ] at hb1 hb2 HS hbig ⊢
            clear hYZ
            go_wp2
            go_roundw
            case rel => exact ⟨kk + 1, YZ, _, by omega, by go_num, rfl, by omega, HS, rfl⟩
            case measure => simp [mzInt]; omega
          · have hb1 : 120 < ((y + Z : Nat) : Int) := by omega
            have hbb : ¬ tot rows ≤ 120 := by have := hyt.out; omega
            have hBf := Lib.hid (HBB.out.trans (decide_eq_false hbb))
            clear hr1 hr2 hr3 hq2 hq3 e1 e2 hbb
            obtain ⟨YZ, hYZ⟩ : ∃ YZ, YZ = y + Z := ⟨_, rfl⟩
            rw [← hYZ] at hb1 ⊢
            clear hYZ hbig
            go_wp2
            go_ret
            exact ⟨by (rw [hBf.out]) <;> rfl, _, rfl⟩
        · obtain rfl : kk = M := by omega
          have hkE : ¬ (kk : Int) < (kk : Int) := by omega
          have hs : y = tot (rows.take (j + 1)) := by
            have h5 := hyt.out
            rw [HQ.out.2.2.2, List.take_length] at h5
            have h6 := HQ.out.2.1
            omega
          have HS := Lib.hid hs
          clear hs
          go_wp2
          go_roundw
          case rel => exact ⟨j + 1, y, d, by omega, by go_num, rfl, by omega, HS, rfl⟩
          case measure => simp [mzInt]; omega
    · obtain rfl : j = n := by omega
      have hjE : ¬ (j : Int) < (j : Int) := by omega
      have hxx : x = tot rows := by rw [hxt.out, ← HLN.out, List.take_length]
      have hdd : decide (tot rows ≤ 120) = decide ((x : Int) ≤ 120) := by rw [← hxx]; exact decide_eq_decide.2 (by omega)
      have hBf := Lib.hid (HBB.out.trans hdd)
      clear hdd hxx
      go_wp2
      go_ret
      exact ⟨by (rw [hBf.out]) <;> rfl, d, rfl⟩
end Go.Proofs.YtnbefiaeihialaaGreat
