/- Package base64: the coder in memory; its table. -/
import Derived.Test.YteklocejgbippaaDoorBasB
import Derived.Defers
import Derived.Laws.Pointers
import Derived.Laws.LoneSync
import Derived.RegionTactic
import Derived.RegionCalls
import Derived.ChangeAlike
import Derived.StillTailTactics
set_option linter.unusedVariables false
set_option linter.unusedSimpArgs false
namespace Go.Proofs.YteklocejgbippaaDoor
open Go.RowKit
/-- What the table holds behind i letters. -/
def tblv (i c : Nat) : Int := if worth (UInt8.ofNat c) ≤ i then (worth (UInt8.ofNat c) : Int) else 0
def tblr (i : Nat) : List Value := (List.range 256).map fun c => .int .i64 (tblv i c)
def coc (d st : Int) (i : Nat) (cnt : Int) : List Value := .int .u32 d :: .int .i32 st :: .int .u32 0 :: (tblr i ++ [.int .i64 cnt])
/-- A coder in block g: d says whether its table is laid; st: its lock; i letters lie in the table; cnt: what it has counted. -/
def CoW (w : World) (g : Nat) (d st : Int) (i : Nat) (cnt : Int) : Prop := w.heap[g]? = some (.cells (coc d st i cnt).toArray 73 (0, 0))
theorem worth_of : ∀ c : Fin 256, worth (UInt8.ofNat c.val) ≠ 0 → L64 (worth (UInt8.ofNat c.val) - 1) = UInt8.ofNat c.val := by decide +kernel
theorem tblv_step (i c : Nat) (hi : i < 64) (hc : c < 256) : (if c = (L64 i).toNat then ((i + 1 : Nat) : Int) else tblv i c) = tblv (i + 1) c := by
  unfold tblv
  by_cases h : c = (L64 i).toNat
  · rw [if_pos h, h, UInt8.ofNat_toNat, worth_L64 i hi, if_pos (Nat.le_refl _)]
  · rw [if_neg h]
    by_cases h1 : worth (UInt8.ofNat c) ≤ i
    · rw [if_pos h1, if_pos (by omega)]
    · rw [if_neg h1]
      by_cases h2 : worth (UInt8.ofNat c) = i + 1
      · exfalso
        apply h
        have := worth_of ⟨c, hc⟩ (by simp only; omega)
        simp only at this
        rw [h2, Nat.add_sub_cancel] at this
        rw [this, UInt8.toNat_ofNat']
        omega
      · rw [if_neg (by omega)]
theorem tblr_len (i : Nat) : (tblr i).length = 256 := by simp [tblr]
theorem tblr_set (i : Nat) (hi : i < 64) : (tblr i).set (L64 i).toNat (.int .i64 ((i + 1 : Nat) : Int)) = tblr (i + 1) := by
  apply List.ext_getElem (by simp [tblr_len])
  intro c h1 h2
  rw [tblr_len] at h2
  rw [List.getElem_set]
  have := tblv_step i c hi h2
  simp only [tblr, List.getElem_map, List.getElem_range]
  rw [← this]
  by_cases e : (L64 i).toNat = c
  · rw [if_pos e, if_pos e.symm]
  · rw [if_neg e, if_neg (fun x => e x.symm)]
theorem tblr_get (i c : Nat) (hc : c < 256) : (tblr i)[c]? = some (.int .i64 (tblv i c)) := by
  unfold tblr; rw [List.getElem?_map, List.getElem?_range hc]; rfl
theorem CoW.cells {w : World} {g : Nat} {d st : Int} {i : Nat} {cnt : Int} (h : CoW w g d st i cnt) :
    w.cell? ⟨g, 0, none⟩ = some (.int .u32 d) ∧ w.cell? ⟨g, 1, none⟩ = some (.int .i32 st) ∧ w.cell? ⟨g, 259, none⟩ = some (.int .i64 cnt) := by
  unfold CoW coc at h
  refine ⟨?_, ?_, ?_⟩
  · rw [cell_of_row _ _ _ _ _ _ h]; rfl
  · rw [cell_of_row _ _ _ _ _ _ h]; rfl
  · rw [cell_of_row _ _ _ _ _ _ h, List.getElem?_toArray, show (259 : Nat) = 256 + 1 + 1 + 1 from rfl, List.getElem?_cons_succ, List.getElem?_cons_succ, List.getElem?_cons_succ, List.getElem?_append_right (by rw [tblr_len]; decide), tblr_len]; rfl
theorem CoW.cellT {w : World} {g : Nat} {d st : Int} {i : Nat} {cnt : Int} (h : CoW w g d st i cnt) (c : Nat) (hc : c < 256) : w.cell? ⟨g, 3 + c, none⟩ = some (.int .i64 (tblv i c)) := by
  unfold CoW coc at h
  rw [cell_of_row _ _ _ _ _ _ h, List.getElem?_toArray, show 3 + c = c + 1 + 1 + 1 by omega, List.getElem?_cons_succ, List.getElem?_cons_succ, List.getElem?_cons_succ, List.getElem?_append_left (by rw [tblr_len]; exact hc), tblr_get i c hc]
theorem CoW.free {w : World} {g : Nat} {d st : Int} {i : Nat} {cnt : Int} (h : CoW w g d st i cnt) (k : Nat) : w.frozen? ⟨g, k, none⟩ = false := frozen_of_row _ _ _ _ _ h
theorem CoW.setD {w : World} {g : Nat} {d st : Int} {i : Nat} {cnt : Int} (h : CoW w g d st i cnt) (v : Int) : CoW (w.setCell ⟨g, 0, none⟩ (.int .u32 v)) g v st i cnt := (setCell_heap h 0 _).trans (by rw [List.setIfInBounds_toArray]; rfl)
theorem CoW.setL {w : World} {g : Nat} {d st : Int} {i : Nat} {cnt : Int} (h : CoW w g d st i cnt) (v : Int) : CoW (w.setCell ⟨g, 1, none⟩ (.int .i32 v)) g d v i cnt := (setCell_heap h 1 _).trans (by rw [List.setIfInBounds_toArray]; rfl)
theorem CoW.setC {w : World} {g : Nat} {d st : Int} {i : Nat} {cnt : Int} (h : CoW w g d st i cnt) (v : Int) : CoW (w.setCell ⟨g, 259, none⟩ (.int .i64 v)) g d st i v := by
  refine (setCell_heap h 259 _).trans ?_
  rw [List.setIfInBounds_toArray]
  unfold coc
  rw [show (259 : Nat) = 256 + 1 + 1 + 1 from rfl, List.set_cons_succ, List.set_cons_succ, List.set_cons_succ, List.set_append_right _ _ (by rw [tblr_len]; decide), tblr_len]
  rfl
theorem CoW.setT {w : World} {g : Nat} {d st : Int} {i : Nat} {cnt : Int} (h : CoW w g d st i cnt) (hi : i < 64) : CoW (w.setCell ⟨g, 3 + (L64 i).toNat, none⟩ (.int .i64 ((i + 1 : Nat) : Int))) g d st (i + 1) cnt := by
  refine (setCell_heap h _ _).trans ?_
  have hl := (L64 i).toNat_lt
  rw [List.setIfInBounds_toArray]
  unfold coc
  rw [show 3 + (L64 i).toNat = (L64 i).toNat + 1 + 1 + 1 by omega, List.set_cons_succ, List.set_cons_succ, List.set_cons_succ, List.set_append_left _ _ (by rw [tblr_len]; omega), tblr_set i hi]
theorem CoW.drew {w : World} {g : Nat} {d st : Int} {i : Nat} {cnt : Int} (h : CoW w g d st i cnt) : CoW w.drew g d st i cnt := h
theorem CoW.lt {w : World} {g : Nat} {d st : Int} {i : Nat} {cnt : Int} (h : CoW w g d st i cnt) : g < w.heap.size := lt_of_block h
set_option maxRecDepth 100000 in
set_option maxHeartbeats 4000000 in
theorem table_any (g : Nat) (d st cnt : Int) (w : World) (h : CoW w g d st 0 cnt) :
    Calls Tryd.prog 41 #[.pointer (some ⟨g, 0, none⟩)] w fun e w' => e = .returned (.tuple #[]) ∧ CoW w' g d st 64 cnt ∧ Eff (· = g) w w' := by
  have H := Lib.hid h
  clear h
  go_enter Tryd.func41, Tryd.ntmps41
  go_wp2
  go_loopw [3] (fun i wr => ∃ k : Nat, k ≤ 64 ∧ i = .int .i64 k ∧ CoW wr g d st k cnt ∧ Eff (· = g) w wr) (fun i _ => 64 - (intOf i).toNat)
  case atStart => exact ⟨0, by omega, rfl, H.out, Eff.refl _ _⟩
  case round =>
    obtain ⟨k, hk, rfl, hc, he⟩ := hrel
    have hk0 : (0 : Int) ≤ (k : Int) := by omega
    by_cases hk6 : k < 64
    · have hki : (k : Int) < 64 := by omega
      have hct := hc.cellT (L64 k).toNat (L64 k).toNat_lt
      have hft := hc.free (3 + (L64 k).toNat)
      have hle : ∀ h, lets[k]'h = L64 k := fun h => lets_at k hk6 h
      have HN := Lib.hid (And.intro (hc.setT hk6) (Eff.setCell (S := (· = g)) he (p := ⟨g, 3 + (L64 k).toNat, none⟩) (fun _ => rfl) (.int .i64 ((k + 1 : Nat) : Int))))
      generalize tblv k (L64 k).toNat = old at *
      have hcl : ((L64 k).toNat : Int) < 256 := by have := (L64 k).toNat_lt; omega
      generalize L64 k = c at *
      unfold lets at hle
      clear hc he H
      go_wp2
      go_still_tail 8, (by kernel_rfl)
      change wpList _ _ _ _ _ wr.drew
      go_wp2
      go_roundw
      case rel => exact ⟨k + 1, by omega, by go_num, HN.out.1, HN.out.2.drew⟩
      case measure => simp [intOf]; omega
    · obtain rfl : k = 64 := by omega
      have HN := Lib.hid (And.intro hc he)
      clear hc he
      go_wp2
      go_end0
      exact ⟨rfl, HN.out.1, HN.out.2⟩
theorem disable (w : World) : (callFunc 78 #[]).run Tryd.prog w = .ok (.value (.tuple #[])) w := run_call_mark0 Tryd.func78 (by kernel_rfl) (by kernel_rfl) (by kernel_rfl) .disable (by kernel_rfl) w
theorem enable (w : World) : (callFunc 80 #[]).run Tryd.prog w = .ok (.value (.tuple #[])) w := run_call_mark0 Tryd.func80 (by kernel_rfl) (by kernel_rfl) (by kernel_rfl) .enable (by kernel_rfl) w
theorem acquire (a : Addr) (w : World) : (callFunc 81 #[.pointer (some a)]).run Tryd.prog w = .ok (.value (.tuple #[])) w := run_call_marked Tryd.func81 (by kernel_rfl) (by kernel_rfl) (by kernel_rfl) .acquire (by kernel_rfl) a w
theorem releaseMerge (a : Addr) (w : World) : (callFunc 83 #[.pointer (some a)]).run Tryd.prog w = .ok (.value (.tuple #[])) w := run_call_marked Tryd.func83 (by kernel_rfl) (by kernel_rfl) (by kernel_rfl) .releaseMerge (by kernel_rfl) a w
set_option maxRecDepth 100000 in
theorem store_deferred (a : Addr) (x : Value) (u : FrameMode) (w : World) (hc : w.cell? a = some x) (hz : w.frozen? a = false) :
    CallsD Tryd.prog 66 #[.pointer (some a), .bool true] u w fun e u' w' => u' = u ∧ (e = .returned (.tuple #[]) ∧ w' = w.drew.setCell a (.int .u32 1)) := by
  have hc' : w.drew.cell? a = some x := by go_simp
  have hz' : w.drew.frozen? a = false := by go_simp
  have hst := run_call_store (P := Tryd.prog) Tryd.func74 (by kernel_rfl) (by kernel_rfl) (by kernel_rfl) (by kernel_rfl) (k := .u32) (y := 1) hc' hz'
  go_enter_d Tryd.func66, Tryd.ntmps66
  go_wp2
  go_region_calls
  all_goals (go_end0; exact ⟨rfl, rfl⟩)
set_option maxRecDepth 100000 in
theorem unlock_deferred (a : Addr) (u : FrameMode) (w : World) (hc : w.cell? a = some (.int .i32 1)) (hz : w.frozen? a = false) :
    CallsD Tryd.prog 65 #[.pointer (some a)] u w fun e u' w' => u' = u ∧ (e = .returned (.tuple #[]) ∧ w' = w.setCell a (.int .i32 0)) := by
  have hd := disable
  have he := enable
  have hr := releaseMerge
  have hadd := run_call_add (P := Tryd.prog) Tryd.func84 (by kernel_rfl) (by kernel_rfl) (by kernel_rfl) .i32 (by kernel_rfl) (y := -1) (s := 0) hc hz (by simp [go_sem]; rfl)
  have hcv := run_convert_to_unsafe (P := Tryd.prog) (src := 112) (dst := 77) Tryd.underlying112 Tryd.underlying77 (by kernel_rfl) hc
  go_enter_d Tryd.func65, Tryd.ntmps65
  go_wp2
  go_end0
  go_wp2
  go_end0
  exact ⟨rfl, rfl⟩
set_option maxRecDepth 100000 in
theorem lock_free (a : Addr) (w : World) (hc : w.cell? a = some (.int .i32 0)) (hz : w.frozen? a = false) :
    Calls Tryd.prog 64 #[.pointer (some a)] w fun e w' => e = .returned (.tuple #[]) ∧ w' = w.setCell a (.int .i32 1) := by
  have hd := disable
  have he := enable
  have ha := acquire
  have hcas := run_call_cas_hit (P := Tryd.prog) Tryd.func79 (by kernel_rfl) (by kernel_rfl) (by kernel_rfl) .i32 (by kernel_rfl) (y := 1) hc hz
  have hc' : (w.setCell a (.int .i32 1)).cell? a = some (.int .i32 1) := World.cell?_setCell_same w a _ hc
  have hcv := run_convert_to_unsafe (P := Tryd.prog) (src := 112) (dst := 77) Tryd.underlying112 Tryd.underlying77 (by kernel_rfl) hc'
  go_enter Tryd.func64, Tryd.ntmps64
  go_wp2
  first | go_end0 | (simp only [Exit.inBlock, Exit.then]; refine bodyPost_ret (results_none rfl _ _ _) rfl ?_) | refine bodyPost_ret (results_none rfl _ _ _) rfl ?_
  go_wp2
  go_end0
  exact ⟨rfl, rfl⟩
end Go.Proofs.YteklocejgbippaaDoor
