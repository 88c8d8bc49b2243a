/- strings.IndexAny of a long text, however long. -/
import Derived.Test.YtdaekoapkclliaaDoorHdrB
set_option linter.unusedVariables false
set_option linter.unusedSimpArgs false
namespace Go.Proofs.YtdaekoapkclliaaDoor
open Go.RowKit
set_option maxRecDepth 1000000 in
set_option maxHeartbeats 8000000 in
theorem iany_long (s chars : ByteArray) (w : World) (h2 : 2 ≤ chars.size) (h3 : chars.size ≤ 3) (hasc : ∀ b ∈ chars.data.toList, b.toNat < 128) (h8 : 8 < s.size) (hs : s.size ≤ 9223372036854775807) :
    Calls Tryd.prog 36 #[.string s, .string chars] w fun e w' => e = .returned (.int .i64 (Lib.indexAny s.data.toList chars.data.toList)) ∧ Below w.heap.size w w' := by
  have hv := (zero_of_info (P := Tryd.prog) (t := 71) (show (Tryd.prog.info? 71).map (fun i => (i.zero, i.size)) = some (some (.agg (Array.replicate 256 (.bool false))), 256) by kernel_rfl)).1
  have cM := Tryd.strings_makeASCIISet hv chars w (by omega) (fun j b hj => hasc b (List.mem_of_getElem? hj))
  have cU := Tryd.strings_shouldUseASCIISet (s.size : Int) w
  have hemp : chars.toList.isEmpty = false := by
    rw [Lib.toList_data]
    cases h : chars.data.toList with
    | nil => have := Lib.size_eq chars; rw [h, List.length_nil] at this; omega
    | cons _ _ => rfl
  have hn1 : ((chars.size : Int) == 1) = false := beq_eq_false_iff_ne.2 (by omega)
  have h8z : decide ((8 : Int) < (s.size : Int)) = true := decide_eq_true (by omega)
  rw [h8z] at cU
  obtain ⟨M, hM⟩ : ∃ M, M = Lib.setCells chars.data.toList := ⟨_, rfl⟩
  have hst : (storeCells ⟨w.heap.size + 1, 0, none⟩ M.toList 0).run Tryd.prog ((w.alloc (.cells M 71)).alloc (.cells (Array.replicate 256 (.bool false)) 71)) = .ok () ((w.alloc (.cells M 71)).alloc (.cells M 71)) := by
    have := run_storeCells_new (P := Tryd.prog) (w.alloc (.cells M 71)) 71 (Array.replicate 256 (.bool false)) M (by rw [hM, Lib.setCells_size]; kernel_rfl) (by rw [hM, Lib.setCells_size, Array.size_replicate]) (by rw [hM]; exact Lib.setCells_one _)
    simpa using this
  have hsz : M.size = 256 := by rw [hM]; exact Lib.setCells_size _
  obtain ⟨W, hW⟩ : ∃ W : World, W = (w.alloc (.cells M 71)).alloc (.cells M 71) := ⟨_, rfl⟩
  have hcell : ∀ x : UInt8, W.cell? ⟨w.heap.size + 1, x.toNat, none⟩ = some (.bool (chars.data.toList.contains x)) := fun x => by
    rw [hW, World.cell?_alloc_at _ _ _ _ (by simp), hM, Lib.setCells_at]
  have hbl : Below w.heap.size w W := by rw [hW]; exact ((Below.refl _ w).alloc (Nat.le_refl _) _).alloc (by simp) _
  have HC := Lib.hid (And.intro hcell hbl)
  rw [← hM] at cM
  rw [← hW] at hst
  have hs0 : (0 : Int) ≤ (s.size : Int) := by omega
  clear hcell hbl hM hasc hW
  go_enter Tryd.func36, Tryd.ntmps36
  go_wp2_with (first
    | (go_at_call 48; refine cU.mono ?_; rintro e w' ⟨rfl, hw⟩; rw [hw])
    | (go_at_call 40; refine cM.mono ?_; rintro e w' ⟨rfl, hw⟩; rw [hw]))
  clear cM cU hst hv
  go_loopw [8] (fun v wr => ∃ i : Nat, i ≤ s.size ∧ v = .int .i64 i ∧ Hid (Lib.NoAny s.data.toList chars.data.toList i) ∧ W = wr) (fun v _ => s.size - (intOf v).toNat)
  case atStart => exact ⟨0, Nat.zero_le _, rfl, Lib.hid (Lib.NoAny.zero _ _), rfl⟩
  case round =>
    obtain ⟨i, hi, rfl, hno, rfl⟩ := hrel
    have hi0 : (0 : Int) ≤ (i : Int) := by omega
    by_cases hlt : i < s.size
    · have hii : (i : Int) < (s.size : Int) := by omega
      have hdx : s.data.toList[i]? = some (s[i]'hlt) := Lib.data_getElem? s i hlt
      have hcx := HC.out.1 (s[i]'hlt)
      obtain ⟨x, hx⟩ : ∃ x : UInt8, s[i]'hlt = x := ⟨_, rfl⟩
      rw [hx] at hcx hdx
      have c3 := Tryd.asciiSet_contains (w.heap.size + 1) x _ W hcx
      cases hin : chars.data.toList.contains x with
      | false =>
        rw [hin] at c3
        have HN := Lib.hid (hno.out.succ hdx hin)
        clear hcx hdx hno hin
        go_wp2_with fail
        refine c3.mono ?_
        rintro e w' ⟨rfl, hw⟩
        rw [hw]
        clear c3
        go_wp2
        go_roundw
        case rel => exact ⟨i + 1, by omega, by go_num, Lib.hid HN.out, trivial⟩
        case measure => simp [intOf]; omega
      | true =>
        rw [hin] at c3
        have HR := Lib.hid (Lib.indexAny_hit hno.out hdx hin)
        clear hcx hdx hno hin
        go_wp2_with fail
        refine c3.mono ?_
        rintro e w' ⟨rfl, hw⟩
        rw [hw]
        clear c3
        go_wp2
        go_ret
        exact ⟨by rw [HR.out]; rfl, HC.out.2⟩
    · obtain rfl : i = s.size := by omega
      have hjE : ¬ (s.size : Int) < (s.size : Int) := by omega
      have HR := Lib.hid (Lib.indexAny_none (by rw [← Lib.size_eq]; exact hno.out))
      clear hno
      go_wp2
      go_ret
      exact ⟨by rw [HR.out]; rfl, HC.out.2⟩
end Go.Proofs.YtdaekoapkclliaaDoor
