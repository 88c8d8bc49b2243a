/- The reference of package quota: contracts. -/
import Derived.Test.YtoekcknppphnjaaQuotaI
import Derived.Maps.AppendAt
import Derived.Deep.AppendLies
import Derived.Deep.RegionLawGrows
set_option linter.unusedVariables false
set_option linter.unusedSimpArgs false
namespace Go.Proofs.Ytoekcknppphnjaa
open Go.RowKit
/-- A slice of whole numbers of the call's own. -/
def OwnI (w : World) (base : Nat) (v : Value) (xs : List Int) : Prop := w.ownsRow base 3 1 v xs.length (xs.map (Value.int .i64))
theorem Try.infoInt : (Try.prog.info? 3).map (fun i => (i.zero, i.size, i.bytes)) = some (some (.int .i64 0), 1, 8) := by kernel_rfl
def WithPost (AB : Option Addr) (nB cB n : Nat) (T' : List Int) (w : World) (e : Ending) (w' : World) : Prop :=
  Below w.heap.size w w' ∧ ∃ g c, e = .returned (.agg #[.slice AB nB cB, .slice (some ⟨g, 0, none⟩) n c]) ∧ OwnI w' w.heap.size (.slice (some ⟨g, 0, none⟩) n c) T'
set_option maxHeartbeats 1000000 in
theorem with_any (AB : Option Addr) (nB cB gT n cT : Nat) (T : List Int) (i : Nat) (v : Int) (w : World) (hl : T.length = n) (hT : OwnI w 0 (.slice (some ⟨gT, 0, none⟩) n cT) T) (hi : i < n) (hn : n ≤ 16) :
    Calls Try.prog 20 #[.agg #[.slice AB nB cB, .slice (some ⟨gT, 0, none⟩) n cT], .int .i64 i, .int .i64 v] w (WithPost AB nB cB n (T.set i v) w) := by
  obtain ⟨i0, hi0, hz0, hz1, hz2⟩ := info_parts Try.infoInt
  have hi1 : (0 : Int) ≤ (i : Int) := by omega
  have hi2 : (i : Int) < (n : Int) := by omega
  have HT := Lib.hid hT
  have HL := Lib.hid hl
  clear hT hl
  go_enter Try.func20, Try.ntmps20
  go_wp2_with (at_builtin; refine wpList_append_own_at _ rfl (.tmp 7) (.tmp 9) 22 rfl w.heap.size 3 i0 (.int .i64 0) 1 8 Try.underlying22 hi0 hz0 hz1 hz2 rfl (by decide) (.slice (some ⟨w.heap.size + 1 + 1, 0, none⟩) 0 0) 0 [] rfl ?o1 ⟨gT, 0, none⟩ n cT (T.map (Value.int .i64)) rfl ?o2 ?o3 ?o4 ?o5 ?o6 ?o7 ?_)
  case o1 =>
    have h := World.ownsRow_lit (base := w.heap.size) (e := 3) (size := 1) ((w.alloc (.cells #[.slice AB nB cB, .slice (some ⟨gT, 0, none⟩) n cT] 30)).alloc (.cells #[.slice none 0 0, .slice none 0 0] 30)) #[] 0 (by simp; omega) (by decide) rfl
    simpa using h
  case o2 => simp [HL.out]
  case o3 =>
    intro j u hj
    have hc := HT.out.cells (g := gT) rfl j u hj
    rwa [World.cell?_alloc_lt, World.cell?_alloc_lt, World.cell?_alloc_lt]
    all_goals (have := World.block_lt_of_cell? _ _ hc; simp; try omega)
  case o4 => exact ints_oneCell _ _
  case o5 => simp only [maxLen]; omega
  case o6 => omega
  case o7 => simp; omega
  intro v1 w1 hown hgrow _ hat
  try simp only [Nat.zero_add, List.nil_append] at hown
  obtain ⟨g, c, rfl, hgb, hgs⟩ := hown.form (by omega)
  have e0 : w1.heap[w.heap.size]? = some (.cells #[.slice AB nB cB, .slice (some ⟨gT, 0, none⟩) n cT] 30 (0, 0)) := by
    rw [hgrow.block _ (by simp; omega) (by simp [Value.ownBlock]; omega)]
    exact (Below.heap_alloc _ _ _ (by simp; omega)).trans (heap_alloc2_old _ _ _)
  have e1 : w1.heap[w.heap.size + 1]? = some (.cells #[.slice none 0 0, .slice none 0 0] 30 (0, 0)) := by
    rw [hgrow.block _ (by simp) (by simp [Value.ownBlock])]
    exact (Below.heap_alloc _ _ _ (by simp)).trans (heap_alloc2_new _ _ _)
  have hb1 : Below w.heap.size w w1 := by
    refine Below.grown ((((Below.refl _ w).alloc (Nat.le_refl _) _).alloc (by simp) _).alloc (by simp; omega) _) hgrow (by simp; omega) (fun k hk => ?_)
    simp [Value.ownBlock] at hk; omega
  have hsz1 := hgrow.size
  simp at hsz1
  have hg0 : ¬ g = w.heap.size := by
    rcases hat with h | h <;> (simp [Value.ownBlock] at h; omega)
  have hg1 : ¬ g = w.heap.size + 1 := by
    rcases hat with h | h <;> (simp [Value.ownBlock] at h; omega)
  have d0 := cell_of_row w1 _ 0 _ _ _ e0
  have d1 := cell_of_row w1 _ 1 _ _ _ e0
  have f0 := frozen_of_row w1 _ 0 _ _ e0
  have f1 := frozen_of_row w1 _ 1 _ _ e0
  have r0 := cell_of_row w1 _ 0 _ _ _ e1
  have r1 := cell_of_row w1 _ 1 _ _ _ e1
  have s0 := frozen_of_row w1 _ 0 _ _ e1
  have s1 := frozen_of_row w1 _ 1 _ _ e1
  simp at d0 d1 r0 r1
  have t0 : w1.cell? ⟨g, i, none⟩ = some (.int .i64 (nth T i)) := by
    rw [hown.cellAt i (by omega), List.getElem?_map, get_nth (by rw [HL.out]; exact hi)]; rfl
  have u0 := hown.frozenAt i
  have HO := Lib.hid hown
  have HB := Lib.hid hb1
  clear hown hgrow hat e0 e1 hb1
  have HF : Hid (OwnI ((((w1.setCell ⟨w.heap.size, 1, none⟩ (.slice (some ⟨g, 0, none⟩) n c)).setCell ⟨g, i, none⟩ (.int .i64 v)).setCell ⟨w.heap.size + 1, 0, none⟩ (.slice AB nB cB)).setCell ⟨w.heap.size + 1, 1, none⟩ (.slice (some ⟨g, 0, none⟩) n c))
      w.heap.size (.slice (some ⟨g, 0, none⟩) n c) (T.set i v)) := by
    have h1 := ownsRow_setCell_other HO.out (a := ⟨w.heap.size, 1, none⟩) (by simp [Value.ownBlock]; exact hg0) (.slice (some ⟨g, 0, none⟩) n c)
    have h2 := (h1.stored i (.int .i64 v)).1
    have h3 := ownsRow_setCell_other h2 (a := ⟨w.heap.size + 1, 0, none⟩) (by simp [Value.ownBlock]; exact hg1) (.slice AB nB cB)
    have h4 := ownsRow_setCell_other h3 (a := ⟨w.heap.size + 1, 1, none⟩) (by simp [Value.ownBlock]; exact hg1) (.slice (some ⟨g, 0, none⟩) n c)
    show World.ownsRow _ _ _ _ _ _ _
    rw [List.length_set, HL.out, List.map_set]
    exact h4
  go_wp2
  refine bodyPost_ret (v := .agg #[.slice AB nB cB, .slice (some ⟨g, 0, none⟩) n c]) ?_ rfl ⟨?_, g, c, rfl, HF.out⟩
  · simp [results, Try.results20, go_sem, r0, r1]
  · exact (((HB.out.setCell (by simp) _).setCell hgb _).setCell (by simp) _).setCell (by simp) _
end Go.Proofs.Ytoekcknppphnjaa
