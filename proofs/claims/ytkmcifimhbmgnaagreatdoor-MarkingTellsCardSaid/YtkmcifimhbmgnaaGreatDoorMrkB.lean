/- Package marking: Line, Mark. -/
import Derived.Test.YtkmcifimhbmgnaaGreatDoorMrkA
set_option linter.unusedVariables false
set_option linter.unusedSimpArgs false
namespace Go.Proofs.YtkmcifimhbmgnaaGreatDoor
open Go.RowKit
theorem mcat (T : Bs) : ((⟨#[77, 65, 82, 75, 58, 32]⟩ : ByteArray) ++ (⟨T.toArray⟩ : ByteArray)) = ⟨(mword ++ T).toArray⟩ := by
  apply ByteArray.ext
  apply Array.ext'
  simp [mword]
theorem mcat2 (T : Bs) (t : ByteArray) : ((⟨T.toArray⟩ : ByteArray) ++ (⟨#[13, 10]⟩ : ByteArray)) ++ t = ⟨(T ++ 13 :: 10 :: t.data.toList).toArray⟩ := by
  apply ByteArray.ext
  apply Array.ext'
  simp
set_option maxRecDepth 100000 in
set_option maxHeartbeats 4000000 in
theorem line_any (v1 v2 : Value) (lv cp : List ByteArray) (a : Int) (m : Nat) (w : World) (h1 : SlIn w v1 lv) (h2 : SlIn w v2 cp) (hml : lv.length ≤ 9223372036854775807 ∧ cp.length ≤ 9223372036854775807) (hm : m < M64) :
    Calls Tryz.prog 8 #[.agg #[v1, v2], labV a m] w fun e w' => e = .returned (.tuple #[.string ⟨(mlT (nms lv) (nms cp) a m).toArray⟩, .int .i64 (lprE (nms lv) (nms cp) a m)]) ∧ Below w.heap.size w w' := by
  have hb2 := below2 w (.cells #[v1, v2] 24 (0, 0)) (.cells #[.int .i64 a, .int .u64 (m : Int)] 27 (0, 0))
  have hg1 := heap_alloc2_new w (.cells #[v1, v2] 24 (0, 0)) (.cells #[.int .i64 a, .int .u64 (m : Int)] 27 (0, 0))
  have c1 := print_any v1 v2 lv cp a m _ (h1.below hb2) (h2.below hb2) hml hm
  unfold mlT
  rcases lpr_cases (nms lv) (nms cp) a m with ⟨hi, ht, he, hl⟩ | ⟨hi, ht, he⟩
  · rw [ht, he] at c1
    rw [hi, he, if_pos rfl]
    unfold mlF
    generalize ltxt (nms lv) (nms cp) a.toNat m = T at *
    have HB := Lib.hid hb2
    clear hi ht he h1 h2 hml hm hb2 hg1
    unfold labV at c1 ⊢
    go_enter Tryz.func8, Tryz.ntmps8
    go_wp2_with fail
    refine c1.mono ?_
    rintro e w3 ⟨rfl, hb⟩
    have HG := Lib.hid (HB.out.trans (hb.mono HB.out.size))
    clear hb c1
    go_wp2
    go_ret2
    exact ⟨by rw [← mcat]; rfl, HG.out⟩
  · rw [hi, if_neg (by decide)]
    rw [ht] at c1
    have HB := Lib.hid hb2
    generalize lprE (nms lv) (nms cp) a m = E at *
    clear hi ht h1 h2 hml hm hb2 hg1
    unfold labV at c1 ⊢
    rcases he with rfl | rfl
    all_goals
      go_enter Tryz.func8, Tryz.ntmps8
      go_wp2_with fail
      refine c1.mono ?_
      rintro e w3 ⟨rfl, hb⟩
      have HG := Lib.hid (HB.out.trans (hb.mono HB.out.size))
      clear hb c1
      go_wp2
      go_ret2
      exact ⟨rfl, HG.out⟩
set_option maxRecDepth 100000 in
set_option maxHeartbeats 4000000 in
theorem mark_any (v1 v2 : Value) (lv cp : List ByteArray) (a : Int) (m : Nat) (t : ByteArray) (w : World) (h1 : SlIn w v1 lv) (h2 : SlIn w v2 cp) (hml : lv.length ≤ 9223372036854775807 ∧ cp.length ≤ 9223372036854775807) (hm : m < M64) (ht : t.size ≤ 100000) :
    Calls Tryz.prog 12 #[.agg #[v1, v2], labV a m, .string t] w fun e w' => e = .returned (.tuple #[.string ⟨(mkT (nms lv) (nms cp) a m t.data.toList).toArray⟩, .int .i64 (lprE (nms lv) (nms cp) a m)]) ∧ Below w.heap.size w w' := by
  have hb2 := below2 w (.cells #[v1, v2] 24 (0, 0)) (.cells #[.int .i64 a, .int .u64 (m : Int)] 27 (0, 0))
  have c1 := line_any v1 v2 lv cp a m _ (h1.below hb2) (h2.below hb2) hml hm
  unfold mkT
  unfold mlT at c1
  rcases lpr_cases (nms lv) (nms cp) a m with ⟨hi, hx, he, hl⟩ | ⟨hi, hx, he⟩
  · rw [hi, he, if_pos rfl] at c1
    rw [hi, he, if_pos rfl]
    have hl2 : (mlF (nms lv) (nms cp) a.toNat m).length ≤ 2006 := by
      unfold mlF
      rw [List.length_append]
      have : mword.length = 6 := rfl
      omega
    generalize mlF (nms lv) (nms cp) a.toNat m = T at *
    have HB := Lib.hid hb2
    clear hi hx he hl h1 h2 hml hm hb2
    unfold labV at c1 ⊢
    go_enter Tryz.func12, Tryz.ntmps12
    go_wp2_with fail
    refine c1.mono ?_
    rintro e w3 ⟨rfl, hb⟩
    have HG := Lib.hid (HB.out.trans (hb.mono HB.out.size))
    have hlz : (⟨T.toArray⟩ : ByteArray).size = T.length := lsize T
    clear hb c1
    go_wp2
    go_ret2
    exact ⟨by rw [← mcat2]; rfl, HG.out⟩
  · rw [hi, if_neg (by decide)] at c1
    rw [hi, if_neg (by decide)]
    have HB := Lib.hid hb2
    generalize lprE (nms lv) (nms cp) a m = E at *
    clear hi hx h1 h2 hml hm hb2
    unfold labV at c1 ⊢
    rcases he with rfl | rfl
    all_goals
      go_enter Tryz.func12, Tryz.ntmps12
      go_wp2_with fail
      refine c1.mono ?_
      rintro e w3 ⟨rfl, hb⟩
      have HG := Lib.hid (HB.out.trans (hb.mono HB.out.size))
      clear hb c1
      go_wp2
      go_ret2
      exact ⟨rfl, HG.out⟩
end Go.Proofs.YtkmcifimhbmgnaaGreatDoor
