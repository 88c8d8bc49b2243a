/- Package wal: record, sectors, laid. -/
import Derived.Test.YtnbefiaeihialaaGreatWalL
import Derived.Test.YtnbefiaeihialaaGreatShelf
set_option linter.unusedVariables false
set_option linter.unusedSimpArgs false
namespace Go.Proofs.YtnbefiaeihialaaGreat
open Go.RowKit
set_option maxRecDepth 1000000 in
theorem sha_abc : (shaF [97, 98, 99]).getD 0 0 = 0xba ∧ (shaF [97, 98, 99]).getD 31 0 = 0xad := by decide +kernel
theorem sectors_any (n : Nat) (w : World) (hn : n ≤ 1000000000000) :
    Calls Tryz.prog 39 #[.int .i64 n] w fun e w' => e = .returned (.int .i64 (secN n)) ∧ w = w' := by
  have hn0 : (0 : Int) ≤ (n : Int) := by omega
  have hs : ((secN n : Nat) : Int) = ((n : Int) + 1 + 64 - 1) / 64 := by unfold secN; omega
  rw [hs]
  clear hs
  go_enter Tryz.func39, Tryz.ntmps39
  go_wp2
  go_ret
  exact ⟨rfl, rfl⟩
theorem num4 (v : Nat) (w : World) (hv : v < 4611686018427387904) : ∃ nb : ByteArray, nb.data.toList = bigF v 4 ∧ nb.size = 4 ∧ Calls Tryz.prog 32 #[.int .i64 v, .int .i64 4] w fun e w' => e = .returned (.string nb) ∧ Below w.heap.size w w' :=
  ⟨⟨(bigF v 4).toArray⟩, by simp, by rw [lsize, bigF_len], num_any v 4 w hv (by decide)⟩
set_option maxRecDepth 100000 in
set_option maxHeartbeats 4000000 in
theorem record_any (s g : Nat) (st : St) (mb : Nat) (d : Int) (tab : List Int) (gen n : Nat) (t : ByteArray) (w : World) (h : StB w s g st mb d 0 tab) (hd : SumOk d tab) (hg : gen < 4611686018427387904) (hn : n < 4611686018427387904) (ht : t.size ≤ 1000000000) :
    Calls Tryz.prog 37 #[.pointer (some ⟨s, 0, none⟩), .int .i64 gen, .int .i64 n, .string t] w fun e w' => e = .returned (.string ⟨(recF shaF gen n t.data.toList).toArray⟩) ∧ StB w' s g st mb 1 0 tabF ∧ Eff (· = s) w w' := by
  have ht0 : (0 : Int) ≤ (t.size : Int) := by omega
  obtain ⟨b1, d1, z1, c1⟩ := num4 gen w hg
  have H := Lib.hid h
  obtain ⟨RES, hRES⟩ : ∃ R : ByteArray, R = ⟨(recF shaF gen n t.data.toList).toArray⟩ := ⟨_, rfl⟩
  rw [← hRES]
  have HR := Lib.hid (And.intro hRES (And.intro hd d1))
  clear h hRES hd d1
  go_enter Tryz.func37, Tryz.ntmps37
  go_wp2_with fail
  refine c1.mono ?_
  rintro e w1 ⟨rfl, hb1⟩
  have H1 := Lib.hid hb1
  clear c1 hb1
  obtain ⟨b2, d2, z2, c2⟩ := num4 n w1 hn
  have HD2 := Lib.hid d2
  have q1 : (⟨#[77, 71]⟩ : ByteArray).size = 2 := rfl
  have s1 : ¬ (9223372036854775807 < (⟨#[77, 71]⟩ : ByteArray).size + b1.size) := by omega
  clear d2
  go_wp2_with fail
  refine c2.mono ?_
  rintro e w2 ⟨rfl, hb2⟩
  have H2 := Lib.hid (H1.out.trans (hb2.mono H1.out.size))
  clear c2 hb2
  obtain ⟨b3, d3, z3, c3⟩ := num4 t.size w2 (by omega)
  have HD3 := Lib.hid d3
  clear d3
  go_wp2_with fail
  refine c3.mono ?_
  rintro e w3 ⟨rfl, hb3⟩
  have hB3 := H2.out.trans (hb3.mono H2.out.size)
  obtain ⟨x, hx⟩ : ∃ x : ByteArray, x = (⟨#[77, 71]⟩ : ByteArray) ++ b1 ++ b2 ++ b3 ++ t := ⟨_, rfl⟩
  have hxd : x.data.toList = recH gen n t.data.toList := by
    rw [hx]
    unfold recH
    rw [← HR.out.2.2, ← HD2.out, bsize, ← HD3.out]
    simp
  have hxs : x.size = 14 + t.size := by rw [← bsize, hxd, recH_len, bsize]
  have c4 := sum_any s g st mb d tab x w3 (H.out.below hB3) HR.out.2.1 (by omega)
  have HE := Lib.hid (And.intro (Eff.of_below (S := (· = s)) hB3) hxd)
  obtain ⟨sh, hsh⟩ : ∃ sh : ByteArray, sh = ⟨(shaF x.data.toList).toArray⟩ := ⟨_, rfl⟩
  rw [← hsh] at c4
  have hss : sh.size = 32 := by rw [hsh, lsize, shaF_len]
  have hfin : x ++ sh = RES := by
    rw [HR.out.1]
    apply ba_ext
    unfold recF
    rw [← hxd, hsh]; simp
  have HFIN := Lib.hid hfin
  have hn1 : ¬ (9223372036854775807 < x.size + sh.size) := by omega
  clear c3 hb3 hB3 hxd hsh hfin
  rw [hx] at c4 HFIN hn1
  go_wp2_with fail
  refine c4.mono ?_
  rintro e w4 ⟨rfl, hst, he⟩
  have HF := Lib.hid (And.intro hst (HE.out.1.trans he))
  clear c4 hst he hx
  go_wp2
  go_ret
  exact ⟨by rw [HFIN.out]; rfl, HF.out⟩
theorem ext_list (s : ByteArray) (a b : Nat) : (s.extract a b).data.toList = (s.data.toList.drop a).take (b - a) := by
  rw [Lib.extract_data]
theorem repeat0 (c : Nat) : Lib.repeatL [0] c = List.replicate c 0 := by induction c with | zero => rfl | succ c ih => simp [Lib.repeatL, ih, List.replicate_succ]
set_option maxRecDepth 100000 in
set_option maxHeartbeats 4000000 in
theorem laid_any (b : ByteArray) (w : World) (hb : b.size ≤ 2000000000) :
    Calls Tryz.prog 58 #[.string b] w fun e w' => e = .returned (.string ⟨(laidF b.data.toList).toArray⟩) ∧ Below w.heap.size w w' := by
  have hb0 : (0 : Int) ≤ (b.size : Int) := by omega
  obtain ⟨RES, hRES⟩ : ∃ R : ByteArray, R = ⟨(laidF b.data.toList).toArray⟩ := ⟨_, rfl⟩
  rw [← hRES]
  obtain ⟨m, hm⟩ : ∃ m : Nat, m = min b.size 63 := ⟨_, rfl⟩
  have hmi : min (b.size : Int) 63 = (m : Int) := by omega
  have hm0 : (0 : Int) ≤ (m : Int) := by omega
  have hm63 : (m : Int) ≤ 63 := by omega
  have hmb : (m : Int) ≤ (b.size : Int) := by omega
  have hmw : IntKind.i64.wrap (63 - (m : Int)) = 63 - (m : Int) := by rw [IntKind.wrap_i64]; omega
  have c1 := Tryz.strings_Repeat ⟨#[0]⟩ (63 - m) w.drew (by omega) (by show 1 * (63 - m) ≤ _; omega)
  rw [show ((63 - m : Nat) : Int) = 63 - (m : Int) by omega] at c1
  rw [show (⟨#[0]⟩ : ByteArray).data.toList = [0] from rfl, repeat0] at c1
  obtain ⟨zs, hzs⟩ : ∃ zs : ByteArray, zs = ⟨(List.replicate (63 - m) 0).toArray⟩ := ⟨_, rfl⟩
  rw [← hzs] at c1
  have hzz : zs.size = 63 - m := by rw [hzs, lsize, List.length_replicate]
  have hfin : b.extract 0 m ++ zs ++ ⟨#[77]⟩ ++ b.extract m b.size = RES := by
    rw [hRES]
    apply ba_ext
    unfold laidF
    have e1 : (b.extract 0 m).data.toList = b.data.toList.take 63 := by
      rw [ext_list]
      simp only [List.drop_zero, Nat.sub_zero]
      rcases Nat.lt_or_ge b.size 63 with h | h
      · rw [List.take_of_length_le (by rw [bsize]; omega), List.take_of_length_le (by rw [bsize]; omega)]
      · rw [show m = 63 by omega]
    have e2 : (b.extract m b.size).data.toList = b.data.toList.drop 63 := by
      rw [ext_list]
      rcases Nat.lt_or_ge b.size 63 with h | h
      · rw [show m = b.size by omega, Nat.sub_self, List.take_zero, List.drop_eq_nil_of_le (by rw [bsize]; omega)]
      · rw [show m = 63 by omega, List.take_of_length_le (by rw [List.length_drop, bsize]; exact Nat.le_refl _)]
    have e3 : zs.data.toList = List.replicate (63 - b.data.toList.length) 0 := by
      rw [hzs, bsize]
      show List.replicate (63 - m) 0 = _
      congr 1; omega
    simp only [ByteArray.data_append, Array.toList_append, e1, e2, e3]
  have q1 : (b.extract 0 m).size = m := by rw [ByteArray.size_extract]; omega
  have q2 : (b.extract m b.size).size = b.size - m := by rw [ByteArray.size_extract]; omega
  have hn1 : ¬ (9223372036854775807 < m + (63 - m)) := by omega
  have hn2 : ¬ (9223372036854775807 < m + (63 - m) + 1) := by omega
  have hn3 : ¬ (9223372036854775807 < m + (63 - m) + 1 + (b.size - m)) := by omega
  have HFIN := Lib.hid hfin
  have HM := Lib.hid (And.intro hm hzz)
  clear hfin hRES hzs hm
  go_enter Tryz.func58, Tryz.ntmps58
  go_upto_region 2 with fail
  go_region_law (go_simp; go_at_call 71; (with_reducible refine c1.mono ?_); rintro e w9 ⟨rfl, hb9⟩)
  all_goals
    have HF := Lib.hid (below_undrew hb9)
    clear hb9
    go_wp2
    go_ret
    exact ⟨by rw [HFIN.out]; rfl, HF.out⟩
end Go.Proofs.YtnbefiaeihialaaGreat
