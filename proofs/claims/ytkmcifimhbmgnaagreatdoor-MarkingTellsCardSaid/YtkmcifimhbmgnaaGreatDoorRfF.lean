/- The document's marking: Line, Mark, Read, Check. -/
import Derived.Test.YtkmcifimhbmgnaaGreatDoorRfE
import Derived.Test.YtkmcifimhbmgnaaGreatDoorMrkC
set_option linter.unusedVariables false
set_option linter.unusedSimpArgs false
namespace Go.Proofs.YtkmcifimhbmgnaaGreatDoor
open Go.RowKit
set_option maxRecDepth 100000 in
set_option maxHeartbeats 8000000 in
theorem rline_any (v1 v2 : Value) (lv cp : List ByteArray) (a : Int) (m : Nat) (w : World) (h1 : SlIn w v1 lv) (h2 : SlIn w v2 cp) (hml : lv.length ≤ 9223372036854775807 ∧ cp.length ≤ 9223372036854775807) (hz : ∀ x ∈ lv ++ cp, x.size ≤ 9223372036854775807) (hmm : m < M64) :
    Calls Tryz.prog 9 #[.agg #[v1, v2], labV a m] w fun e w' => e = .returned (.tuple #[.string ⟨(mlT (nms lv) (nms cp) a m).toArray⟩, .int .i64 (lprE (nms lv) (nms cp) a m)]) ∧ Below w.heap.size w w' := by
  unfold labV
  obtain ⟨A, c, rfl, hA, hA0⟩ := id h1
  obtain ⟨B, q, rfl, hB, hB0⟩ := id h2
  have HIN := Lib.hid (And.intro hA (And.intro hB (And.intro h1 h2)))
  have HML := Lib.hid hml
  have HZ := Lib.hid hz
  clear hA hB hA0 hB0 h1 h2 hz
  generalize hn : lv.length = n at *
  generalize hk : cp.length = k at *
  obtain ⟨hnm, hkm⟩ := hml
  have HNK := Lib.hid (And.intro hn hk)
  have hn0 : (0 : Int) ≤ (n : Int) := by omega
  have hk0 : (0 : Int) ≤ (k : Int) := by omega
  clear hn hk
  have hlc := lpr_cases (nms lv) (nms cp) a m
  obtain ⟨RT, hRT⟩ : ∃ RT, RT = mlT (nms lv) (nms cp) a m := ⟨_, rfl⟩
  obtain ⟨RE, hRE⟩ : ∃ RE, RE = lprE (nms lv) (nms cp) a m := ⟨_, rfl⟩
  rw [← hRT, ← hRE]
  unfold mlT at hRT
  have HR := Lib.hid (And.intro hRT hRE)
  clear hRT hRE
  have hbx := And.intro (heap_alloc2_old w (.cells #[.slice A n c, .slice B k q] 24 (0, 0)) (.cells #[.int .i64 a, .int .u64 (m : Int)] 27 (0, 0))) (heap_alloc2_new w (.cells #[.slice A n c, .slice B k q] 24 (0, 0)) (.cells #[.int .i64 a, .int .u64 (m : Int)] 27 (0, 0)))
  have hb3 := below2 w (.cells #[.slice A n c, .slice B k q] 24 (0, 0)) (.cells #[.int .i64 a, .int .u64 (m : Int)] 27 (0, 0))
  go_enter Tryz.func9, Tryz.ntmps9
  go_wp2_with fail
  generalize ((w.alloc (.cells #[.slice A n c, .slice B k q] 24 (0, 0))).alloc (.cells #[.int .i64 a, .int .u64 (m : Int)] 27 (0, 0))) = w1 at *
  obtain ⟨C, hCd⟩ : ∃ C : World → Prop, C = fun w3 => Hid (Below w1.heap.size w1 w3) := ⟨_, rfl⟩
  have key2 : ∀ w3, C w3 → w3.cell? ⟨w.heap.size, 0, none⟩ = some (.slice A n c) ∧ w3.cell? ⟨w.heap.size, 1, none⟩ = some (.slice B k q) ∧ w3.cell? ⟨w.heap.size + 1, 0, none⟩ = some (.int .i64 a) ∧ w3.cell? ⟨w.heap.size + 1, 1, none⟩ = some (.int .u64 (m : Int)) ∧ C w3 := by
    intro w3 h
    have hb := h
    rw [hCd] at hb
    obtain ⟨x0, y0⟩ := agg_keep hbx.1 hb.out
    obtain ⟨x1, y1⟩ := agg_keep hbx.2 hb.out
    exact ⟨x0, y0, x1, y1, h⟩
  have hCs : ∀ w3, C w3 → C w3.drew := fun w3 h => by rw [hCd] at h ⊢; exact Lib.hid h.out.drew
  have hC2 : C w1 := by rw [hCd]; exact Lib.hid (Below.refl _ _)
  have hCb : ∀ w3, C w3 → Below w.heap.size w w3 := fun w3 h => by rw [hCd] at h; exact hb3.trans (h.out.mono hb3.size)
  have hCn : ∀ W W', C W → Below W.heap.size W W' → C W' := fun W W' h h' => by rw [hCd] at h ⊢; exact Lib.hid (h.out.trans (h'.mono h.out.size))
  have hCk : ∀ W o, C W → C (W.alloc o) := fun W o h => hCn W _ h ((Below.refl _ W).alloc (Nat.le_refl _) o)
  have HCK := Lib.hid hCk
  have hsl : ∀ W, C W → SlIn W (.slice A n c) lv ∧ SlIn W (.slice B k q) cp ∧ StrsIn W A n lv ∧ StrsIn W B k cp := fun W h => by have hb := hCb W h; exact ⟨HIN.out.2.2.1.below hb, HIN.out.2.2.2.below hb, HIN.out.1.below hb, HIN.out.2.1.below hb⟩
  have HSL := Lib.hid hsl
  clear hsl
  have HCB := Lib.hid hCb
  have HCN := Lib.hid hCn
  have HCS := Lib.hid hCs
  have HKY := Lib.hid key2
  clear hCb hCn hCs hCk key2 hbx hb3 hCd
  have cP := fun W (h : C W) => (rprint_any (.slice A n c) (.slice B k q) lv cp a m W (HSL.out W h).1 (HSL.out W h).2.1 (by rw [HNK.out.1, HNK.out.2]; exact HML.out) HZ.out hmm).mono fun e w3 ⟨he, hb⟩ => (⟨he, HCN.out W w3 h hb⟩ : _ ∧ C w3)
  unfold labV at cP
  rcases hlc with ⟨hi, ht, he, hl⟩ | ⟨hi, ht, he⟩
  · rw [ht, he] at cP
    obtain ⟨hRT, hRE⟩ := HR.out
    rw [hi, if_pos rfl] at hRT
    rw [he] at hRE
    unfold mlF at hRT
    subst hRE
    generalize ltxt (nms lv) (nms cp) a.toNat m = T at *
    have hlz : (⟨T.toArray⟩ : ByteArray).size = T.length := lsize T
    have HRT := Lib.hid hRT
    clear hi ht he hmm hRT HR
    refine (cP _ hC2).mono ?_
    rintro e wa ⟨rfl, hCa⟩
    clear cP hC2
    obtain ⟨a0, a1, a2, a3, aC⟩ := HKY.out _ hCa
    go_wp2
    go_ret2
    exact ⟨by rw [HRT.out, ← mcat]; rfl, HCB.out _ hCa⟩
  · rw [ht] at cP
    obtain ⟨hRT, hRE⟩ := HR.out
    rw [hi, if_neg (by decide)] at hRT
    subst hRT
    generalize lprE (nms lv) (nms cp) a m = E at *
    clear hi ht hmm HR
    subst hRE
    rcases he with rfl | rfl
    all_goals
      refine (cP _ hC2).mono ?_
      rintro e wa ⟨rfl, hCa⟩
      clear cP hC2
      obtain ⟨a0, a1, a2, a3, aC⟩ := HKY.out _ hCa
      go_wp2
      go_ret2
      exact ⟨rfl, HCB.out _ hCa⟩
set_option maxRecDepth 100000 in
set_option maxHeartbeats 8000000 in
theorem rmark_any (v1 v2 : Value) (lv cp : List ByteArray) (a : Int) (m : Nat) (s : ByteArray) (w : World) (h1 : SlIn w v1 lv) (h2 : SlIn w v2 cp) (hml : lv.length ≤ 9223372036854775807 ∧ cp.length ≤ 9223372036854775807) (hz : ∀ x ∈ lv ++ cp, x.size ≤ 9223372036854775807) (hmm : m < M64) (hs : s.size ≤ 100000) :
    Calls Tryz.prog 13 #[.agg #[v1, v2], labV a m, .string s] w fun e w' => e = .returned (.tuple #[.string ⟨(mkT (nms lv) (nms cp) a m s.data.toList).toArray⟩, .int .i64 (lprE (nms lv) (nms cp) a m)]) ∧ Below w.heap.size w w' := by
  unfold labV
  obtain ⟨A, c, rfl, hA, hA0⟩ := id h1
  obtain ⟨B, q, rfl, hB, hB0⟩ := id h2
  have HIN := Lib.hid (And.intro hA (And.intro hB (And.intro h1 h2)))
  have HML := Lib.hid hml
  have HZ := Lib.hid hz
  clear hA hB hA0 hB0 h1 h2 hz
  generalize hn : lv.length = n at *
  generalize hk : cp.length = k at *
  obtain ⟨hnm, hkm⟩ := hml
  have HNK := Lib.hid (And.intro hn hk)
  have hn0 : (0 : Int) ≤ (n : Int) := by omega
  have hk0 : (0 : Int) ≤ (k : Int) := by omega
  clear hn hk
  have hlc := lpr_cases (nms lv) (nms cp) a m
  obtain ⟨RT, hRT⟩ : ∃ RT, RT = mkT (nms lv) (nms cp) a m s.data.toList := ⟨_, rfl⟩
  obtain ⟨RE, hRE⟩ : ∃ RE, RE = lprE (nms lv) (nms cp) a m := ⟨_, rfl⟩
  rw [← hRT, ← hRE]
  unfold mkT at hRT
  have HR := Lib.hid (And.intro hRT hRE)
  clear hRT hRE
  have hbx := And.intro (heap_alloc2_old w (.cells #[.slice A n c, .slice B k q] 24 (0, 0)) (.cells #[.int .i64 a, .int .u64 (m : Int)] 27 (0, 0))) (heap_alloc2_new w (.cells #[.slice A n c, .slice B k q] 24 (0, 0)) (.cells #[.int .i64 a, .int .u64 (m : Int)] 27 (0, 0)))
  have hb3 := below2 w (.cells #[.slice A n c, .slice B k q] 24 (0, 0)) (.cells #[.int .i64 a, .int .u64 (m : Int)] 27 (0, 0))
  go_enter Tryz.func13, Tryz.ntmps13
  go_wp2_with fail
  generalize ((w.alloc (.cells #[.slice A n c, .slice B k q] 24 (0, 0))).alloc (.cells #[.int .i64 a, .int .u64 (m : Int)] 27 (0, 0))) = w1 at *
  obtain ⟨C, hCd⟩ : ∃ C : World → Prop, C = fun w3 => Hid (Below w1.heap.size w1 w3) := ⟨_, rfl⟩
  have key2 : ∀ w3, C w3 → w3.cell? ⟨w.heap.size, 0, none⟩ = some (.slice A n c) ∧ w3.cell? ⟨w.heap.size, 1, none⟩ = some (.slice B k q) ∧ w3.cell? ⟨w.heap.size + 1, 0, none⟩ = some (.int .i64 a) ∧ w3.cell? ⟨w.heap.size + 1, 1, none⟩ = some (.int .u64 (m : Int)) ∧ C w3 := by
    intro w3 h
    have hb := h
    rw [hCd] at hb
    obtain ⟨x0, y0⟩ := agg_keep hbx.1 hb.out
    obtain ⟨x1, y1⟩ := agg_keep hbx.2 hb.out
    exact ⟨x0, y0, x1, y1, h⟩
  have hCs : ∀ w3, C w3 → C w3.drew := fun w3 h => by rw [hCd] at h ⊢; exact Lib.hid h.out.drew
  have hC2 : C w1 := by rw [hCd]; exact Lib.hid (Below.refl _ _)
  have hCb : ∀ w3, C w3 → Below w.heap.size w w3 := fun w3 h => by rw [hCd] at h; exact hb3.trans (h.out.mono hb3.size)
  have hCn : ∀ W W', C W → Below W.heap.size W W' → C W' := fun W W' h h' => by rw [hCd] at h ⊢; exact Lib.hid (h.out.trans (h'.mono h.out.size))
  have hCk : ∀ W o, C W → C (W.alloc o) := fun W o h => hCn W _ h ((Below.refl _ W).alloc (Nat.le_refl _) o)
  have HCK := Lib.hid hCk
  have hsl : ∀ W, C W → SlIn W (.slice A n c) lv ∧ SlIn W (.slice B k q) cp ∧ StrsIn W A n lv ∧ StrsIn W B k cp := fun W h => by have hb := hCb W h; exact ⟨HIN.out.2.2.1.below hb, HIN.out.2.2.2.below hb, HIN.out.1.below hb, HIN.out.2.1.below hb⟩
  have HSL := Lib.hid hsl
  clear hsl
  have HCB := Lib.hid hCb
  have HCN := Lib.hid hCn
  have HCS := Lib.hid hCs
  have HKY := Lib.hid key2
  clear hCb hCn hCs hCk key2 hbx hb3 hCd
  have cP := fun W (h : C W) => (rline_any (.slice A n c) (.slice B k q) lv cp a m W (HSL.out W h).1 (HSL.out W h).2.1 (by rw [HNK.out.1, HNK.out.2]; exact HML.out) HZ.out hmm).mono fun e w3 ⟨he, hb⟩ => (⟨he, HCN.out W w3 h hb⟩ : _ ∧ C w3)
  unfold labV mlT at cP
  rcases hlc with ⟨hi, ht, he, hl⟩ | ⟨hi, ht, he⟩
  · rw [hi, he, if_pos rfl] at cP
    obtain ⟨hRT, hRE⟩ := HR.out
    rw [hi, if_pos rfl] at hRT
    rw [he] at hRE
    subst hRE
    have hl2 : (mlF (nms lv) (nms cp) a.toNat m).length ≤ 2006 := by
      unfold mlF
      rw [List.length_append]
      have : mword.length = 6 := rfl
      omega
    generalize mlF (nms lv) (nms cp) a.toNat m = T at *
    have hlz : (⟨T.toArray⟩ : ByteArray).size = T.length := lsize T
    have HRT := Lib.hid hRT
    clear hi ht he hmm hRT HR hl
    refine (cP _ hC2).mono ?_
    rintro e wa ⟨rfl, hCa⟩
    clear cP hC2
    obtain ⟨a0, a1, a2, a3, aC⟩ := HKY.out _ hCa
    go_wp2
    go_ret2
    exact ⟨by rw [HRT.out, ← mcat2]; rfl, HCB.out _ hCa⟩
  · rw [hi, if_neg (by decide)] at cP
    obtain ⟨hRT, hRE⟩ := HR.out
    rw [hi, if_neg (by decide)] at hRT
    subst hRT
    generalize lprE (nms lv) (nms cp) a m = E at *
    clear hi ht hmm HR
    subst hRE
    rcases he with rfl | rfl
    all_goals
      refine (cP _ hC2).mono ?_
      rintro e wa ⟨rfl, hCa⟩
      clear cP hC2
      obtain ⟨a0, a1, a2, a3, aC⟩ := HKY.out _ hCa
      go_wp2
      go_ret2
      exact ⟨rfl, HCB.out _ hCa⟩
end Go.Proofs.YtkmcifimhbmgnaaGreatDoor
