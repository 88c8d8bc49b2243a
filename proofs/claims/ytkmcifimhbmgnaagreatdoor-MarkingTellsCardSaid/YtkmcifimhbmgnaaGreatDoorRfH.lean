/- The document's marking: Check. -/
import Derived.Test.YtkmcifimhbmgnaaGreatDoorRfG
set_option linter.unusedVariables false
set_option linter.unusedSimpArgs false
namespace Go.Proofs.YtkmcifimhbmgnaaGreatDoor
open Go.RowKit
set_option maxRecDepth 100000 in
set_option maxHeartbeats 8000000 in
theorem rcheck_any (v1 v2 : Value) (lv cp : List ByteArray) (a : Int) (m : Nat) (s : ByteArray) (w : World) (h1 : SlIn w v1 lv) (h2 : SlIn w v2 cp) (hml : lv.length ≤ 9223372036854775807 ∧ cp.length ≤ 9223372036854775807) (hz : ∀ x ∈ lv ++ cp, x.size ≤ 9223372036854775807) (hmm : m < M64) (hs : s.size ≤ 100000) :
    Calls Tryz.prog 15 #[.agg #[v1, v2], labV a m, .string s] w fun e w' => e = .returned (.int .i64 (ckF (nms lv) (nms cp) a m s.data.toList)) ∧ Below w.heap.size w w' := by
  unfold labV
  obtain ⟨A, c, rfl, hA, hA0⟩ := id h1
  obtain ⟨B, q, rfl, hB, hB0⟩ := id h2
  have HIN := Lib.hid (And.intro hA (And.intro hB (And.intro h1 h2)))
  have HML := Lib.hid hml
  have HZ := Lib.hid hz
  clear hA hB hA0 hB0 h1 h2 hz
  generalize hn : lv.length = n at *
  generalize hk : cp.length = k at *
  obtain ⟨hnm, hkm⟩ := hml
  have HNK := Lib.hid (And.intro hn hk)
  have hn0 : (0 : Int) ≤ (n : Int) := by omega
  have hk0 : (0 : Int) ≤ (k : Int) := by omega
  clear hn hk
  obtain ⟨R, hR⟩ : ∃ R, R = ckF (nms lv) (nms cp) a m s.data.toList := ⟨_, rfl⟩
  rw [← hR]
  unfold ckF at hR
  have hlt := rdF_lt (lv := nms lv) (cp := nms cp) s.data.toList
  have hbx := And.intro (heap_alloc2_old w (.cells #[.slice A n c, .slice B k q] 24 (0, 0)) (.cells #[.int .i64 a, .int .u64 (m : Int)] 27 (0, 0))) (heap_alloc2_new w (.cells #[.slice A n c, .slice B k q] 24 (0, 0)) (.cells #[.int .i64 a, .int .u64 (m : Int)] 27 (0, 0)))
  have hb3 := below2 w (.cells #[.slice A n c, .slice B k q] 24 (0, 0)) (.cells #[.int .i64 a, .int .u64 (m : Int)] 27 (0, 0))
  go_enter Tryz.func15, Tryz.ntmps15
  go_wp2_with fail
  generalize ((w.alloc (.cells #[.slice A n c, .slice B k q] 24 (0, 0))).alloc (.cells #[.int .i64 a, .int .u64 (m : Int)] 27 (0, 0))) = w1 at *
  obtain ⟨C, hCd⟩ : ∃ C : World → Prop, C = fun w3 => Hid (Below w1.heap.size w1 w3) := ⟨_, rfl⟩
  have key2 : ∀ w3, C w3 → w3.cell? ⟨w.heap.size, 0, none⟩ = some (.slice A n c) ∧ w3.cell? ⟨w.heap.size, 1, none⟩ = some (.slice B k q) ∧ w3.cell? ⟨w.heap.size + 1, 0, none⟩ = some (.int .i64 a) ∧ w3.cell? ⟨w.heap.size + 1, 1, none⟩ = some (.int .u64 (m : Int)) ∧ C w3 := by
    intro w3 h
    have hb := h
    rw [hCd] at hb
    obtain ⟨x0, y0⟩ := agg_keep hbx.1 hb.out
    obtain ⟨x1, y1⟩ := agg_keep hbx.2 hb.out
    exact ⟨x0, y0, x1, y1, h⟩
  have hCs : ∀ w3, C w3 → C w3.drew := fun w3 h => by rw [hCd] at h ⊢; exact Lib.hid h.out.drew
  have hC2 : C w1 := by rw [hCd]; exact Lib.hid (Below.refl _ _)
  have hCb : ∀ w3, C w3 → Below w.heap.size w w3 := fun w3 h => by rw [hCd] at h; exact hb3.trans (h.out.mono hb3.size)
  have hCn : ∀ W W', C W → Below W.heap.size W W' → C W' := fun W W' h h' => by rw [hCd] at h ⊢; exact Lib.hid (h.out.trans (h'.mono h.out.size))
  have hCk : ∀ W o, C W → C (W.alloc o) := fun W o h => hCn W _ h ((Below.refl _ W).alloc (Nat.le_refl _) o)
  have HCK := Lib.hid hCk
  have hsl : ∀ W, C W → SlIn W (.slice A n c) lv ∧ SlIn W (.slice B k q) cp ∧ StrsIn W A n lv ∧ StrsIn W B k cp := fun W h => by have hb := hCb W h; exact ⟨HIN.out.2.2.1.below hb, HIN.out.2.2.2.below hb, HIN.out.1.below hb, HIN.out.2.1.below hb⟩
  have HSL := Lib.hid hsl
  clear hsl
  have HCB := Lib.hid hCb
  have HCN := Lib.hid hCn
  have HCS := Lib.hid hCs
  have HKY := Lib.hid key2
  clear hCb hCn hCs hCk key2 hbx hb3 hCd
  have cP := fun W (h : C W) => (rread_any (.slice A n c) (.slice B k q) lv cp s W (HSL.out W h).1 (HSL.out W h).2.1 (by rw [HNK.out.1, HNK.out.2]; exact HML.out) HZ.out hs).mono fun e w3 ⟨he, hb⟩ => (⟨he, HCN.out W w3 h hb⟩ : _ ∧ C w3)
  generalize rdF (nms lv) (nms cp) s.data.toList = P at *
  obtain ⟨x, y, r, z⟩ := P
  unfold labV at cP
  dsimp only at cP hR hlt
  have HR := Lib.hid hR
  have HM := Lib.hid (And.intro hmm hlt)
  clear hR hlt hmm
  refine (cP _ hC2).mono ?_
  rintro e wa ⟨rfl, hCa⟩
  clear cP hC2
  have gN := heap_alloc_new wa (.cells #[.int .i64 (x : Int), .int .u64 (y : Int)] 27 (0, 0))
  have hCN := HCK.out wa (.cells #[.int .i64 (x : Int), .int .u64 (y : Int)] 27 (0, 0)) hCa
  obtain ⟨a0, a1, a2, a3, aC⟩ := HKY.out _ hCN
  by_cases hz : z = 0
  · have hR1 := HR.out.trans (if_pos hz)
    have c1 := fun W => rdom_any a (x : Int) m y HM.out.1 HM.out.2 W
    unfold labV at c1
    subst hz
    cases hd : domB a m (x : Int) y with
    | true =>
      rw [hd] at hR1 c1
      obtain rfl : R = 0 := hR1
      have HC := Lib.hid hCN
      clear hd hCN gN
      go_wp2_with fail
      refine (c1 _).mono ?_
      rintro e wb ⟨rfl, hb⟩
      have HB := Lib.hid ((HCB.out _ HC.out).trans (hb.mono (HCB.out _ HC.out).size))
      clear hb c1
      go_wp2
      go_ret
      exact ⟨rfl, HB.out⟩
    | false =>
      rw [hd] at hR1 c1
      obtain rfl : R = 8 := hR1
      have HC := Lib.hid hCN
      clear hd hCN gN
      go_wp2_with fail
      refine (c1 _).mono ?_
      rintro e wb ⟨rfl, hb⟩
      have HB := Lib.hid ((HCB.out _ HC.out).trans (hb.mono (HCB.out _ HC.out).size))
      clear hb c1
      go_wp2
      go_ret
      exact ⟨rfl, HB.out⟩
  · obtain rfl : R = z := HR.out.trans (if_neg hz)
    have zt : (R != 0) = true := by simpa using hz
    have zf : (R == 0) = false := by simpa using hz
    have HC := Lib.hid hCN
    clear hz hCN gN
    go_wp2
    go_ret
    exact ⟨rfl, HCB.out _ HC.out⟩
end Go.Proofs.YtkmcifimhbmgnaaGreatDoor
