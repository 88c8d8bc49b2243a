/- The lattice laws: LatticeTells. -/
import Derived.Test.YtmcianehedhfeaaGreatDoorLatP
import Derived.Test.YtmcianehedhfeaaGreatDoorLatX
import Derived.Test.YtmcianehedhfeaaGreatDoorLatDj
import Derived.Test.YtmcianehedhfeaaGreatDoorLatDm
import Derived.Test.YtmcianehedhfeaaGreatDoorRfE
import Derived.Test.YtmcianehedhfeaaGreatDoorRfJ
set_option linter.unusedVariables false
set_option linter.unusedSimpArgs false
namespace Go.Proofs.YtmcianehedhfeaaGreatDoor
open Go.RowKit
set_option maxRecDepth 100000 in
set_option maxHeartbeats 16000000 in
theorem ltells_all (V1 V2 : Value) (lv cp : List ByteArray) (a b : Int) (m n : Nat) (s : ByteArray) (w : World) (hmax : MaxAt w) (h1 : SlIn w V1 lv) (h2 : SlIn w V2 cp) (hml : lv.length ≤ 9223372036854775807 ∧ cp.length ≤ 9223372036854775807) (hz : ∀ x ∈ lv ++ cp, x.size ≤ 9223372036854775807) (hm : m < M64) (hn : n < M64) (hsz : s.size ≤ 9223372036854775807) :
    Calls Tryz.prog 3 #[.agg #[V1, V2], labV a m, labV b n, .string s] w fun e w' => e = .returned (.bool true) ∧ Below w.heap.size w w' := by
  have hbx := box3 w (.cells #[V1, V2] 24 (0, 0)) (.cells #[.int .i64 a, .int .u64 (m : Int)] 27 (0, 0)) (.cells #[.int .i64 b, .int .u64 (n : Int)] 27 (0, 0))
  have hb3 := below3 w (.cells #[V1, V2] 24 (0, 0)) (.cells #[.int .i64 a, .int .u64 (m : Int)] 27 (0, 0)) (.cells #[.int .i64 b, .int .u64 (n : Int)] 27 (0, 0))
  have c0 := awake_any _ (hmax.below hb3)
  have hs1 := h1.below hb3
  have hs2 := h2.below hb3
  have hm1 := hmax.below hb3
  unfold labV
  go_enter Tryz.func3, Tryz.ntmps3
  go_wp2_with fail
  generalize (((w.alloc (.cells #[V1, V2] 24 (0, 0))).alloc (.cells #[.int .i64 a, .int .u64 (m : Int)] 27 (0, 0))).alloc (.cells #[.int .i64 b, .int .u64 (n : Int)] 27 (0, 0))) = w1 at *
  refine c0.mono ?_
  rintro e w2 ⟨rfl, hb2⟩
  obtain ⟨C, hCd⟩ : ∃ C : World → Prop, C = fun w3 => Hid (Below w1.heap.size w1 w3) := ⟨_, rfl⟩
  have key2 : ∀ w3, C w3 → w3.cell? ⟨w.heap.size, 0, none⟩ = some V1 ∧ w3.cell? ⟨w.heap.size, 1, none⟩ = some V2 ∧ w3.cell? ⟨w.heap.size + 1, 0, none⟩ = some (.int .i64 a) ∧ w3.cell? ⟨w.heap.size + 1, 1, none⟩ = some (.int .u64 (m : Int)) ∧ w3.cell? ⟨w.heap.size + 1 + 1, 0, none⟩ = some (.int .i64 b) ∧ w3.cell? ⟨w.heap.size + 1 + 1, 1, none⟩ = some (.int .u64 (n : Int)) ∧ C w3 := by
    intro w3 h
    have hb := h
    rw [hCd] at hb
    obtain ⟨x0, y0⟩ := agg_keep hbx.1 hb.out
    obtain ⟨x1, y1⟩ := agg_keep hbx.2.1 hb.out
    obtain ⟨x2, y2⟩ := agg_keep hbx.2.2 hb.out
    exact ⟨x0, y0, x1, y1, x2, y2, h⟩
  have hCs : ∀ w3, C w3 → C w3.drew := fun w3 h => by rw [hCd] at h ⊢; exact Lib.hid h.out.drew
  have hC2 : C w2 := by rw [hCd]; exact Lib.hid hb2
  have hCb : ∀ w3, C w3 → Below w.heap.size w w3 := fun w3 h => by rw [hCd] at h; exact hb3.trans (h.out.mono hb3.size)
  have hCn : ∀ W W', C W → Below W.heap.size W W' → C W' := fun W W' h h' => by rw [hCd] at h ⊢; exact Lib.hid (h.out.trans (h'.mono h.out.size))
  have hsl : ∀ W, C W → SlIn W V1 lv ∧ SlIn W V2 cp ∧ MaxAt W := fun W h => by rw [hCd] at h; exact ⟨hs1.below h.out, hs2.below h.out, hm1.below h.out⟩
  have HCB := Lib.hid hCb
  have HCN := Lib.hid hCn
  have HCS := Lib.hid hCs
  have HKY := Lib.hid key2
  have HSL := Lib.hid hsl
  clear hCb hCn hCs key2 hsl hs1 hs2 hm1 hbx hb3 c0 hCd hb2 hmax
  have cF := fun W (h : C W) => (few_any V1 V2 lv cp W (HSL.out W h).1 (HSL.out W h).2.1 hml).mono fun e w3 ⟨he, hb⟩ => (⟨he, HCN.out W w3 h hb⟩ : _ ∧ C w3)
  have hs0 : (0 : Int) ≤ (s.size : Int) := by omega
  have HP := Lib.hid (And.intro hm (And.intro hn hz))
  obtain ⟨k0, k1, k2, k3, k4, k5, kC⟩ := HKY.out _ hC2
  clear h1 h2 hm hn hz
  go_wp2_with fail
  refine (cF _ hC2).mono ?_
  rintro e wa ⟨⟨f, rfl, hf⟩, hCa⟩
  obtain ⟨a0, a1, a2, a3, a4, a5, aC⟩ := HKY.out _ hCa
  clear k0 k1 k2 k3 k4 k5 kC
  cases f with
  | false =>
    clear hf
    go_wp2
    go_ret
    exact ⟨rfl, HCB.out _ (hCa)⟩
  | true =>
    clear cF hf
    by_cases hs3 : (3000 : Int) < (s.size : Int)
    · go_wp2
      go_ret
      exact ⟨rfl, HCB.out _ (hCa)⟩
    · have hs5 : (s.size : Int) ≤ 3000 := by omega
      clear hs3
      have cA := fun W (h : C W) => (print_any V1 V2 lv cp a m W (HSL.out W h).1 (HSL.out W h).2.1 hml HP.out.1).mono fun e w3 ⟨he, hb⟩ => (⟨he, HCN.out W w3 h hb⟩ : _ ∧ C w3)
      have cB := fun W (h : C W) => (rprint_any V1 V2 lv cp a m W (HSL.out W h).1 (HSL.out W h).2.1 hml HP.out.2.2 HP.out.1).mono fun e w3 ⟨he, hb⟩ => (⟨he, HCN.out W w3 h hb⟩ : _ ∧ C w3)
      have cD := fun W (h : C W) => (parse_any V1 V2 lv cp s W (HSL.out W h).1 (HSL.out W h).2.1 hml (by omega) (HSL.out W h).2.2).mono fun e w3 ⟨he, hb⟩ => (⟨he, HCN.out W w3 h hb⟩ : _ ∧ C w3)
      generalize hST : (⟨(lprT (nms lv) (nms cp) a m).toArray⟩ : ByteArray) = ST at *
      generalize hR : lpP (nms lv) (nms cp) s.data.toList = R at *
      obtain ⟨x, y, z⟩ := R
      unfold labV at cA cB cD
      dsimp only at cD
      generalize hE : lprE (nms lv) (nms cp) a m = E at *
      have HR := Lib.hid hR
      clear hST hR hE
      go_wp2_with fail
      refine (cA _ hCa).mono ?_
      rintro e wb ⟨rfl, hCb⟩
      obtain ⟨b0, b1, b2, b3, b4, b5, bC⟩ := HKY.out _ hCb
      clear a0 a1 a2 a3 a4 a5 aC
      clear cA
      go_wp2_with fail
      refine (cB _ hCb).mono ?_
      rintro e wc ⟨rfl, hCc⟩
      obtain ⟨c0, c1, c2, c3, c4, c5, cC⟩ := HKY.out _ hCc
      clear b0 b1 b2 b3 b4 b5 bC
      clear cB
      go_wp2_with fail
      refine (cD _ hCc).mono ?_
      rintro e wd ⟨rfl, hCd⟩
      obtain ⟨d0, d1, d2, d3, d4, d5, dC⟩ := HKY.out _ hCd
      clear c0 c1 c2 c3 c4 c5 cC
      clear cD
      have gD := heap_alloc_new wd (.cells #[.int .i64 (x : Int), .int .u64 (y : Int)] 27 (0, 0))
      have hAD : C (wd.alloc (.cells #[.int .i64 (x : Int), .int .u64 (y : Int)] 27 (0, 0))) := HCN.out _ _ hCd ((Below.refl _ _).alloc (Nat.le_refl _) _)
      obtain ⟨qd0, qd1, qd2, qd3, qd4, qd5, qdC⟩ := HKY.out _ hAD
      obtain ⟨qd6, qd7⟩ := agg_keep gD (Below.refl _ _)
      clear d0 d1 d2 d3 d4 d5 dC
      go_wp2_with fail
      generalize wd.alloc (.cells #[.int .i64 (x : Int), .int .u64 (y : Int)] 27 (0, 0)) = we at *
      obtain ⟨D, hDd⟩ : ∃ D : World → Prop, D = fun w3 => C w3 ∧ Hid (Below we.heap.size we w3) := ⟨_, rfl⟩
      have kyD : ∀ w3, D w3 → w3.cell? ⟨w.heap.size, 0, none⟩ = some V1 ∧ w3.cell? ⟨w.heap.size, 1, none⟩ = some V2 ∧ w3.cell? ⟨w.heap.size + 1, 0, none⟩ = some (.int .i64 a) ∧ w3.cell? ⟨w.heap.size + 1, 1, none⟩ = some (.int .u64 (m : Int)) ∧ w3.cell? ⟨w.heap.size + 1 + 1, 0, none⟩ = some (.int .i64 b) ∧ w3.cell? ⟨w.heap.size + 1 + 1, 1, none⟩ = some (.int .u64 (n : Int)) ∧ w3.cell? ⟨wd.heap.size, 0, none⟩ = some (.int .i64 (x : Int)) ∧ w3.cell? ⟨wd.heap.size, 1, none⟩ = some (.int .u64 (y : Int)) ∧ D w3 := by
        intro w3 h
        have hb := h
        rw [hDd] at hb
        obtain ⟨z0, z1, z2, z3, z4, z5, zC⟩ := HKY.out _ hb.1
        obtain ⟨za, zb⟩ := agg_keep gD hb.2.out
        exact ⟨z0, z1, z2, z3, z4, z5, za, zb, h⟩
      have hND : ∀ W W', D W → Below W.heap.size W W' → D W' := fun W W' h h' => by rw [hDd] at h ⊢; exact ⟨HCN.out _ _ h.1 h', Lib.hid (h.2.out.trans (h'.mono h.2.out.size))⟩
      have hCD : ∀ W, D W → C W := fun W h => by rw [hDd] at h; exact h.1
      have hD0 : D we := by rw [hDd]; exact ⟨hAD, Lib.hid (Below.refl _ _)⟩
      have hDs : ∀ W, D W → D W.drew := fun W h => by rw [hDd] at h ⊢; exact ⟨HCS.out _ h.1, Lib.hid h.2.out.drew⟩
      have HND := Lib.hid hND
      have HCD := Lib.hid hCD
      have HSD := Lib.hid hDs
      have HYD := Lib.hid kyD
      clear hND hCD hDs kyD hDd gD hAD
      have cE := fun W (h : D W) => (rparse_any V1 V2 lv cp s W (HSL.out W (HCD.out W h)).1 (HSL.out W (HCD.out W h)).2.1 hml HP.out.2.2 (by omega)).mono fun e w3 ⟨he, hb⟩ => (⟨he, HND.out W w3 h hb⟩ : _ ∧ D w3)
      rw [HR.out] at cE
      unfold labV at cE
      dsimp only at cE
      refine (cE _ hD0).mono ?_
      rintro e wf ⟨rfl, hDf⟩
      obtain ⟨f0, f1, f2, f3, f4, f5, f6, f7, fC⟩ := HYD.out _ hDf
      clear qd0 qd1 qd2 qd3 qd4 qd5 qd6 qd7 qdC
      clear cE hD0
      have gG := heap_alloc_new wf (.cells #[.int .i64 (x : Int), .int .u64 (y : Int)] 27 (0, 0))
      have hAG : D (wf.alloc (.cells #[.int .i64 (x : Int), .int .u64 (y : Int)] 27 (0, 0))) := HND.out _ _ hDf ((Below.refl _ _).alloc (Nat.le_refl _) _)
      obtain ⟨qg0, qg1, qg2, qg3, qg4, qg5, qg6, qg7, qgC⟩ := HYD.out _ hAG
      obtain ⟨qg8, qg9⟩ := agg_keep gG (Below.refl _ _)
      clear f0 f1 f2 f3 f4 f5 f6 f7 fC
      go_upto_region 9 with fail
      generalize wf.alloc (.cells #[.int .i64 (x : Int), .int .u64 (y : Int)] 27 (0, 0)) = wg at *
      obtain ⟨G, hGd⟩ : ∃ G : World → Prop, G = fun w3 => D w3 ∧ Hid (Below wg.heap.size wg w3) := ⟨_, rfl⟩
      have kyG : ∀ w3, G w3 → w3.cell? ⟨w.heap.size, 0, none⟩ = some V1 ∧ w3.cell? ⟨w.heap.size, 1, none⟩ = some V2 ∧ w3.cell? ⟨w.heap.size + 1, 0, none⟩ = some (.int .i64 a) ∧ w3.cell? ⟨w.heap.size + 1, 1, none⟩ = some (.int .u64 (m : Int)) ∧ w3.cell? ⟨w.heap.size + 1 + 1, 0, none⟩ = some (.int .i64 b) ∧ w3.cell? ⟨w.heap.size + 1 + 1, 1, none⟩ = some (.int .u64 (n : Int)) ∧ w3.cell? ⟨wd.heap.size, 0, none⟩ = some (.int .i64 (x : Int)) ∧ w3.cell? ⟨wd.heap.size, 1, none⟩ = some (.int .u64 (y : Int)) ∧ w3.cell? ⟨wf.heap.size, 0, none⟩ = some (.int .i64 (x : Int)) ∧ w3.cell? ⟨wf.heap.size, 1, none⟩ = some (.int .u64 (y : Int)) ∧ G w3 := by
        intro w3 h
        have hb := h
        rw [hGd] at hb
        obtain ⟨z0, z1, z2, z3, z4, z5, z6, z7, zC⟩ := HYD.out _ hb.1
        obtain ⟨za, zb⟩ := agg_keep gG hb.2.out
        exact ⟨z0, z1, z2, z3, z4, z5, z6, z7, za, zb, h⟩
      have hNG : ∀ W W', G W → Below W.heap.size W W' → G W' := fun W W' h h' => by rw [hGd] at h ⊢; exact ⟨HND.out _ _ h.1 h', Lib.hid (h.2.out.trans (h'.mono h.2.out.size))⟩
      have hCG : ∀ W, G W → D W := fun W h => by rw [hGd] at h; exact h.1
      have hG0 : G wg := by rw [hGd]; exact ⟨hAG, Lib.hid (Below.refl _ _)⟩
      have hGs : ∀ W, G W → G W.drew := fun W h => by rw [hGd] at h ⊢; exact ⟨HSD.out _ h.1, Lib.hid h.2.out.drew⟩
      have HNG := Lib.hid hNG
      have HCG := Lib.hid hCG
      have HSG := Lib.hid hGs
      have HYG := Lib.hid kyG
      clear hNG hCG hGs kyG hGd gG hAG
      have c1 := fun W (h : G W) => (right_any V1 V2 lv cp W (HSL.out W (HCD.out W (HCG.out W h))).1 (HSL.out W (HCD.out W (HCG.out W h))).2.1 hml).mono fun e w3 ⟨he, hb⟩ => (⟨he, HNG.out W w3 h hb⟩ : _ ∧ G w3)
      have c2 := fun W (h : G W) => (rright_any V1 V2 lv cp W (HSL.out W (HCD.out W (HCG.out W h))).1 (HSL.out W (HCD.out W (HCG.out W h))).2.1 hml HP.out.2.2).mono fun e w3 ⟨he, hb⟩ => (⟨he, HNG.out W w3 h hb⟩ : _ ∧ G w3)
      have c3 := fun W (h : G W) => (in_any V1 V2 lv cp a m W (HSL.out W (HCD.out W (HCG.out W h))).1 (HSL.out W (HCD.out W (HCG.out W h))).2.1 hml HP.out.1).mono fun e w3 ⟨he, hb⟩ => (⟨he, HNG.out W w3 h hb⟩ : _ ∧ G w3)
      have c4 := fun W (h : G W) => (rin_any V1 V2 lv cp a m W (HSL.out W (HCD.out W (HCG.out W h))).1 (HSL.out W (HCD.out W (HCG.out W h))).2.1 hml HP.out.2.2 HP.out.1).mono fun e w3 ⟨he, hb⟩ => (⟨he, HNG.out W w3 h hb⟩ : _ ∧ G w3)
      have c5 := fun W (h : G W) => (dom_any a b m n HP.out.1 HP.out.2.1 W).mono fun e w3 ⟨he, hb⟩ => (⟨he, HNG.out W w3 h hb⟩ : _ ∧ G w3)
      have c6 := fun W (h : G W) => (rdom_any a b m n HP.out.1 HP.out.2.1 W).mono fun e w3 ⟨he, hb⟩ => (⟨he, HNG.out W w3 h hb⟩ : _ ∧ G w3)
      have c7 := fun W (h : G W) => (join_any a b m n HP.out.1 HP.out.2.1 W).mono fun e w3 ⟨he, hb⟩ => (⟨he, HNG.out W w3 h hb⟩ : _ ∧ G w3)
      have c8 := fun W (h : G W) => (rjoin_any a b m n HP.out.1 HP.out.2.1 W).mono fun e w3 ⟨he, hb⟩ => (⟨he, HNG.out W w3 h hb⟩ : _ ∧ G w3)
      have c9 := fun W (h : G W) => (meet_any a b m n HP.out.1 HP.out.2.1 W).mono fun e w3 ⟨he, hb⟩ => (⟨he, HNG.out W w3 h hb⟩ : _ ∧ G w3)
      have cZ := fun W (h : G W) => (rmeet_any a b m n HP.out.1 HP.out.2.1 W).mono fun e w3 ⟨he, hb⟩ => (⟨he, HNG.out W w3 h hb⟩ : _ ∧ G w3)
      unfold labV at c3 c4 c5 c6 c7 c8 c9 cZ
      generalize latR (nms lv) (nms cp) = LR at *
      generalize inL (nms lv) (nms cp) a m = IL at *
      generalize domB a m b n = DB at *
      generalize max a b = jx at *
      generalize ((m ||| n : Nat) : Int) = jy at *
      generalize min a b = mx at *
      generalize ((m &&& n : Nat) : Int) = my at *
      clear qg0 qg1 qg2 qg3 qg4 qg5 qg6 qg7 qg8 qg9 qgC
      have hG9 := HSG.out _ hG0
      refine wp_region_quiet (C := G) (by kernel_rfl) (by kernel_rfl) hG9 ?_
      repeat
        refine wpQuiet_step (fun K hK => ?_)
        have HK := Lib.hid hK
        clear hK
        first
          | (refine (if_pos ?_).mpr ?_
             · (simp [go_sem]; done)
             apply Exists.intro
             refine ⟨fun w' hw' => ?_, ?_⟩
             · (obtain ⟨y0, y1, y2, y3, y4, y5, y6, y7, y8, y9, yC⟩ := HYG.out w' hw'; go_simp; first | done | rfl | with_reducible exact c1 _ hw' | with_reducible exact c2 _ hw' | with_reducible exact c3 _ hw' | with_reducible exact c4 _ hw' | with_reducible exact c5 _ hw' | with_reducible exact c6 _ hw' | with_reducible exact c7 _ hw' | with_reducible exact c8 _ hw' | with_reducible exact c9 _ hw' | with_reducible exact cZ _ hw')
             go_simp
             refine HK.out _ ?_
             clear HK K)
          | (refine (if_neg ?_).mpr ?_
             · (simp [go_sem]; done)
             go_simp
             refine HK.out _ ?_
             clear HK K)
      refine wpQuiet_nil ?_
      intro w9 hw9
      go_wp2
      go_ret
      exact ⟨rfl, HCB.out _ (HCD.out _ (HCG.out _ hw9))⟩
theorem ltells_law (V1 V2 : Value) (lv cp : List ByteArray) (a : Int) (m : Nat) (b : Int) (n : Nat) (s : ByteArray) (w : World) (hmax : MaxAt w) (h : SlIn w V1 lv ∧ SlIn w V2 cp ∧ (lv.length ≤ 9223372036854775807 ∧ cp.length ≤ 9223372036854775807) ∧ ∀ x ∈ lv ++ cp, x.size ≤ 9223372036854775807) (h0 : (Lit.int .i64 a).wf = true ∧ m < 18446744073709551616) (h1 : (Lit.int .i64 b).wf = true ∧ n < 18446744073709551616) (h2 : s.size ≤ maxLen) :
    Calls Tryz.prog 3 #[.agg #[V1, V2], labV a m, labV b n, .string s] w fun e w' => e = .returned (.bool true) ∧ Below w.heap.size w w' := ltells_all V1 V2 lv cp a b m n s w hmax h.1 h.2.1 h.2.2.1 h.2.2.2 h0.2 h1.2 (by unfold maxLen at h2; omega)
end Go.Proofs.YtmcianehedhfeaaGreatDoor
