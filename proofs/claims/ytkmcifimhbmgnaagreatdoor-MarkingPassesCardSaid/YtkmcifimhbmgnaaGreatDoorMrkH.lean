/- The marking laws: MarkingPasses. -/
import Derived.Test.YtkmcifimhbmgnaaGreatDoorMrkG
set_option linter.unusedVariables false
set_option linter.unusedSimpArgs false
namespace Go.Proofs.YtkmcifimhbmgnaaGreatDoor
open Go.RowKit
theorem domB_join {a b : Int} {m n : Nat} {x : Int} {y : Nat} (h : domB a m x y = true) : domB (max a b) (m ||| n) x y = true := by
  rw [domB_true] at h ⊢
  exact ⟨by omega, h.2.trans (subB.or_l _ _)⟩
/-- Read's ways, and what Check tells then. -/
theorem rd_ways (lv cp : List Bs) (a b : Int) (m n : Nat) (t : Bs) : ∃ (x y : Nat) (r : Bs) (z u v : Int) (d : Bool), rdF lv cp t = (x, y, r, z) ∧ y < M64 ∧ ckF lv cp a m t = u ∧ ckF lv cp (max a b) (m ||| n) t = v ∧ domB a m x y = d ∧
    ((((z == 0) = false ∧ (z != 0) = true) ∧ u = z ∧ v = z) ∨ (z = 0 ∧ ((d = true ∧ u = 0 ∧ v = 0) ∨ (d = false ∧ u = 8 ∧ (v = 0 ∨ v = 8))))) := by
  have hlt := rdF_lt (lv := lv) (cp := cp) t
  unfold ckF
  generalize rdF lv cp t = R at *
  obtain ⟨x, y, r, z⟩ := R
  refine ⟨x, y, r, z, _, _, _, rfl, hlt, rfl, rfl, rfl, ?_⟩
  dsimp only
  by_cases hz : z = 0
  · right
    refine ⟨hz, ?_⟩
    rw [if_pos hz, if_pos hz]
    cases hd : domB a m x y with
    | true => rw [domB_join hd]; exact .inl ⟨rfl, rfl, rfl⟩
    | false => right; refine ⟨rfl, rfl, ?_⟩; cases domB (max a b) (m ||| n) x y <;> simp
  · left
    rw [if_neg hz, if_neg hz]
    exact ⟨⟨by simpa using hz, by simpa using hz⟩, rfl, rfl⟩
set_option maxRecDepth 100000 in
set_option maxHeartbeats 16000000 in
theorem mpasses_all (V1 V2 : Value) (lv cp : List ByteArray) (a b : Int) (m n : Nat) (s : ByteArray) (w : World) (hmax : MaxAt w) (h1 : SlIn w V1 lv) (h2 : SlIn w V2 cp) (hml : lv.length ≤ 9223372036854775807 ∧ cp.length ≤ 9223372036854775807) (hm : m < M64) (hn : n < M64) (hsz : s.size ≤ 9223372036854775807) :
    Calls Tryz.prog 5 #[.agg #[V1, V2], labV a m, labV b n, .string s] w fun e w' => e = .returned (.bool true) ∧ Below w.heap.size w w' := by
  have hbx := box3 w (.cells #[V1, V2] 24 (0, 0)) (.cells #[.int .i64 a, .int .u64 (m : Int)] 27 (0, 0)) (.cells #[.int .i64 b, .int .u64 (n : Int)] 27 (0, 0))
  have hb3 := below3 w (.cells #[V1, V2] 24 (0, 0)) (.cells #[.int .i64 a, .int .u64 (m : Int)] 27 (0, 0)) (.cells #[.int .i64 b, .int .u64 (n : Int)] 27 (0, 0))
  have c0 := awake2_any _ (hmax.below hb3)
  have hs1 := h1.below hb3
  have hs2 := h2.below hb3
  have hm1 := hmax.below hb3
  unfold labV
  go_enter Tryz.func5, Tryz.ntmps5
  go_wp2_with fail
  generalize (((w.alloc (.cells #[V1, V2] 24 (0, 0))).alloc (.cells #[.int .i64 a, .int .u64 (m : Int)] 27 (0, 0))).alloc (.cells #[.int .i64 b, .int .u64 (n : Int)] 27 (0, 0))) = w1 at *
  refine c0.mono ?_
  rintro e w2 ⟨rfl, hb2⟩
  obtain ⟨C, hCd⟩ : ∃ C : World → Prop, C = fun w3 => Hid (Below w1.heap.size w1 w3) := ⟨_, rfl⟩
  have key2 : ∀ w3, C w3 → w3.cell? ⟨w.heap.size, 0, none⟩ = some V1 ∧ w3.cell? ⟨w.heap.size, 1, none⟩ = some V2 ∧ w3.cell? ⟨w.heap.size + 1, 0, none⟩ = some (.int .i64 a) ∧ w3.cell? ⟨w.heap.size + 1, 1, none⟩ = some (.int .u64 (m : Int)) ∧ w3.cell? ⟨w.heap.size + 1 + 1, 0, none⟩ = some (.int .i64 b) ∧ w3.cell? ⟨w.heap.size + 1 + 1, 1, none⟩ = some (.int .u64 (n : Int)) ∧ C w3 := by
    intro w3 h
    have hb := h
    rw [hCd] at hb
    obtain ⟨x0, y0⟩ := agg_keep hbx.1 hb.out
    obtain ⟨x1, y1⟩ := agg_keep hbx.2.1 hb.out
    obtain ⟨x2, y2⟩ := agg_keep hbx.2.2 hb.out
    exact ⟨x0, y0, x1, y1, x2, y2, h⟩
  have hCs : ∀ w3, C w3 → C w3.drew := fun w3 h => by rw [hCd] at h ⊢; exact Lib.hid h.out.drew
  have hC2 : C w2 := by rw [hCd]; exact Lib.hid hb2
  have hCb : ∀ w3, C w3 → Below w.heap.size w w3 := fun w3 h => by rw [hCd] at h; exact hb3.trans (h.out.mono hb3.size)
  have hCn : ∀ W W', C W → Below W.heap.size W W' → C W' := fun W W' h h' => by rw [hCd] at h ⊢; exact Lib.hid (h.out.trans (h'.mono h.out.size))
  have hsl : ∀ W, C W → SlIn W V1 lv ∧ SlIn W V2 cp ∧ MaxAt W := fun W h => by rw [hCd] at h; exact ⟨hs1.below h.out, hs2.below h.out, hm1.below h.out⟩
  have HCB := Lib.hid hCb
  have HCN := Lib.hid hCn
  have HCS := Lib.hid hCs
  have HKY := Lib.hid key2
  have HSL := Lib.hid hsl
  clear hCb hCn hCs key2 hsl hs1 hs2 hm1 hbx hb3 c0 hCd hb2 hmax
  have cF := fun W (h : C W) => (few_any V1 V2 lv cp W (HSL.out W h).1 (HSL.out W h).2.1 hml).mono fun e w3 ⟨he, hb⟩ => (⟨he, HCN.out W w3 h hb⟩ : _ ∧ C w3)
  have hs0 : (0 : Int) ≤ (s.size : Int) := by omega
  have HP := Lib.hid (And.intro hm hn)
  obtain ⟨k0, k1, k2, k3, k4, k5, kC⟩ := HKY.out _ hC2
  clear h1 h2 hm hn
  go_wp2_with fail
  refine (cF _ hC2).mono ?_
  rintro e wa ⟨⟨f, rfl, hf⟩, hCa⟩
  obtain ⟨a0, a1, a2, a3, a4, a5, aC⟩ := HKY.out _ hCa
  clear k0 k1 k2 k3 k4 k5 kC
  cases f with
  | false =>
    clear hf
    go_wp2
    go_ret
    exact ⟨rfl, HCB.out _ (hCa)⟩
  | true =>
    clear cF hf
    by_cases hs3 : (5000 : Int) < (s.size : Int)
    · go_wp2
      go_ret
      exact ⟨rfl, HCB.out _ (hCa)⟩
    · have hs5 : (s.size : Int) ≤ 5000 := by omega
      have cJ := fun W (h : C W) => (join_any a b m n HP.out.1 HP.out.2 W).mono fun e w3 ⟨he, hb⟩ => (⟨he, HCN.out W w3 h hb⟩ : _ ∧ C w3)
      have cA := fun W (h : C W) => (mcheck_any V1 V2 lv cp a m s W (HSL.out W h).1 (HSL.out W h).2.1 hml HP.out.1 (by omega) (HSL.out W h).2.2).mono fun e w3 ⟨he, hb⟩ => (⟨he, HCN.out W w3 h hb⟩ : _ ∧ C w3)
      have cB := fun W (h : C W) => (mcheck_any V1 V2 lv cp (max a b) (m ||| n) s W (HSL.out W h).1 (HSL.out W h).2.1 hml (or_lt HP.out.1 HP.out.2) (by omega) (HSL.out W h).2.2).mono fun e w3 ⟨he, hb⟩ => (⟨he, HCN.out W w3 h hb⟩ : _ ∧ C w3)
      have cR := fun W (h : C W) => (read_any V1 V2 lv cp s W (HSL.out W h).1 (HSL.out W h).2.1 hml (by omega) (HSL.out W h).2.2).mono fun e w3 ⟨he, hb⟩ => (⟨he, HCN.out W w3 h hb⟩ : _ ∧ C w3)
      obtain ⟨x, y, r, z, u, v, d, hR, hy, hu, hv, hd, hways⟩ := rd_ways (nms lv) (nms cp) a b m n s.data.toList
      rw [hu] at cA
      rw [hv] at cB
      rw [hR] at cR
      have HD := Lib.hid hd
      have HY := Lib.hid hy
      unfold labV at cJ cA cB cR
      dsimp only at cR
      generalize max a b = jx at *
      generalize m ||| n = jy at *
      clear hu hv hR hd hy hs3 a0 a1 a2 a3 a4 a5
      have hC0 := HCS.out _ hCa
      rcases hways with ⟨⟨hz1, hz2⟩, rfl, rfl⟩ | ⟨rfl, ⟨rfl, rfl, rfl⟩ | ⟨rfl, rfl, rfl | rfl⟩⟩
      · go_wp2_with fail
        refine wp_region_quiet (C := C) (by kernel_rfl) (by kernel_rfl) hC0 ?_
        repeat
          refine wpQuiet_step (fun K hK => ?_)
          have HK := Lib.hid hK
          clear hK
          first
            | (refine (if_pos ?_).mpr ?_
               · (simp [go_sem]; done)
               apply Exists.intro
               refine ⟨fun w' hw' => ?_, ?_⟩
               · (obtain ⟨k0, k1, k2, k3, k4, k5, kC⟩ := HKY.out w' hw'; go_simp; first | done | rfl | with_reducible exact cJ _ hw' | with_reducible exact cA _ hw' | with_reducible exact cB _ hw')
               go_simp
               refine HK.out _ ?_
               clear HK K)
            | (refine (if_neg ?_).mpr ?_
               · (simp [go_sem]; done)
               go_simp
               refine HK.out _ ?_
               clear HK K)
        refine wpQuiet_nil ?_
        intro wb hCb
        clear cJ cA cB
        obtain ⟨b0, b1, b2, b3, b4, b5, bC⟩ := HKY.out _ hCb
        go_wp2_with fail
        refine (cR _ hCb).mono ?_
        rintro e wc ⟨rfl, hCc⟩
        obtain ⟨c0, c1, c2, c3, c4, c5, cC⟩ := HKY.out _ hCc
        clear b0 b1 b2 b3 b4 b5 bC
        clear cR
        have gD := heap_alloc_new wc (.cells #[.int .i64 (x : Int), .int .u64 (y : Int)] 27 (0, 0))
        have hAD : C (wc.alloc (.cells #[.int .i64 (x : Int), .int .u64 (y : Int)] 27 (0, 0))) := HCN.out _ _ hCc ((Below.refl _ _).alloc (Nat.le_refl _) _)
        obtain ⟨qd0, qd1, qd2, qd3, qd4, qd5, qdC⟩ := HKY.out _ hAD
        obtain ⟨qd6, qd7⟩ := agg_keep gD (Below.refl _ _)
        clear c0 c1 c2 c3 c4 c5 cC
        go_wp2_with fail
        generalize wc.alloc (.cells #[.int .i64 (x : Int), .int .u64 (y : Int)] 27 (0, 0)) = wd at *
        obtain ⟨D, hDd⟩ : ∃ D : World → Prop, D = fun w3 => C w3 ∧ Hid (Below wd.heap.size wd w3) := ⟨_, rfl⟩
        have kyD : ∀ w3, D w3 → w3.cell? ⟨w.heap.size, 0, none⟩ = some V1 ∧ w3.cell? ⟨w.heap.size, 1, none⟩ = some V2 ∧ w3.cell? ⟨w.heap.size + 1, 0, none⟩ = some (.int .i64 a) ∧ w3.cell? ⟨w.heap.size + 1, 1, none⟩ = some (.int .u64 (m : Int)) ∧ w3.cell? ⟨w.heap.size + 1 + 1, 0, none⟩ = some (.int .i64 b) ∧ w3.cell? ⟨w.heap.size + 1 + 1, 1, none⟩ = some (.int .u64 (n : Int)) ∧ w3.cell? ⟨wc.heap.size, 0, none⟩ = some (.int .i64 (x : Int)) ∧ w3.cell? ⟨wc.heap.size, 1, none⟩ = some (.int .u64 (y : Int)) ∧ D w3 := by
          intro w3 h
          have hb := h
          rw [hDd] at hb
          obtain ⟨z0, z1, z2, z3, z4, z5, zC⟩ := HKY.out _ hb.1
          obtain ⟨za, zb⟩ := agg_keep gD hb.2.out
          exact ⟨z0, z1, z2, z3, z4, z5, za, zb, h⟩
        have hND : ∀ W W', D W → Below W.heap.size W W' → D W' := fun W W' h h' => by rw [hDd] at h ⊢; exact ⟨HCN.out _ _ h.1 h', Lib.hid (h.2.out.trans (h'.mono h.2.out.size))⟩
        have hCD : ∀ W, D W → C W := fun W h => by rw [hDd] at h; exact h.1
        have hD0 : D wd := by rw [hDd]; exact ⟨hAD, Lib.hid (Below.refl _ _)⟩
        have hDs : ∀ W, D W → D W.drew := fun W h => by rw [hDd] at h ⊢; exact ⟨HCS.out _ h.1, Lib.hid h.2.out.drew⟩
        have HND := Lib.hid hND
        have HCD := Lib.hid hCD
        have HSD := Lib.hid hDs
        have HYD := Lib.hid kyD
        clear hND hCD hDs kyD hDd gD hAD
        go_wp2
        go_ret
        exact ⟨rfl, HCB.out _ (HCD.out _ hD0)⟩
      · go_wp2_with fail
        refine wp_region_quiet (C := C) (by kernel_rfl) (by kernel_rfl) hC0 ?_
        repeat
          refine wpQuiet_step (fun K hK => ?_)
          have HK := Lib.hid hK
          clear hK
          first
            | (refine (if_pos ?_).mpr ?_
               · (simp [go_sem]; done)
               apply Exists.intro
               refine ⟨fun w' hw' => ?_, ?_⟩
               · (obtain ⟨k0, k1, k2, k3, k4, k5, kC⟩ := HKY.out w' hw'; go_simp; first | done | rfl | with_reducible exact cJ _ hw' | with_reducible exact cA _ hw' | with_reducible exact cB _ hw')
               go_simp
               refine HK.out _ ?_
               clear HK K)
            | (refine (if_neg ?_).mpr ?_
               · (simp [go_sem]; done)
               go_simp
               refine HK.out _ ?_
               clear HK K)
        refine wpQuiet_nil ?_
        intro wb hCb
        clear cJ cA cB
        obtain ⟨b0, b1, b2, b3, b4, b5, bC⟩ := HKY.out _ hCb
        go_wp2_with fail
        refine (cR _ hCb).mono ?_
        rintro e wc ⟨rfl, hCc⟩
        obtain ⟨c0, c1, c2, c3, c4, c5, cC⟩ := HKY.out _ hCc
        clear b0 b1 b2 b3 b4 b5 bC
        clear cR
        have gD := heap_alloc_new wc (.cells #[.int .i64 (x : Int), .int .u64 (y : Int)] 27 (0, 0))
        have hAD : C (wc.alloc (.cells #[.int .i64 (x : Int), .int .u64 (y : Int)] 27 (0, 0))) := HCN.out _ _ hCc ((Below.refl _ _).alloc (Nat.le_refl _) _)
        obtain ⟨qd0, qd1, qd2, qd3, qd4, qd5, qdC⟩ := HKY.out _ hAD
        obtain ⟨qd6, qd7⟩ := agg_keep gD (Below.refl _ _)
        clear c0 c1 c2 c3 c4 c5 cC
        go_wp2_with fail
        generalize wc.alloc (.cells #[.int .i64 (x : Int), .int .u64 (y : Int)] 27 (0, 0)) = wd at *
        obtain ⟨D, hDd⟩ : ∃ D : World → Prop, D = fun w3 => C w3 ∧ Hid (Below wd.heap.size wd w3) := ⟨_, rfl⟩
        have kyD : ∀ w3, D w3 → w3.cell? ⟨w.heap.size, 0, none⟩ = some V1 ∧ w3.cell? ⟨w.heap.size, 1, none⟩ = some V2 ∧ w3.cell? ⟨w.heap.size + 1, 0, none⟩ = some (.int .i64 a) ∧ w3.cell? ⟨w.heap.size + 1, 1, none⟩ = some (.int .u64 (m : Int)) ∧ w3.cell? ⟨w.heap.size + 1 + 1, 0, none⟩ = some (.int .i64 b) ∧ w3.cell? ⟨w.heap.size + 1 + 1, 1, none⟩ = some (.int .u64 (n : Int)) ∧ w3.cell? ⟨wc.heap.size, 0, none⟩ = some (.int .i64 (x : Int)) ∧ w3.cell? ⟨wc.heap.size, 1, none⟩ = some (.int .u64 (y : Int)) ∧ D w3 := by
          intro w3 h
          have hb := h
          rw [hDd] at hb
          obtain ⟨z0, z1, z2, z3, z4, z5, zC⟩ := HKY.out _ hb.1
          obtain ⟨za, zb⟩ := agg_keep gD hb.2.out
          exact ⟨z0, z1, z2, z3, z4, z5, za, zb, h⟩
        have hND : ∀ W W', D W → Below W.heap.size W W' → D W' := fun W W' h h' => by rw [hDd] at h ⊢; exact ⟨HCN.out _ _ h.1 h', Lib.hid (h.2.out.trans (h'.mono h.2.out.size))⟩
        have hCD : ∀ W, D W → C W := fun W h => by rw [hDd] at h; exact h.1
        have hD0 : D wd := by rw [hDd]; exact ⟨hAD, Lib.hid (Below.refl _ _)⟩
        have hDs : ∀ W, D W → D W.drew := fun W h => by rw [hDd] at h ⊢; exact ⟨HCS.out _ h.1, Lib.hid h.2.out.drew⟩
        have HND := Lib.hid hND
        have HCD := Lib.hid hCD
        have HSD := Lib.hid hDs
        have HYD := Lib.hid kyD
        clear hND hCD hDs kyD hDd gD hAD
        have cD := fun W (h : D W) => (dom_any a (x : Int) m y HP.out.1 HY.out W).mono fun e w3 ⟨he, hb⟩ => (⟨he, HND.out W w3 h hb⟩ : _ ∧ D w3)
        rw [HD.out] at cD
        unfold labV at cD
        refine (cD _ hD0).mono ?_
        rintro e we ⟨rfl, hDe⟩
        clear cD
        go_wp2
        go_ret
        exact ⟨rfl, HCB.out _ (HCD.out _ hDe)⟩
      · go_wp2_with fail
        refine wp_region_quiet (C := C) (by kernel_rfl) (by kernel_rfl) hC0 ?_
        repeat
          refine wpQuiet_step (fun K hK => ?_)
          have HK := Lib.hid hK
          clear hK
          first
            | (refine (if_pos ?_).mpr ?_
               · (simp [go_sem]; done)
               apply Exists.intro
               refine ⟨fun w' hw' => ?_, ?_⟩
               · (obtain ⟨k0, k1, k2, k3, k4, k5, kC⟩ := HKY.out w' hw'; go_simp; first | done | rfl | with_reducible exact cJ _ hw' | with_reducible exact cA _ hw' | with_reducible exact cB _ hw')
               go_simp
               refine HK.out _ ?_
               clear HK K)
            | (refine (if_neg ?_).mpr ?_
               · (simp [go_sem]; done)
               go_simp
               refine HK.out _ ?_
               clear HK K)
        refine wpQuiet_nil ?_
        intro wb hCb
        clear cJ cA cB
        obtain ⟨b0, b1, b2, b3, b4, b5, bC⟩ := HKY.out _ hCb
        go_wp2_with fail
        refine (cR _ hCb).mono ?_
        rintro e wc ⟨rfl, hCc⟩
        obtain ⟨c0, c1, c2, c3, c4, c5, cC⟩ := HKY.out _ hCc
        clear b0 b1 b2 b3 b4 b5 bC
        clear cR
        have gD := heap_alloc_new wc (.cells #[.int .i64 (x : Int), .int .u64 (y : Int)] 27 (0, 0))
        have hAD : C (wc.alloc (.cells #[.int .i64 (x : Int), .int .u64 (y : Int)] 27 (0, 0))) := HCN.out _ _ hCc ((Below.refl _ _).alloc (Nat.le_refl _) _)
        obtain ⟨qd0, qd1, qd2, qd3, qd4, qd5, qdC⟩ := HKY.out _ hAD
        obtain ⟨qd6, qd7⟩ := agg_keep gD (Below.refl _ _)
        clear c0 c1 c2 c3 c4 c5 cC
        go_wp2_with fail
        generalize wc.alloc (.cells #[.int .i64 (x : Int), .int .u64 (y : Int)] 27 (0, 0)) = wd at *
        obtain ⟨D, hDd⟩ : ∃ D : World → Prop, D = fun w3 => C w3 ∧ Hid (Below wd.heap.size wd w3) := ⟨_, rfl⟩
        have kyD : ∀ w3, D w3 → w3.cell? ⟨w.heap.size, 0, none⟩ = some V1 ∧ w3.cell? ⟨w.heap.size, 1, none⟩ = some V2 ∧ w3.cell? ⟨w.heap.size + 1, 0, none⟩ = some (.int .i64 a) ∧ w3.cell? ⟨w.heap.size + 1, 1, none⟩ = some (.int .u64 (m : Int)) ∧ w3.cell? ⟨w.heap.size + 1 + 1, 0, none⟩ = some (.int .i64 b) ∧ w3.cell? ⟨w.heap.size + 1 + 1, 1, none⟩ = some (.int .u64 (n : Int)) ∧ w3.cell? ⟨wc.heap.size, 0, none⟩ = some (.int .i64 (x : Int)) ∧ w3.cell? ⟨wc.heap.size, 1, none⟩ = some (.int .u64 (y : Int)) ∧ D w3 := by
          intro w3 h
          have hb := h
          rw [hDd] at hb
          obtain ⟨z0, z1, z2, z3, z4, z5, zC⟩ := HKY.out _ hb.1
          obtain ⟨za, zb⟩ := agg_keep gD hb.2.out
          exact ⟨z0, z1, z2, z3, z4, z5, za, zb, h⟩
        have hND : ∀ W W', D W → Below W.heap.size W W' → D W' := fun W W' h h' => by rw [hDd] at h ⊢; exact ⟨HCN.out _ _ h.1 h', Lib.hid (h.2.out.trans (h'.mono h.2.out.size))⟩
        have hCD : ∀ W, D W → C W := fun W h => by rw [hDd] at h; exact h.1
        have hD0 : D wd := by rw [hDd]; exact ⟨hAD, Lib.hid (Below.refl _ _)⟩
        have hDs : ∀ W, D W → D W.drew := fun W h => by rw [hDd] at h ⊢; exact ⟨HCS.out _ h.1, Lib.hid h.2.out.drew⟩
        have HND := Lib.hid hND
        have HCD := Lib.hid hCD
        have HSD := Lib.hid hDs
        have HYD := Lib.hid kyD
        clear hND hCD hDs kyD hDd gD hAD
        have cD := fun W (h : D W) => (dom_any a (x : Int) m y HP.out.1 HY.out W).mono fun e w3 ⟨he, hb⟩ => (⟨he, HND.out W w3 h hb⟩ : _ ∧ D w3)
        rw [HD.out] at cD
        unfold labV at cD
        refine (cD _ hD0).mono ?_
        rintro e we ⟨rfl, hDe⟩
        clear cD
        go_wp2
        go_ret
        exact ⟨rfl, HCB.out _ (HCD.out _ hDe)⟩
      · go_wp2_with fail
        refine wp_region_quiet (C := C) (by kernel_rfl) (by kernel_rfl) hC0 ?_
        repeat
          refine wpQuiet_step (fun K hK => ?_)
          have HK := Lib.hid hK
          clear hK
          first
            | (refine (if_pos ?_).mpr ?_
               · (simp [go_sem]; done)
               apply Exists.intro
               refine ⟨fun w' hw' => ?_, ?_⟩
               · (obtain ⟨k0, k1, k2, k3, k4, k5, kC⟩ := HKY.out w' hw'; go_simp; first | done | rfl | with_reducible exact cJ _ hw' | with_reducible exact cA _ hw' | with_reducible exact cB _ hw')
               go_simp
               refine HK.out _ ?_
               clear HK K)
            | (refine (if_neg ?_).mpr ?_
               · (simp [go_sem]; done)
               go_simp
               refine HK.out _ ?_
               clear HK K)
        refine wpQuiet_nil ?_
        intro wb hCb
        clear cJ cA cB
        obtain ⟨b0, b1, b2, b3, b4, b5, bC⟩ := HKY.out _ hCb
        go_wp2_with fail
        refine (cR _ hCb).mono ?_
        rintro e wc ⟨rfl, hCc⟩
        obtain ⟨c0, c1, c2, c3, c4, c5, cC⟩ := HKY.out _ hCc
        clear b0 b1 b2 b3 b4 b5 bC
        clear cR
        have gD := heap_alloc_new wc (.cells #[.int .i64 (x : Int), .int .u64 (y : Int)] 27 (0, 0))
        have hAD : C (wc.alloc (.cells #[.int .i64 (x : Int), .int .u64 (y : Int)] 27 (0, 0))) := HCN.out _ _ hCc ((Below.refl _ _).alloc (Nat.le_refl _) _)
        obtain ⟨qd0, qd1, qd2, qd3, qd4, qd5, qdC⟩ := HKY.out _ hAD
        obtain ⟨qd6, qd7⟩ := agg_keep gD (Below.refl _ _)
        clear c0 c1 c2 c3 c4 c5 cC
        go_wp2_with fail
        generalize wc.alloc (.cells #[.int .i64 (x : Int), .int .u64 (y : Int)] 27 (0, 0)) = wd at *
        obtain ⟨D, hDd⟩ : ∃ D : World → Prop, D = fun w3 => C w3 ∧ Hid (Below wd.heap.size wd w3) := ⟨_, rfl⟩
        have kyD : ∀ w3, D w3 → w3.cell? ⟨w.heap.size, 0, none⟩ = some V1 ∧ w3.cell? ⟨w.heap.size, 1, none⟩ = some V2 ∧ w3.cell? ⟨w.heap.size + 1, 0, none⟩ = some (.int .i64 a) ∧ w3.cell? ⟨w.heap.size + 1, 1, none⟩ = some (.int .u64 (m : Int)) ∧ w3.cell? ⟨w.heap.size + 1 + 1, 0, none⟩ = some (.int .i64 b) ∧ w3.cell? ⟨w.heap.size + 1 + 1, 1, none⟩ = some (.int .u64 (n : Int)) ∧ w3.cell? ⟨wc.heap.size, 0, none⟩ = some (.int .i64 (x : Int)) ∧ w3.cell? ⟨wc.heap.size, 1, none⟩ = some (.int .u64 (y : Int)) ∧ D w3 := by
          intro w3 h
          have hb := h
          rw [hDd] at hb
          obtain ⟨z0, z1, z2, z3, z4, z5, zC⟩ := HKY.out _ hb.1
          obtain ⟨za, zb⟩ := agg_keep gD hb.2.out
          exact ⟨z0, z1, z2, z3, z4, z5, za, zb, h⟩
        have hND : ∀ W W', D W → Below W.heap.size W W' → D W' := fun W W' h h' => by rw [hDd] at h ⊢; exact ⟨HCN.out _ _ h.1 h', Lib.hid (h.2.out.trans (h'.mono h.2.out.size))⟩
        have hCD : ∀ W, D W → C W := fun W h => by rw [hDd] at h; exact h.1
        have hD0 : D wd := by rw [hDd]; exact ⟨hAD, Lib.hid (Below.refl _ _)⟩
        have hDs : ∀ W, D W → D W.drew := fun W h => by rw [hDd] at h ⊢; exact ⟨HCS.out _ h.1, Lib.hid h.2.out.drew⟩
        have HND := Lib.hid hND
        have HCD := Lib.hid hCD
        have HSD := Lib.hid hDs
        have HYD := Lib.hid kyD
        clear hND hCD hDs kyD hDd gD hAD
        have cD := fun W (h : D W) => (dom_any a (x : Int) m y HP.out.1 HY.out W).mono fun e w3 ⟨he, hb⟩ => (⟨he, HND.out W w3 h hb⟩ : _ ∧ D w3)
        rw [HD.out] at cD
        unfold labV at cD
        refine (cD _ hD0).mono ?_
        rintro e we ⟨rfl, hDe⟩
        clear cD
        go_wp2
        go_ret
        exact ⟨rfl, HCB.out _ (HCD.out _ hDe)⟩
theorem mpasses_law (V1 V2 : Value) (lv cp : List ByteArray) (a : Int) (m : Nat) (b : Int) (n : Nat) (s : ByteArray) (w : World) (hmax : MaxAt w) (h : SlIn w V1 lv ∧ SlIn w V2 cp ∧ (lv.length ≤ 9223372036854775807 ∧ cp.length ≤ 9223372036854775807)) (h0 : (Lit.int .i64 a).wf = true ∧ m < 18446744073709551616) (h1 : (Lit.int .i64 b).wf = true ∧ n < 18446744073709551616) (h2 : s.size ≤ maxLen) :
    Calls Tryz.prog 5 #[.agg #[V1, V2], labV a m, labV b n, .string s] w fun e w' => e = .returned (.bool true) ∧ Below w.heap.size w w' := mpasses_all V1 V2 lv cp a b m n s w hmax h.1 h.2.1 h.2.2 h0.2 h1.2 (by unfold maxLen at h2; omega)
end Go.Proofs.YtkmcifimhbmgnaaGreatDoor
