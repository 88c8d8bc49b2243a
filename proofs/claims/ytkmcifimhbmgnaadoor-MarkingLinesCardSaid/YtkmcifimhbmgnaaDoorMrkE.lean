/- The marking laws: MarkingBack. -/
import Derived.Test.YtkmcifimhbmgnaaDoorMrkD
set_option linter.unusedVariables false
set_option linter.unusedSimpArgs false
namespace Go.Proofs.YtkmcifimhbmgnaaDoor
open Go.RowKit
theorem ckF_mark {lv cp : List Bs} (h : LatOk lv cp) {a m : Nat} (ha : a < lv.length) (hm : m < 2 ^ cp.length) (b : Int) (n : Nat) (t : Bs) : ckF lv cp b n (mlF lv cp a m ++ 13 :: 10 :: t) = if domB b n a m then 0 else 8 := by
  unfold ckF; rw [rdF_mark h ha hm, if_pos rfl]
theorem mlF_len {lv cp : List Bs} (h : LatOk lv cp) {a m : Nat} (ha : a < lv.length) : (mlF lv cp a m).length ≤ 2006 := by
  unfold mlF
  rw [List.length_append]
  have := ltxt_len2 h ha (m := m)
  have h6 : mword.length = 6 := rfl
  omega
set_option maxRecDepth 100000 in
set_option maxHeartbeats 16000000 in
theorem mback_all (V1 V2 : Value) (lv cp : List ByteArray) (a b : Int) (m n : Nat) (s : ByteArray) (w : World) (hmax : MaxAt w) (h1 : SlIn w V1 lv) (h2 : SlIn w V2 cp) (hml : lv.length ≤ 9223372036854775807 ∧ cp.length ≤ 9223372036854775807) (hm : m < M64) (hn : n < M64) (hsz : s.size ≤ 9223372036854775807) :
    Calls Tryd.prog 3 #[.agg #[V1, V2], labV a m, labV b n, .string s] w fun e w' => e = .returned (.bool true) ∧ Below w.heap.size w w' := by
  have hbx := box3 w (.cells #[V1, V2] 24 (0, 0)) (.cells #[.int .i64 a, .int .u64 (m : Int)] 27 (0, 0)) (.cells #[.int .i64 b, .int .u64 (n : Int)] 27 (0, 0))
  have hb3 := below3 w (.cells #[V1, V2] 24 (0, 0)) (.cells #[.int .i64 a, .int .u64 (m : Int)] 27 (0, 0)) (.cells #[.int .i64 b, .int .u64 (n : Int)] 27 (0, 0))
  have c0 := awake2_any _ (hmax.below hb3)
  have hs1 := h1.below hb3
  have hs2 := h2.below hb3
  have hm1 := hmax.below hb3
  unfold labV
  go_enter Tryd.func3, Tryd.ntmps3
  go_wp2_with fail
  generalize (((w.alloc (.cells #[V1, V2] 24 (0, 0))).alloc (.cells #[.int .i64 a, .int .u64 (m : Int)] 27 (0, 0))).alloc (.cells #[.int .i64 b, .int .u64 (n : Int)] 27 (0, 0))) = w1 at *
  refine c0.mono ?_
  rintro e w2 ⟨rfl, hb2⟩
  obtain ⟨C, hCd⟩ : ∃ C : World → Prop, C = fun w3 => Hid (Below w1.heap.size w1 w3) := ⟨_, rfl⟩
  have key2 : ∀ w3, C w3 → w3.cell? ⟨w.heap.size, 0, none⟩ = some V1 ∧ w3.cell? ⟨w.heap.size, 1, none⟩ = some V2 ∧ w3.cell? ⟨w.heap.size + 1, 0, none⟩ = some (.int .i64 a) ∧ w3.cell? ⟨w.heap.size + 1, 1, none⟩ = some (.int .u64 (m : Int)) ∧ w3.cell? ⟨w.heap.size + 1 + 1, 0, none⟩ = some (.int .i64 b) ∧ w3.cell? ⟨w.heap.size + 1 + 1, 1, none⟩ = some (.int .u64 (n : Int)) ∧ C w3 := by
    intro w3 h
    have hb := h
    rw [hCd] at hb
    obtain ⟨x0, y0⟩ := agg_keep hbx.1 hb.out
    obtain ⟨x1, y1⟩ := agg_keep hbx.2.1 hb.out
    obtain ⟨x2, y2⟩ := agg_keep hbx.2.2 hb.out
    exact ⟨x0, y0, x1, y1, x2, y2, h⟩
  have hCs : ∀ w3, C w3 → C w3.drew := fun w3 h => by rw [hCd] at h ⊢; exact Lib.hid h.out.drew
  have hC2 : C w2 := by rw [hCd]; exact Lib.hid hb2
  have hCb : ∀ w3, C w3 → Below w.heap.size w w3 := fun w3 h => by rw [hCd] at h; exact hb3.trans (h.out.mono hb3.size)
  have hCn : ∀ W W', C W → Below W.heap.size W W' → C W' := fun W W' h h' => by rw [hCd] at h ⊢; exact Lib.hid (h.out.trans (h'.mono h.out.size))
  have hsl : ∀ W, C W → SlIn W V1 lv ∧ SlIn W V2 cp ∧ MaxAt W := fun W h => by rw [hCd] at h; exact ⟨hs1.below h.out, hs2.below h.out, hm1.below h.out⟩
  have HCB := Lib.hid hCb
  have HCN := Lib.hid hCn
  have HCS := Lib.hid hCs
  have HKY := Lib.hid key2
  have HSL := Lib.hid hsl
  clear hCb hCn hCs key2 hsl hs1 hs2 hm1 hbx hb3 c0 hCd hb2 hmax
  have cF := fun W (h : C W) => (few_any V1 V2 lv cp W (HSL.out W h).1 (HSL.out W h).2.1 hml).mono fun e w3 ⟨he, hb⟩ => (⟨he, HCN.out W w3 h hb⟩ : _ ∧ C w3)
  have hs0 : (0 : Int) ≤ (s.size : Int) := by omega
  have HP := Lib.hid (And.intro hm hn)
  obtain ⟨k0, k1, k2, k3, k4, k5, kC⟩ := HKY.out _ hC2
  clear h1 h2 hm hn
  go_wp2_with fail
  refine (cF _ hC2).mono ?_
  rintro e wa ⟨⟨f, rfl, hf⟩, hCa⟩
  obtain ⟨a0, a1, a2, a3, a4, a5, aC⟩ := HKY.out _ hCa
  clear k0 k1 k2 k3 k4 k5 kC
  cases f with
  | false =>
    clear hf
    go_wp2
    go_ret
    exact ⟨rfl, HCB.out _ hCa⟩
  | true =>
    clear cF hf
    by_cases hs3 : (5000 : Int) < (s.size : Int)
    · go_wp2
      go_ret
      exact ⟨rfl, HCB.out _ hCa⟩
    · have hs5 : (s.size : Int) ≤ 5000 := by omega
      have hsz2 := bsize s
      clear hs3
      have cM := fun W (h : C W) => (mark_any V1 V2 lv cp a m s W (HSL.out W h).1 (HSL.out W h).2.1 hml HP.out.1 (by omega)).mono fun e w3 ⟨he, hb⟩ => (⟨he, HCN.out W w3 h hb⟩ : _ ∧ C w3)
      have cI := fun W (h : C W) => (in_any V1 V2 lv cp a m W (HSL.out W h).1 (HSL.out W h).2.1 hml HP.out.1).mono fun e w3 ⟨he, hb⟩ => (⟨he, HCN.out W w3 h hb⟩ : _ ∧ C w3)
      unfold labV at cM cI
      unfold mkT at cM
      rcases lpr_cases (nms lv) (nms cp) a m with ⟨hi, ht, he, hl⟩ | ⟨hi, ht, he⟩
      · obtain ⟨hok, a, rfl, ha, hm2⟩ := inL_inv hi
        rw [hi, he, if_pos rfl, Int.toNat_natCast] at cM
        have hrd := rdF_mark hok ha hm2 s.data.toList
        have hck := ckF_mark hok ha hm2 b n s.data.toList
        have hSl : (mlF (nms lv) (nms cp) a m ++ 13 :: 10 :: s.data.toList).length ≤ 8000 := by
          rw [List.length_append, List.length_cons, List.length_cons]
          have := mlF_len hok ha (m := m)
          omega
        generalize mlF (nms lv) (nms cp) a m ++ 13 :: 10 :: s.data.toList = S at *
        have HR := Lib.hid (And.intro hrd (And.intro hck hSl))
        have HSZ := Lib.hid hsz2
        clear cI hi ht he hl hok ha hm2 hrd hck hSl hsz2
        go_wp2_with fail
        refine (cM _ hCa).mono ?_
        rintro e wb ⟨rfl, hCb⟩
        obtain ⟨b0, b1, b2, b3, b4, b5, bC⟩ := HKY.out _ hCb
        clear a0 a1 a2 a3 a4 a5 aC
        clear cM
        have cR := fun W (h : C W) => (read_any V1 V2 lv cp ⟨S.toArray⟩ W (HSL.out W h).1 (HSL.out W h).2.1 hml (by rw [lsize]; have := HR.out.2.2; omega) (HSL.out W h).2.2).mono fun e w3 ⟨he, hb⟩ => (⟨he, HCN.out W w3 h hb⟩ : _ ∧ C w3)
        rw [show (⟨S.toArray⟩ : ByteArray).data.toList = S by simp, HR.out.1] at cR
        unfold labV at cR
        dsimp only at cR
        rw [ba_eq] at cR
        go_wp2_with fail
        refine (cR _ hCb).mono ?_
        rintro e wc ⟨rfl, hCc⟩
        obtain ⟨c0, c1, c2, c3, c4, c5, cC⟩ := HKY.out _ hCc
        clear b0 b1 b2 b3 b4 b5 bC
        clear cR
        have gD := heap_alloc_new wc (.cells #[.int .i64 (a : Int), .int .u64 (m : Int)] 27 (0, 0))
        have hAD : C (wc.alloc (.cells #[.int .i64 (a : Int), .int .u64 (m : Int)] 27 (0, 0))) := HCN.out _ _ hCc ((Below.refl _ _).alloc (Nat.le_refl _) _)
        obtain ⟨d0, d1, d2, d3, d4, d5, dC⟩ := HKY.out _ hAD
        obtain ⟨d6, d7⟩ := agg_keep gD (Below.refl _ _)
        clear c0 c1 c2 c3 c4 c5 cC
        go_wp2_with fail
        generalize wc.alloc (.cells #[.int .i64 (a : Int), .int .u64 (m : Int)] 27 (0, 0)) = wd at *
        obtain ⟨D, hDd⟩ : ∃ D : World → Prop, D = fun w3 => C w3 ∧ Hid (Below wd.heap.size wd w3) := ⟨_, rfl⟩
        have kyD : ∀ w3, D w3 → w3.cell? ⟨w.heap.size, 0, none⟩ = some V1 ∧ w3.cell? ⟨w.heap.size, 1, none⟩ = some V2 ∧ w3.cell? ⟨w.heap.size + 1, 0, none⟩ = some (.int .i64 (a : Int)) ∧ w3.cell? ⟨w.heap.size + 1, 1, none⟩ = some (.int .u64 (m : Int)) ∧ w3.cell? ⟨w.heap.size + 1 + 1, 0, none⟩ = some (.int .i64 b) ∧ w3.cell? ⟨w.heap.size + 1 + 1, 1, none⟩ = some (.int .u64 (n : Int)) ∧ w3.cell? ⟨wc.heap.size, 0, none⟩ = some (.int .i64 (a : Int)) ∧ w3.cell? ⟨wc.heap.size, 1, none⟩ = some (.int .u64 (m : Int)) ∧ D w3 := by
          intro w3 h
          have hb := h
          rw [hDd] at hb
          obtain ⟨z0, z1, z2, z3, z4, z5, zC⟩ := HKY.out _ hb.1
          obtain ⟨z6, z7⟩ := agg_keep gD hb.2.out
          exact ⟨z0, z1, z2, z3, z4, z5, z6, z7, h⟩
        have hND : ∀ W W', D W → Below W.heap.size W W' → D W' := fun W W' h h' => by rw [hDd] at h ⊢; exact ⟨HCN.out _ _ h.1 h', Lib.hid (h.2.out.trans (h'.mono h.2.out.size))⟩
        have hCD : ∀ W, D W → C W := fun W h => by rw [hDd] at h; exact h.1
        have hD0 : D wd := by rw [hDd]; exact ⟨hAD, Lib.hid (Below.refl _ _)⟩
        have hDs : ∀ W, D W → D W.drew := fun W h => by rw [hDd] at h ⊢; exact ⟨HCS.out _ h.1, Lib.hid h.2.out.drew⟩
        have HND := Lib.hid hND
        have HCD := Lib.hid hCD
        have HSD := Lib.hid hDs
        have HYD := Lib.hid kyD
        clear hND hCD hDs kyD hDd gD hAD
        have cD := fun W (h : D W) => (dom_any b (a : Int) n m HP.out.2 HP.out.1 W).mono fun e w3 ⟨he, hb⟩ => (⟨he, HND.out W w3 h hb⟩ : _ ∧ D w3)
        have cC := fun W (h : D W) => (mcheck_any V1 V2 lv cp b n ⟨S.toArray⟩ W (HSL.out W (HCD.out W h)).1 (HSL.out W (HCD.out W h)).2.1 hml HP.out.2 (by rw [lsize]; have := HR.out.2.2; omega) (HSL.out W (HCD.out W h)).2.2).mono fun e w3 ⟨he, hb⟩ => (⟨he, HND.out W w3 h hb⟩ : _ ∧ D w3)
        rw [show (⟨S.toArray⟩ : ByteArray).data.toList = S by simp, HR.out.2.1] at cC
        unfold labV at cD cC
        generalize domB b n (a : Int) m = dm at *
        clear hs5
        cases dm
        · simp only [Bool.false_eq_true, if_false, if_true] at cC
          refine (cD _ hD0).mono ?_
          rintro e we ⟨rfl, hDe⟩
          obtain ⟨e0, e1, e2, e3, e4, e5, e6, e7, eC⟩ := HYD.out _ hDe
          clear cD hD0 d0 d1 d2 d3 d4 d5 d6 d7 dC
          go_wp2_with fail
          refine (cC _ hDe).mono ?_
          rintro e wf ⟨rfl, hDf⟩
          obtain ⟨f0, f1, f2, f3, f4, f5, f6, f7, fC⟩ := HYD.out _ hDf
          clear cC
          go_wp2
          go_ret
          exact ⟨rfl, HCB.out _ (HCD.out _ hDf)⟩
        · simp only [Bool.false_eq_true, if_false, if_true] at cC
          refine (cD _ hD0).mono ?_
          rintro e we ⟨rfl, hDe⟩
          obtain ⟨e0, e1, e2, e3, e4, e5, e6, e7, eC⟩ := HYD.out _ hDe
          clear cD hD0 d0 d1 d2 d3 d4 d5 d6 d7 dC
          go_wp2_with fail
          refine (cC _ hDe).mono ?_
          rintro e wf ⟨rfl, hDf⟩
          obtain ⟨f0, f1, f2, f3, f4, f5, f6, f7, fC⟩ := HYD.out _ hDf
          clear cC
          go_wp2
          go_ret
          exact ⟨rfl, HCB.out _ (HCD.out _ hDf)⟩
      · rw [hi, if_neg (by decide)] at cM
        rw [hi] at cI
        generalize lprE (nms lv) (nms cp) a m = E at *
        have HSZ := Lib.hid hsz2
        clear hi ht hsz2
        rcases he with rfl | rfl
        all_goals
          go_wp2_with fail
          refine (cM _ hCa).mono ?_
          rintro e wb ⟨rfl, hCb⟩
          obtain ⟨b0, b1, b2, b3, b4, b5, bC⟩ := HKY.out _ hCb
          clear a0 a1 a2 a3 a4 a5 aC
          clear cM
          go_wp2_with fail
          refine (cI _ hCb).mono ?_
          rintro e wc ⟨rfl, hCc⟩
          obtain ⟨c0, c1, c2, c3, c4, c5, cC⟩ := HKY.out _ hCc
          clear b0 b1 b2 b3 b4 b5 bC
          clear cI
          go_wp2
          go_ret
          exact ⟨rfl, HCB.out _ hCc⟩
theorem mback_law (V1 V2 : Value) (lv cp : List ByteArray) (a : Int) (m : Nat) (b : Int) (n : Nat) (s : ByteArray) (w : World) (hmax : MaxAt w) (h : SlIn w V1 lv ∧ SlIn w V2 cp ∧ (lv.length ≤ 9223372036854775807 ∧ cp.length ≤ 9223372036854775807)) (h0 : (Lit.int .i64 a).wf = true ∧ m < 18446744073709551616) (h1 : (Lit.int .i64 b).wf = true ∧ n < 18446744073709551616) (h2 : s.size ≤ maxLen) :
    Calls Tryd.prog 3 #[.agg #[V1, V2], labV a m, labV b n, .string s] w fun e w' => e = .returned (.bool true) ∧ Below w.heap.size w w' := mback_all V1 V2 lv cp a b m n s w hmax h.1 h.2.1 h.2.2 h0.2 h1.2 (by unfold maxLen at h2; omega)
end Go.Proofs.YtkmcifimhbmgnaaDoor
