/- The marking laws: MarkingLines. -/
import Derived.Test.YtkmcifimhbmgnaaDoorMrkE
set_option linter.unusedVariables false
set_option linter.unusedSimpArgs false
namespace Go.Proofs.YtkmcifimhbmgnaaDoor
open Go.RowKit
theorem bytes_eq {x y : ByteArray} : (x.toList == y.toList) = decide (x.data.toList = y.data.toList) := by
  rw [Lib.toList_data, Lib.toList_data, Bool.eq_iff_iff, beq_iff_eq, decide_eq_true_iff]
theorem crlf_end (T : Bs) : (⟨(T ++ 13 :: 10 :: ([] : Bs)).toArray⟩ : ByteArray) = (⟨T.toArray⟩ : ByteArray) ++ ⟨#[13, 10]⟩ := by
  apply ByteArray.ext
  apply Array.ext'
  simp
theorem mlF_inj {lv cp : List Bs} (h : LatOk lv cp) {a b m n : Nat} (ha : a < lv.length) (hb : b < lv.length) (hm : m < 2 ^ cp.length) (hn : n < 2 ^ cp.length) (e : mlF lv cp a m = mlF lv cp b n) : a = b ∧ m = n :=
  ltxt_inj h ha hb hm hn (List.append_cancel_left e)
set_option maxRecDepth 100000 in
set_option maxHeartbeats 16000000 in
theorem mlines_all (V1 V2 : Value) (lv cp : List ByteArray) (a b : Int) (m n : Nat) (w : World) (hmax : MaxAt w) (h1 : SlIn w V1 lv) (h2 : SlIn w V2 cp) (hml : lv.length ≤ 9223372036854775807 ∧ cp.length ≤ 9223372036854775807) (hm : m < M64) (hn : n < M64) :
    Calls Tryd.prog 4 #[.agg #[V1, V2], labV a m, labV b n] w fun e w' => e = .returned (.bool true) ∧ Below w.heap.size w w' := by
  have hbx := box3 w (.cells #[V1, V2] 24 (0, 0)) (.cells #[.int .i64 a, .int .u64 (m : Int)] 27 (0, 0)) (.cells #[.int .i64 b, .int .u64 (n : Int)] 27 (0, 0))
  have hb3 := below3 w (.cells #[V1, V2] 24 (0, 0)) (.cells #[.int .i64 a, .int .u64 (m : Int)] 27 (0, 0)) (.cells #[.int .i64 b, .int .u64 (n : Int)] 27 (0, 0))
  have c0 := awake2_any _ (hmax.below hb3)
  have hs1 := h1.below hb3
  have hs2 := h2.below hb3
  have hm1 := hmax.below hb3
  unfold labV
  go_enter Tryd.func4, Tryd.ntmps4
  go_wp2_with fail
  generalize (((w.alloc (.cells #[V1, V2] 24 (0, 0))).alloc (.cells #[.int .i64 a, .int .u64 (m : Int)] 27 (0, 0))).alloc (.cells #[.int .i64 b, .int .u64 (n : Int)] 27 (0, 0))) = w1 at *
  refine c0.mono ?_
  rintro e w2 ⟨rfl, hb2⟩
  obtain ⟨C, hCd⟩ : ∃ C : World → Prop, C = fun w3 => Hid (Below w1.heap.size w1 w3) := ⟨_, rfl⟩
  have key2 : ∀ w3, C w3 → w3.cell? ⟨w.heap.size, 0, none⟩ = some V1 ∧ w3.cell? ⟨w.heap.size, 1, none⟩ = some V2 ∧ w3.cell? ⟨w.heap.size + 1, 0, none⟩ = some (.int .i64 a) ∧ w3.cell? ⟨w.heap.size + 1, 1, none⟩ = some (.int .u64 (m : Int)) ∧ w3.cell? ⟨w.heap.size + 1 + 1, 0, none⟩ = some (.int .i64 b) ∧ w3.cell? ⟨w.heap.size + 1 + 1, 1, none⟩ = some (.int .u64 (n : Int)) ∧ C w3 := by
    intro w3 h
    have hb := h
    rw [hCd] at hb
    obtain ⟨x0, y0⟩ := agg_keep hbx.1 hb.out
    obtain ⟨x1, y1⟩ := agg_keep hbx.2.1 hb.out
    obtain ⟨x2, y2⟩ := agg_keep hbx.2.2 hb.out
    exact ⟨x0, y0, x1, y1, x2, y2, h⟩
  have hCs : ∀ w3, C w3 → C w3.drew := fun w3 h => by rw [hCd] at h ⊢; exact Lib.hid h.out.drew
  have hC2 : C w2 := by rw [hCd]; exact Lib.hid hb2
  have hCb : ∀ w3, C w3 → Below w.heap.size w w3 := fun w3 h => by rw [hCd] at h; exact hb3.trans (h.out.mono hb3.size)
  have hCn : ∀ W W', C W → Below W.heap.size W W' → C W' := fun W W' h h' => by rw [hCd] at h ⊢; exact Lib.hid (h.out.trans (h'.mono h.out.size))
  have hsl : ∀ W, C W → SlIn W V1 lv ∧ SlIn W V2 cp ∧ MaxAt W := fun W h => by rw [hCd] at h; exact ⟨hs1.below h.out, hs2.below h.out, hm1.below h.out⟩
  have HCB := Lib.hid hCb
  have HCN := Lib.hid hCn
  have HCS := Lib.hid hCs
  have HKY := Lib.hid key2
  have HSL := Lib.hid hsl
  clear hCb hCn hCs key2 hsl hs1 hs2 hm1 hbx hb3 c0 hCd hb2 hmax
  have cF := fun W (h : C W) => (few_any V1 V2 lv cp W (HSL.out W h).1 (HSL.out W h).2.1 hml).mono fun e w3 ⟨he, hb⟩ => (⟨he, HCN.out W w3 h hb⟩ : _ ∧ C w3)
  have cIa := fun W (h : C W) => (in_any V1 V2 lv cp a m W (HSL.out W h).1 (HSL.out W h).2.1 hml hm).mono fun e w3 ⟨he, hb⟩ => (⟨he, HCN.out W w3 h hb⟩ : _ ∧ C w3)
  have cIb := fun W (h : C W) => (in_any V1 V2 lv cp b n W (HSL.out W h).1 (HSL.out W h).2.1 hml hn).mono fun e w3 ⟨he, hb⟩ => (⟨he, HCN.out W w3 h hb⟩ : _ ∧ C w3)
  have cLa := fun W (h : C W) => (line_any V1 V2 lv cp a m W (HSL.out W h).1 (HSL.out W h).2.1 hml hm).mono fun e w3 ⟨he, hb⟩ => (⟨he, HCN.out W w3 h hb⟩ : _ ∧ C w3)
  have cLb := fun W (h : C W) => (line_any V1 V2 lv cp b n W (HSL.out W h).1 (HSL.out W h).2.1 hml hn).mono fun e w3 ⟨he, hb⟩ => (⟨he, HCN.out W w3 h hb⟩ : _ ∧ C w3)
  unfold labV at cIa cIb cLa cLb
  unfold mlT lprE at cLa cLb
  have HIA := Lib.hid (fun h => inL_inv (lv := nms lv) (cp := nms cp) (a := a) (m := m) h)
  have HIB := Lib.hid (fun h => inL_inv (lv := nms lv) (cp := nms cp) (a := b) (m := n) h)
  generalize inL (nms lv) (nms cp) a m = Ia at *
  generalize inL (nms lv) (nms cp) b n = Ib at *
  obtain ⟨k0, k1, k2, k3, k4, k5, kC⟩ := HKY.out _ hC2
  have HM := Lib.hid hm
  clear h1 h2 hm hn
  go_wp2_with fail
  refine (cF _ hC2).mono ?_
  rintro e wa ⟨⟨f, rfl, hf⟩, hCa⟩
  obtain ⟨a0, a1, a2, a3, a4, a5, aC⟩ := HKY.out _ hCa
  clear k0 k1 k2 k3 k4 k5 kC
  cases f with
  | false =>
    clear hf cIa cIb cLa cLb
    go_wp2
    go_ret
    exact ⟨rfl, HCB.out _ hCa⟩
  | true =>
    clear cF hf
    cases Ia with
    | false =>
      clear cLa cLb cIb
      go_wp2_with fail
      refine (cIa _ hCa).mono ?_
      rintro e wb ⟨rfl, hCb⟩
      obtain ⟨b0, b1, b2, b3, b4, b5, bC⟩ := HKY.out _ hCb
      clear a0 a1 a2 a3 a4 a5 aC
      clear cIa
      go_wp2
      go_ret
      exact ⟨rfl, HCB.out _ hCb⟩
    | true =>
      go_wp2_with fail
      refine (cIa _ hCa).mono ?_
      rintro e wb ⟨rfl, hCb⟩
      obtain ⟨b0, b1, b2, b3, b4, b5, bC⟩ := HKY.out _ hCb
      clear a0 a1 a2 a3 a4 a5 aC
      clear cIa
      cases Ib with
      | false =>
        clear cLa cLb
        go_wp2_with fail
        refine (cIb _ hCb).mono ?_
        rintro e wc ⟨rfl, hCc⟩
        obtain ⟨c0, c1, c2, c3, c4, c5, cC⟩ := HKY.out _ hCc
        clear b0 b1 b2 b3 b4 b5 bC
        clear cIb
        go_wp2
        go_ret
        exact ⟨rfl, HCB.out _ hCc⟩
      | true =>
        go_wp2_with fail
        refine (cIb _ hCb).mono ?_
        rintro e wc ⟨rfl, hCc⟩
        obtain ⟨c0, c1, c2, c3, c4, c5, cC⟩ := HKY.out _ hCc
        clear b0 b1 b2 b3 b4 b5 bC
        clear cIb
        obtain ⟨hok, a, rfl, ha, hm⟩ := HIA.out (by simp)
        obtain ⟨_, b, rfl, hb, hn⟩ := HIB.out (by simp)
        have hR := (latR_iff _ _).2 hok
        simp only [hR, if_true, Int.toNat_natCast] at cLa cLb
        have q1 : mlF (nms lv) (nms cp) a m = mlF (nms lv) (nms cp) b n → a = b ∧ m = n := fun e => mlF_inj hok ha hb hm hn e
        have q4 : a = b → m = n → mlF (nms lv) (nms cp) a m = mlF (nms lv) (nms cp) b n := fun e e' => by rw [e, e']
        have hTl := mlF_len hok ha (m := m)
        have hrd := rdF_line hok ha hm
        have hIaE : inL (nms lv) (nms cp) (a : Int) m = true := by unfold inL; rw [hR, decide_eq_true (by exact ⟨by omega, by omega, hm⟩)]; rfl
        generalize hTe : mlF (nms lv) (nms cp) a m = T at *
        generalize mlF (nms lv) (nms cp) b n = U at *
        have hTz : (⟨T.toArray⟩ : ByteArray).size = T.length := lsize T
        have hTz2 : (⟨T.toArray⟩ : ByteArray).size ≤ 2006 := by omega
        have cR := fun W (h : C W) => (read_any V1 V2 lv cp ⟨T.toArray⟩ W (HSL.out W h).1 (HSL.out W h).2.1 hml (by omega) (HSL.out W h).2.2).mono fun e w3 ⟨he, hb⟩ => (⟨he, HCN.out W w3 h hb⟩ : _ ∧ C w3)
        rw [show (⟨T.toArray⟩ : ByteArray).data.toList = T by simp, hrd] at cR
        unfold labV at cR
        dsimp only at cR
        have HQ := Lib.hid (And.intro q1 q4)
        have hmk1 : (⟨(mkT (nms lv) (nms cp) (a : Int) m (⟨#[]⟩ : ByteArray).data.toList).toArray⟩ : ByteArray) = (⟨T.toArray⟩ : ByteArray) ++ ⟨#[13, 10]⟩ := by
          unfold mkT; rw [hIaE, if_pos rfl, show (⟨#[]⟩ : ByteArray).data.toList = [] from rfl, Int.toNat_natCast, hTe, crlf_end]
        have hmk2 : lprE (nms lv) (nms cp) (a : Int) m = 0 := by unfold lprE; rw [hR, hIaE]; rfl
        have HMK := Lib.hid (And.intro hmk1 hmk2)
        clear hmk1 hmk2 hIaE hTe
        clear q1 q4 hTl hrd hR hok hTz ha hb hm hn HIA HIB
        go_wp2_with fail
        refine (cLa _ hCc).mono ?_
        rintro e wd ⟨rfl, hCd⟩
        obtain ⟨d0, d1, d2, d3, d4, d5, dC⟩ := HKY.out _ hCd
        clear c0 c1 c2 c3 c4 c5 cC
        clear cLa
        go_wp2_with fail
        refine (cLb _ hCd).mono ?_
        rintro e we ⟨rfl, hCe⟩
        obtain ⟨e0, e1, e2, e3, e4, e5, eC⟩ := HKY.out _ hCe
        clear d0 d1 d2 d3 d4 d5 dC
        clear cLb
        go_wp2_with fail
        refine (cR _ hCe).mono ?_
        rintro e wf ⟨rfl, hCf⟩
        obtain ⟨f0, f1, f2, f3, f4, f5, fC⟩ := HKY.out _ hCf
        clear e0 e1 e2 e3 e4 e5 eC
        clear cR
        have gD := heap_alloc_new wf (.cells #[.int .i64 (a : Int), .int .u64 (m : Int)] 27 (0, 0))
        have hAD : C (wf.alloc (.cells #[.int .i64 (a : Int), .int .u64 (m : Int)] 27 (0, 0))) := HCN.out _ _ hCf ((Below.refl _ _).alloc (Nat.le_refl _) _)
        obtain ⟨d0, d1, d2, d3, d4, d5, dC⟩ := HKY.out _ hAD
        obtain ⟨d6, d7⟩ := agg_keep gD (Below.refl _ _)
        clear f0 f1 f2 f3 f4 f5 fC
        go_wp2_with fail
        generalize wf.alloc (.cells #[.int .i64 (a : Int), .int .u64 (m : Int)] 27 (0, 0)) = wg at *
        obtain ⟨D, hDd⟩ : ∃ D : World → Prop, D = fun w3 => C w3 ∧ Hid (Below wg.heap.size wg w3) := ⟨_, rfl⟩
        have kyD : ∀ w3, D w3 → w3.cell? ⟨w.heap.size, 0, none⟩ = some V1 ∧ w3.cell? ⟨w.heap.size, 1, none⟩ = some V2 ∧ w3.cell? ⟨w.heap.size + 1, 0, none⟩ = some (.int .i64 (a : Int)) ∧ w3.cell? ⟨w.heap.size + 1, 1, none⟩ = some (.int .u64 (m : Int)) ∧ w3.cell? ⟨w.heap.size + 1 + 1, 0, none⟩ = some (.int .i64 (b : Int)) ∧ w3.cell? ⟨w.heap.size + 1 + 1, 1, none⟩ = some (.int .u64 (n : Int)) ∧ w3.cell? ⟨wf.heap.size, 0, none⟩ = some (.int .i64 (a : Int)) ∧ w3.cell? ⟨wf.heap.size, 1, none⟩ = some (.int .u64 (m : Int)) ∧ D w3 := by
          intro w3 h
          have hb := h
          rw [hDd] at hb
          obtain ⟨z0, z1, z2, z3, z4, z5, zC⟩ := HKY.out _ hb.1
          obtain ⟨z6, z7⟩ := agg_keep gD hb.2.out
          exact ⟨z0, z1, z2, z3, z4, z5, z6, z7, h⟩
        have hND : ∀ W W', D W → Below W.heap.size W W' → D W' := fun W W' h h' => by rw [hDd] at h ⊢; exact ⟨HCN.out _ _ h.1 h', Lib.hid (h.2.out.trans (h'.mono h.2.out.size))⟩
        have hCD : ∀ W, D W → C W := fun W h => by rw [hDd] at h; exact h.1
        have hD0 : D wg := by rw [hDd]; exact ⟨hAD, Lib.hid (Below.refl _ _)⟩
        have hDs : ∀ W, D W → D W.drew := fun W h => by rw [hDd] at h ⊢; exact ⟨HCS.out _ h.1, Lib.hid h.2.out.drew⟩
        have HND := Lib.hid hND
        have HCD := Lib.hid hCD
        have HSD := Lib.hid hDs
        have HYD := Lib.hid kyD
        clear hND hCD hDs kyD hDd gD hAD
        have cMd := fun W (h : D W) => (mark_any V1 V2 lv cp (a : Int) m ⟨#[]⟩ W (HSL.out W (HCD.out W h)).1 (HSL.out W (HCD.out W h)).2.1 hml HM.out (by decide)).mono fun e w3 ⟨he, hb⟩ => (⟨he, HND.out W w3 h hb⟩ : _ ∧ D w3)
        unfold labV at cMd
        rw [HMK.out.1, HMK.out.2] at cMd
        refine (cMd _ hD0).mono ?_
        rintro e wh ⟨rfl, hDh⟩
        obtain ⟨e0, e1, e2, e3, e4, e5, e6, e7, eC⟩ := HYD.out _ hDh
        clear cMd hD0 d0 d1 d2 d3 d4 d5 d6 d7 dC
        have q1 := HQ.out.1
        have q4 := HQ.out.2
        have he1 : ((⟨T.toArray⟩ : ByteArray).toList == (⟨U.toArray⟩ : ByteArray).toList) = decide (T = U) := by rw [bytes_eq]
        have hl1 : T = U ∧ a = b ∧ m = n ∨ ¬ T = U ∧ (((a : Int) == (b : Int)) = false ∨ ((m : Int) == (n : Int)) = false) := by
          by_cases h : T = U
          · exact .inl ⟨h, q1 h⟩
          · refine .inr ⟨h, ?_⟩
            by_cases h3 : a = b
            · right; rw [beq_eq_false_iff_ne]; intro e; exact h (q4 h3 (by omega))
            · left; rw [beq_eq_false_iff_ne]; omega
        clear q1 q4 HQ HMK
        rcases hl1 with ⟨rfl, rfl, rfl⟩ | ⟨hne, hl1⟩
        · clear he1
          generalize (⟨T.toArray⟩ : ByteArray) = TB at *
          go_wp2
          go_ret
          exact ⟨rfl, HCB.out _ (HCD.out _ hDh)⟩
        · rw [decide_eq_false hne] at he1
          clear hne
          generalize (⟨T.toArray⟩ : ByteArray) = TB at *
          generalize (⟨U.toArray⟩ : ByteArray) = UB at *
          rcases hl1 with hl1 | hl1
          all_goals
            go_wp2
            go_ret
            exact ⟨rfl, HCB.out _ (HCD.out _ hDh)⟩
theorem mlines_law (V1 V2 : Value) (lv cp : List ByteArray) (a : Int) (m : Nat) (b : Int) (n : Nat) (w : World) (hmax : MaxAt w) (h : SlIn w V1 lv ∧ SlIn w V2 cp ∧ (lv.length ≤ 9223372036854775807 ∧ cp.length ≤ 9223372036854775807)) (h0 : (Lit.int .i64 a).wf = true ∧ m < 18446744073709551616) (h1 : (Lit.int .i64 b).wf = true ∧ n < 18446744073709551616) :
    Calls Tryd.prog 4 #[.agg #[V1, V2], labV a m, labV b n] w fun e w' => e = .returned (.bool true) ∧ Below w.heap.size w w' := mlines_all V1 V2 lv cp a b m n w hmax h.1 h.2.1 h.2.2 h0.2 h1.2
end Go.Proofs.YtkmcifimhbmgnaaDoor
