/- The marking laws: MarkingTwice. -/
import Derived.Test.YtkmcifimhbmgnaaGreatDoorMrkD
import Derived.Test.YtkmcifimhbmgnaaGreatDoorLatDj
set_option linter.unusedVariables false
set_option linter.unusedSimpArgs false
namespace Go.Proofs.YtkmcifimhbmgnaaGreatDoor
open Go.RowKit
theorem ckF_mark {lv cp : List Bs} (h : LatOk lv cp) {a m : Nat} (ha : a < lv.length) (hm : m < 2 ^ cp.length) (b : Int) (n : Nat) (t : Bs) : ckF lv cp b n (mlF lv cp a m ++ 13 :: 10 :: t) = if domB b n a m then 0 else 8 := by
  unfold ckF; rw [rdF_mark h ha hm, if_pos rfl]
theorem mlF_len {lv cp : List Bs} (h : LatOk lv cp) {a m : Nat} (ha : a < lv.length) : (mlF lv cp a m).length ≤ 2006 := by
  unfold mlF
  rw [List.length_append]
  have := ltxt_len2 h ha (m := m)
  have h6 : mword.length = 6 := rfl
  omega
theorem ckF_blank {lv cp : List Bs} (h : LatOk lv cp) (a : Int) (m : Nat) (t : Bs) : ckF lv cp a m (32 :: t) = 11 := by
  unfold ckF; rw [rdF_blank h]; rfl
theorem ckF_same {lv cp : List Bs} (h : LatOk lv cp) {a m : Nat} (ha : a < lv.length) (hm : m < 2 ^ cp.length) (t : Bs) : ckF lv cp a m (mlF lv cp a m ++ 13 :: 10 :: t) = 0 := by
  rw [ckF_mark h ha hm, if_pos (domB_true.2 ⟨Int.le_refl _, subB.refl _⟩)]
theorem mkT_in {lv cp : List Bs} (h : LatOk lv cp) {a m : Nat} (ha : a < lv.length) (hm : m < 2 ^ cp.length) (t : Bs) : mkT lv cp (a : Int) m t = mlF lv cp a m ++ 13 :: 10 :: t ∧ lprE lv cp (a : Int) m = 0 := by
  have hI : inL lv cp (a : Int) m = true := by unfold inL; rw [(latR_iff _ _).2 h, decide_eq_true (by exact ⟨by omega, by omega, hm⟩)]; rfl
  unfold mkT lprE
  rw [hI, (latR_iff _ _).2 h, if_pos rfl, Int.toNat_natCast]; exact ⟨rfl, rfl⟩
theorem blank_app (S : Bs) : ((⟨#[32]⟩ : ByteArray) ++ (⟨S.toArray⟩ : ByteArray)).data.toList = 32 :: S := by simp
set_option maxRecDepth 100000 in
set_option maxHeartbeats 16000000 in
theorem mtwice_all (V1 V2 : Value) (lv cp : List ByteArray) (a b : Int) (m n : Nat) (s : ByteArray) (w : World) (hmax : MaxAt w) (h1 : SlIn w V1 lv) (h2 : SlIn w V2 cp) (hml : lv.length ≤ 9223372036854775807 ∧ cp.length ≤ 9223372036854775807) (hm : m < M64) (hn : n < M64) (hsz : s.size ≤ 9223372036854775807) :
    Calls Tryz.prog 4 #[.agg #[V1, V2], labV a m, labV b n, .string s] w fun e w' => e = .returned (.bool true) ∧ Below w.heap.size w w' := by
  have hbx := box3 w (.cells #[V1, V2] 24 (0, 0)) (.cells #[.int .i64 a, .int .u64 (m : Int)] 27 (0, 0)) (.cells #[.int .i64 b, .int .u64 (n : Int)] 27 (0, 0))
  have hb3 := below3 w (.cells #[V1, V2] 24 (0, 0)) (.cells #[.int .i64 a, .int .u64 (m : Int)] 27 (0, 0)) (.cells #[.int .i64 b, .int .u64 (n : Int)] 27 (0, 0))
  have c0 := awake2_any _ (hmax.below hb3)
  have hs1 := h1.below hb3
  have hs2 := h2.below hb3
  have hm1 := hmax.below hb3
  unfold labV
  go_enter Tryz.func4, Tryz.ntmps4
  go_wp2_with fail
  generalize (((w.alloc (.cells #[V1, V2] 24 (0, 0))).alloc (.cells #[.int .i64 a, .int .u64 (m : Int)] 27 (0, 0))).alloc (.cells #[.int .i64 b, .int .u64 (n : Int)] 27 (0, 0))) = w1 at *
  refine c0.mono ?_
  rintro e w2 ⟨rfl, hb2⟩
  obtain ⟨C, hCd⟩ : ∃ C : World → Prop, C = fun w3 => Hid (Below w1.heap.size w1 w3) := ⟨_, rfl⟩
  have key2 : ∀ w3, C w3 → w3.cell? ⟨w.heap.size, 0, none⟩ = some V1 ∧ w3.cell? ⟨w.heap.size, 1, none⟩ = some V2 ∧ w3.cell? ⟨w.heap.size + 1, 0, none⟩ = some (.int .i64 a) ∧ w3.cell? ⟨w.heap.size + 1, 1, none⟩ = some (.int .u64 (m : Int)) ∧ w3.cell? ⟨w.heap.size + 1 + 1, 0, none⟩ = some (.int .i64 b) ∧ w3.cell? ⟨w.heap.size + 1 + 1, 1, none⟩ = some (.int .u64 (n : Int)) ∧ C w3 := by
    intro w3 h
    have hb := h
    rw [hCd] at hb
    obtain ⟨x0, y0⟩ := agg_keep hbx.1 hb.out
    obtain ⟨x1, y1⟩ := agg_keep hbx.2.1 hb.out
    obtain ⟨x2, y2⟩ := agg_keep hbx.2.2 hb.out
    exact ⟨x0, y0, x1, y1, x2, y2, h⟩
  have hCs : ∀ w3, C w3 → C w3.drew := fun w3 h => by rw [hCd] at h ⊢; exact Lib.hid h.out.drew
  have hC2 : C w2 := by rw [hCd]; exact Lib.hid hb2
  have hCb : ∀ w3, C w3 → Below w.heap.size w w3 := fun w3 h => by rw [hCd] at h; exact hb3.trans (h.out.mono hb3.size)
  have hCn : ∀ W W', C W → Below W.heap.size W W' → C W' := fun W W' h h' => by rw [hCd] at h ⊢; exact Lib.hid (h.out.trans (h'.mono h.out.size))
  have hsl : ∀ W, C W → SlIn W V1 lv ∧ SlIn W V2 cp ∧ MaxAt W := fun W h => by rw [hCd] at h; exact ⟨hs1.below h.out, hs2.below h.out, hm1.below h.out⟩
  have HCB := Lib.hid hCb
  have HCN := Lib.hid hCn
  have HCS := Lib.hid hCs
  have HKY := Lib.hid key2
  have HSL := Lib.hid hsl
  clear hCb hCn hCs key2 hsl hs1 hs2 hm1 hbx hb3 c0 hCd hb2 hmax
  have cF := fun W (h : C W) => (few_any V1 V2 lv cp W (HSL.out W h).1 (HSL.out W h).2.1 hml).mono fun e w3 ⟨he, hb⟩ => (⟨he, HCN.out W w3 h hb⟩ : _ ∧ C w3)
  have cIa := fun W (h : C W) => (in_any V1 V2 lv cp a m W (HSL.out W h).1 (HSL.out W h).2.1 hml hm).mono fun e w3 ⟨he, hb⟩ => (⟨he, HCN.out W w3 h hb⟩ : _ ∧ C w3)
  have cIb := fun W (h : C W) => (in_any V1 V2 lv cp b n W (HSL.out W h).1 (HSL.out W h).2.1 hml hn).mono fun e w3 ⟨he, hb⟩ => (⟨he, HCN.out W w3 h hb⟩ : _ ∧ C w3)
  unfold labV at cIa cIb
  have hs0 : (0 : Int) ≤ (s.size : Int) := by omega
  have HP := Lib.hid (And.intro hm hn)
  have HIA := Lib.hid (fun h => inL_inv (lv := nms lv) (cp := nms cp) (a := a) (m := m) h)
  have HIB := Lib.hid (fun h => inL_inv (lv := nms lv) (cp := nms cp) (a := b) (m := n) h)
  generalize inL (nms lv) (nms cp) a m = Ia at *
  generalize inL (nms lv) (nms cp) b n = Ib at *
  obtain ⟨k0, k1, k2, k3, k4, k5, kC⟩ := HKY.out _ hC2
  clear h1 h2 hm hn
  go_wp2_with fail
  refine (cF _ hC2).mono ?_
  rintro e wa ⟨⟨f, rfl, hf⟩, hCa⟩
  obtain ⟨a0, a1, a2, a3, a4, a5, aC⟩ := HKY.out _ hCa
  clear k0 k1 k2 k3 k4 k5 kC
  cases f with
  | false =>
    clear hf cIa cIb
    go_wp2
    go_ret
    exact ⟨rfl, HCB.out _ (hCa)⟩
  | true =>
    clear cF hf
    by_cases hs3 : (5000 : Int) < (s.size : Int)
    · clear cIa cIb
      go_wp2
      go_ret
      exact ⟨rfl, HCB.out _ (hCa)⟩
    · have hs5 : (s.size : Int) ≤ 5000 := by omega
      have HSZ := Lib.hid (bsize s)
      clear hs3
      cases Ia with
      | false =>
        clear cIb
        go_wp2_with fail
        refine (cIa _ hCa).mono ?_
        rintro e wb ⟨rfl, hCb⟩
        obtain ⟨b0, b1, b2, b3, b4, b5, bC⟩ := HKY.out _ hCb
        clear a0 a1 a2 a3 a4 a5 aC
        clear cIa
        go_wp2
        go_ret
        exact ⟨rfl, HCB.out _ (hCb)⟩
      | true =>
        go_wp2_with fail
        refine (cIa _ hCa).mono ?_
        rintro e wb ⟨rfl, hCb⟩
        obtain ⟨b0, b1, b2, b3, b4, b5, bC⟩ := HKY.out _ hCb
        clear a0 a1 a2 a3 a4 a5 aC
        clear cIa
        cases Ib with
        | false =>
          go_wp2_with fail
          refine (cIb _ hCb).mono ?_
          rintro e wc ⟨rfl, hCc⟩
          obtain ⟨c0, c1, c2, c3, c4, c5, cC⟩ := HKY.out _ hCc
          clear b0 b1 b2 b3 b4 b5 bC
          clear cIb
          go_wp2
          go_ret
          exact ⟨rfl, HCB.out _ (hCc)⟩
        | true =>
          go_wp2_with fail
          refine (cIb _ hCb).mono ?_
          rintro e wc ⟨rfl, hCc⟩
          obtain ⟨c0, c1, c2, c3, c4, c5, cC⟩ := HKY.out _ hCc
          clear b0 b1 b2 b3 b4 b5 bC
          clear cIb
          obtain ⟨hok, a, rfl, ha, hm⟩ := HIA.out (by simp)
          obtain ⟨_, b, rfl, hb, hn⟩ := HIB.out (by simp)
          have cM := fun W (h : C W) => (mark_any V1 V2 lv cp (a : Int) m s W (HSL.out W h).1 (HSL.out W h).2.1 hml HP.out.1 (by omega)).mono fun e w3 ⟨he, hb⟩ => (⟨he, HCN.out W w3 h hb⟩ : _ ∧ C w3)
          rw [(mkT_in hok ha hm _).1, (mkT_in hok ha hm s.data.toList).2] at cM
          have hrd := rdF_mark hok ha hm s.data.toList
          have hSl : (mlF (nms lv) (nms cp) a m ++ 13 :: 10 :: s.data.toList).length ≤ 8000 := by
            rw [List.length_append, List.length_cons, List.length_cons]
            have := mlF_len hok ha (m := m)
            have := HSZ.out
            omega
          generalize mlF (nms lv) (nms cp) a m ++ 13 :: 10 :: s.data.toList = S at *
          have hSB : (⟨S.toArray⟩ : ByteArray).data.toList = S := by simp
          have hSz : (⟨S.toArray⟩ : ByteArray).size = S.length := lsize S
          have cM2 := fun W (h : C W) => (mark_any V1 V2 lv cp (b : Int) n ⟨S.toArray⟩ W (HSL.out W h).1 (HSL.out W h).2.1 hml HP.out.2 (by omega)).mono fun e w3 ⟨he, hb⟩ => (⟨he, HCN.out W w3 h hb⟩ : _ ∧ C w3)
          rw [(mkT_in hok hb hn _).1, (mkT_in hok hb hn (⟨S.toArray⟩ : ByteArray).data.toList).2, hSB] at cM2
          have hrd2 := rdF_mark hok hb hn S
          have hck := ckF_same hok hb hn S
          have hbl := ckF_blank hok (max (a : Int) (b : Int)) (m ||| n) S
          have hTl : (mlF (nms lv) (nms cp) b n ++ 13 :: 10 :: S).length ≤ 12000 := by
            rw [List.length_append, List.length_cons, List.length_cons]
            have := mlF_len hok hb (m := n)
            omega
          generalize mlF (nms lv) (nms cp) b n ++ 13 :: 10 :: S = T at *
          have hTz : (⟨T.toArray⟩ : ByteArray).size = T.length := lsize T
          have hTB : (⟨T.toArray⟩ : ByteArray).data.toList = T := by simp
          have cR := fun W (h : C W) => (read_any V1 V2 lv cp ⟨T.toArray⟩ W (HSL.out W h).1 (HSL.out W h).2.1 hml (by omega) (HSL.out W h).2.2).mono fun e w3 ⟨he, hb⟩ => (⟨he, HCN.out W w3 h hb⟩ : _ ∧ C w3)
          rw [hTB, hrd2] at cR
          have hbl2 := blank_app S
          have HX := Lib.hid (And.intro hrd (And.intro hck (And.intro hbl (And.intro hTB (And.intro hSB hbl2)))))
          have HZ := Lib.hid (And.intro hSl (And.intro hTl (And.intro hTz hSz)))
          unfold labV at cM cM2 cR
          dsimp only at cR
          clear hrd hrd2 hck hbl hbl2 hTB hSB hSl hTl hTz hSz hok ha hb hm hn HIA HIB
          go_wp2_with fail
          refine (cM _ hCc).mono ?_
          rintro e wd ⟨rfl, hCd⟩
          obtain ⟨d0, d1, d2, d3, d4, d5, dC⟩ := HKY.out _ hCd
          clear c0 c1 c2 c3 c4 c5 cC
          clear cM
          go_wp2_with fail
          refine (cM2 _ hCd).mono ?_
          rintro e we ⟨rfl, hCe⟩
          obtain ⟨e0, e1, e2, e3, e4, e5, eC⟩ := HKY.out _ hCe
          clear d0 d1 d2 d3 d4 d5 dC
          clear cM2
          go_wp2_with fail
          refine (cR _ hCe).mono ?_
          rintro e wf ⟨rfl, hCf⟩
          obtain ⟨f0, f1, f2, f3, f4, f5, fC⟩ := HKY.out _ hCf
          clear e0 e1 e2 e3 e4 e5 eC
          clear cR
          have gD := heap_alloc_new wf (.cells #[.int .i64 (b : Int), .int .u64 (n : Int)] 27 (0, 0))
          have hAD : C (wf.alloc (.cells #[.int .i64 (b : Int), .int .u64 (n : Int)] 27 (0, 0))) := HCN.out _ _ hCf ((Below.refl _ _).alloc (Nat.le_refl _) _)
          obtain ⟨qd0, qd1, qd2, qd3, qd4, qd5, qdC⟩ := HKY.out _ hAD
          obtain ⟨qd6, qd7⟩ := agg_keep gD (Below.refl _ _)
          clear f0 f1 f2 f3 f4 f5 fC
          go_wp2_with fail
          generalize wf.alloc (.cells #[.int .i64 (b : Int), .int .u64 (n : Int)] 27 (0, 0)) = wg at *
          obtain ⟨D, hDd⟩ : ∃ D : World → Prop, D = fun w3 => C w3 ∧ Hid (Below wg.heap.size wg w3) := ⟨_, rfl⟩
          have kyD : ∀ w3, D w3 → w3.cell? ⟨w.heap.size, 0, none⟩ = some V1 ∧ w3.cell? ⟨w.heap.size, 1, none⟩ = some V2 ∧ w3.cell? ⟨w.heap.size + 1, 0, none⟩ = some (.int .i64 (a : Int)) ∧ w3.cell? ⟨w.heap.size + 1, 1, none⟩ = some (.int .u64 (m : Int)) ∧ w3.cell? ⟨w.heap.size + 1 + 1, 0, none⟩ = some (.int .i64 (b : Int)) ∧ w3.cell? ⟨w.heap.size + 1 + 1, 1, none⟩ = some (.int .u64 (n : Int)) ∧ w3.cell? ⟨wf.heap.size, 0, none⟩ = some (.int .i64 (b : Int)) ∧ w3.cell? ⟨wf.heap.size, 1, none⟩ = some (.int .u64 (n : Int)) ∧ D w3 := by
            intro w3 h
            have hb := h
            rw [hDd] at hb
            obtain ⟨z0, z1, z2, z3, z4, z5, zC⟩ := HKY.out _ hb.1
            obtain ⟨za, zb⟩ := agg_keep gD hb.2.out
            exact ⟨z0, z1, z2, z3, z4, z5, za, zb, h⟩
          have hND : ∀ W W', D W → Below W.heap.size W W' → D W' := fun W W' h h' => by rw [hDd] at h ⊢; exact ⟨HCN.out _ _ h.1 h', Lib.hid (h.2.out.trans (h'.mono h.2.out.size))⟩
          have hCD : ∀ W, D W → C W := fun W h => by rw [hDd] at h; exact h.1
          have hD0 : D wg := by rw [hDd]; exact ⟨hAD, Lib.hid (Below.refl _ _)⟩
          have hDs : ∀ W, D W → D W.drew := fun W h => by rw [hDd] at h ⊢; exact ⟨HCS.out _ h.1, Lib.hid h.2.out.drew⟩
          have HND := Lib.hid hND
          have HCD := Lib.hid hCD
          have HSD := Lib.hid hDs
          have HYD := Lib.hid kyD
          clear hND hCD hDs kyD hDd gD hAD
          have cR2 := fun W (h : D W) => (read_any V1 V2 lv cp ⟨S.toArray⟩ W (HSL.out W (HCD.out W h)).1 (HSL.out W (HCD.out W h)).2.1 hml (by have := HZ.out; omega) (HSL.out W (HCD.out W h)).2.2).mono fun e w3 ⟨he, hb⟩ => (⟨he, HND.out W w3 h hb⟩ : _ ∧ D w3)
          rw [show (⟨S.toArray⟩ : ByteArray).data.toList = S by simp, HX.out.1] at cR2
          unfold labV at cR2
          dsimp only at cR2
          rw [ba_eq] at cR2
          refine (cR2 _ hD0).mono ?_
          rintro e wh ⟨rfl, hDh⟩
          obtain ⟨h0, h1, h2, h3, h4, h5, h6, h7, hC⟩ := HYD.out _ hDh
          clear qd0 qd1 qd2 qd3 qd4 qd5 qd6 qd7 qdC
          clear cR2 hD0
          have gE := heap_alloc_new wh (.cells #[.int .i64 (a : Int), .int .u64 (m : Int)] 27 (0, 0))
          have hAE : D (wh.alloc (.cells #[.int .i64 (a : Int), .int .u64 (m : Int)] 27 (0, 0))) := HND.out _ _ hDh ((Below.refl _ _).alloc (Nat.le_refl _) _)
          obtain ⟨qe0, qe1, qe2, qe3, qe4, qe5, qe6, qe7, qeC⟩ := HYD.out _ hAE
          obtain ⟨qe8, qe9⟩ := agg_keep gE (Below.refl _ _)
          clear h0 h1 h2 h3 h4 h5 h6 h7 hC
          have HS0 := Lib.hid HX.out
          generalize hSBe : (⟨S.toArray⟩ : ByteArray) = SB at *
          generalize hTBe : (⟨T.toArray⟩ : ByteArray) = TB at *
          have HE := Lib.hid (And.intro hSBe hTBe)
          clear hSBe hTBe
          go_wp2_with fail
          generalize wh.alloc (.cells #[.int .i64 (a : Int), .int .u64 (m : Int)] 27 (0, 0)) = wi at *
          obtain ⟨E, hEd⟩ : ∃ E : World → Prop, E = fun w3 => D w3 ∧ Hid (Below wi.heap.size wi w3) := ⟨_, rfl⟩
          have kyE : ∀ w3, E w3 → w3.cell? ⟨w.heap.size, 0, none⟩ = some V1 ∧ w3.cell? ⟨w.heap.size, 1, none⟩ = some V2 ∧ w3.cell? ⟨w.heap.size + 1, 0, none⟩ = some (.int .i64 (a : Int)) ∧ w3.cell? ⟨w.heap.size + 1, 1, none⟩ = some (.int .u64 (m : Int)) ∧ w3.cell? ⟨w.heap.size + 1 + 1, 0, none⟩ = some (.int .i64 (b : Int)) ∧ w3.cell? ⟨w.heap.size + 1 + 1, 1, none⟩ = some (.int .u64 (n : Int)) ∧ w3.cell? ⟨wf.heap.size, 0, none⟩ = some (.int .i64 (b : Int)) ∧ w3.cell? ⟨wf.heap.size, 1, none⟩ = some (.int .u64 (n : Int)) ∧ w3.cell? ⟨wh.heap.size, 0, none⟩ = some (.int .i64 (a : Int)) ∧ w3.cell? ⟨wh.heap.size, 1, none⟩ = some (.int .u64 (m : Int)) ∧ E w3 := by
            intro w3 h
            have hb := h
            rw [hEd] at hb
            obtain ⟨z0, z1, z2, z3, z4, z5, z6, z7, zC⟩ := HYD.out _ hb.1
            obtain ⟨za, zb⟩ := agg_keep gE hb.2.out
            exact ⟨z0, z1, z2, z3, z4, z5, z6, z7, za, zb, h⟩
          have hNE : ∀ W W', E W → Below W.heap.size W W' → E W' := fun W W' h h' => by rw [hEd] at h ⊢; exact ⟨HND.out _ _ h.1 h', Lib.hid (h.2.out.trans (h'.mono h.2.out.size))⟩
          have hCE : ∀ W, E W → D W := fun W h => by rw [hEd] at h; exact h.1
          have hE0 : E wi := by rw [hEd]; exact ⟨hAE, Lib.hid (Below.refl _ _)⟩
          have hEs : ∀ W, E W → E W.drew := fun W h => by rw [hEd] at h ⊢; exact ⟨HSD.out _ h.1, Lib.hid h.2.out.drew⟩
          have HNE := Lib.hid hNE
          have HCE := Lib.hid hCE
          have HSE := Lib.hid hEs
          have HYE := Lib.hid kyE
          clear hNE hCE hEs kyE hEd gE hAE
          have hSz : SB.size ≤ 8000 := by have := HZ.out; omega
          have hTz : TB.size ≤ 12000 := by have := HZ.out; omega
          have hBz : ((⟨#[32]⟩ : ByteArray) ++ SB).size ≤ 8001 := by rw [ByteArray.size_append]; show 1 + _ ≤ _; omega
          have cJ := fun W (h : E W) => (join_any (a : Int) (b : Int) m n HP.out.1 HP.out.2 W).mono fun e w3 ⟨he, hb⟩ => (⟨he, HNE.out W w3 h hb⟩ : _ ∧ E w3)
          have cC1 := fun W (h : E W) => (mcheck_any V1 V2 lv cp (max (a : Int) (b : Int)) (m ||| n) ((⟨#[32]⟩ : ByteArray) ++ SB) W (HSL.out W (HCD.out W (HCE.out W h))).1 (HSL.out W (HCD.out W (HCE.out W h))).2.1 hml (or_lt HP.out.1 HP.out.2) (by omega) (HSL.out W (HCD.out W (HCE.out W h))).2.2).mono fun e w3 ⟨he, hb⟩ => (⟨he, HNE.out W w3 h hb⟩ : _ ∧ E w3)
          have cC2 := fun W (h : E W) => (mcheck_any V1 V2 lv cp (b : Int) n TB W (HSL.out W (HCD.out W (HCE.out W h))).1 (HSL.out W (HCD.out W (HCE.out W h))).2.1 hml HP.out.2 (by omega) (HSL.out W (HCD.out W (HCE.out W h))).2.2).mono fun e w3 ⟨he, hb⟩ => (⟨he, HNE.out W w3 h hb⟩ : _ ∧ E w3)
          rw [show ((⟨#[32]⟩ : ByteArray) ++ SB).data.toList = 32 :: S by rw [← HE.out.1]; exact blank_app S, HX.out.2.2.1] at cC1
          rw [show TB.data.toList = T by rw [← HE.out.2], HX.out.2.1] at cC2
          unfold labV at cJ cC1 cC2
          generalize max (a : Int) (b : Int) = jx at *
          generalize m ||| n = jy at *
          have hNs : ¬ (9223372036854775807 < 1 + SB.size) := by omega
          clear hTz qe0 qe1 qe2 qe3 qe4 qe5 qe6 qe7 qe8 qe9 
          have hE0 := HSE.out _ hE0
          refine wp_region_quiet (C := E) (by kernel_rfl) (by kernel_rfl) hE0 ?_
          repeat
            refine wpQuiet_step (fun K hK => ?_)
            have HK := Lib.hid hK
            clear hK
            first
              | (refine (if_pos ?_).mpr ?_
                 · (simp [go_sem]; done)
                 apply Exists.intro
                 refine ⟨fun w' hw' => ?_, ?_⟩
                 · (obtain ⟨y0, y1, y2, y3, y4, y5, y6, y7, y8, y9, yC⟩ := HYE.out w' hw'; go_simp; first | done | rfl | with_reducible exact cJ _ hw' | with_reducible exact cC1 _ hw' | with_reducible exact cC2 _ hw')
                 go_simp
                 refine HK.out _ ?_
                 clear HK K)
              | (refine (if_neg ?_).mpr ?_
                 · (simp [go_sem]; done)
                 go_simp
                 refine HK.out _ ?_
                 clear HK K)
          refine wpQuiet_nil ?_
          intro w9 hw9
          go_wp2
          go_ret
          exact ⟨rfl, HCB.out _ (HCD.out _ (HCE.out _ hw9))⟩
theorem mtwice_law (V1 V2 : Value) (lv cp : List ByteArray) (a : Int) (m : Nat) (b : Int) (n : Nat) (s : ByteArray) (w : World) (hmax : MaxAt w) (h : SlIn w V1 lv ∧ SlIn w V2 cp ∧ (lv.length ≤ 9223372036854775807 ∧ cp.length ≤ 9223372036854775807)) (h0 : (Lit.int .i64 a).wf = true ∧ m < 18446744073709551616) (h1 : (Lit.int .i64 b).wf = true ∧ n < 18446744073709551616) (h2 : s.size ≤ maxLen) :
    Calls Tryz.prog 4 #[.agg #[V1, V2], labV a m, labV b n, .string s] w fun e w' => e = .returned (.bool true) ∧ Below w.heap.size w w' := mtwice_all V1 V2 lv cp a b m n s w hmax h.1 h.2.1 h.2.2 h0.2 h1.2 (by unfold maxLen at h2; omega)
end Go.Proofs.YtkmcifimhbmgnaaGreatDoor
