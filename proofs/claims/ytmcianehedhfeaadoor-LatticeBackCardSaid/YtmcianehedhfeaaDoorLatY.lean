/- The lattice laws: LatticeTexts. -/
import Derived.Test.YtmcianehedhfeaaDoorLatX
import Derived.Test.YtmcianehedhfeaaDoorLatP
set_option linter.unusedVariables false
set_option linter.unusedSimpArgs false
namespace Go.Proofs.YtmcianehedhfeaaDoor
open Go.RowKit
theorem bytes_eq {x y : ByteArray} : (x.toList == y.toList) = decide (x.data.toList = y.data.toList) := by
  rw [Lib.toList_data, Lib.toList_data, Bool.eq_iff_iff, beq_iff_eq, decide_eq_true_iff]
theorem ltxt_name {lv cp : List Bs} (h : LatOk lv cp) {a m : Nat} (ha : a < lv.length) (hm : m < 2 ^ cp.length) : (ltxt lv cp a m = lv[a] ↔ m = 0) := by
  rw [ltxt_eq ha]
  constructor
  · intro e
    have h1 : tl (selF cp m) = [] := by
      have := congrArg List.length e
      rw [List.length_append] at this
      exact List.eq_nil_of_length_eq_zero (by omega)
    by_cases h2 : selF cp m = []
    · exact selF_nil hm h2
    · unfold tl at h1; rw [if_neg h2] at h1; cases h1
  · rintro rfl
    rw [selF_zero]; unfold tl; simp
set_option maxRecDepth 100000 in
set_option maxHeartbeats 8000000 in
theorem texts_all (V1 V2 : Value) (lv cp : List ByteArray) (a b : Int) (m n : Nat) (w : World) (hmax : MaxAt w) (h1 : SlIn w V1 lv) (h2 : SlIn w V2 cp) (hml : lv.length ≤ 9223372036854775807 ∧ cp.length ≤ 9223372036854775807) (hm : m < M64) (hn : n < M64) :
    Calls Tryd.prog 6 #[.agg #[V1, V2], labV a m, labV b n] w fun e w' => e = .returned (.bool true) ∧ Below w.heap.size w w' := by
  have hbx := box3 w (.cells #[V1, V2] 30 (0, 0)) (.cells #[.int .i64 a, .int .u64 (m : Int)] 24 (0, 0)) (.cells #[.int .i64 b, .int .u64 (n : Int)] 24 (0, 0))
  have hb3 := below3 w (.cells #[V1, V2] 30 (0, 0)) (.cells #[.int .i64 a, .int .u64 (m : Int)] 24 (0, 0)) (.cells #[.int .i64 b, .int .u64 (n : Int)] 24 (0, 0))
  have c0 := awake_any _ (hmax.below hb3)
  have hs1 := h1.below hb3
  have hs2 := h2.below hb3
  have hm1 := hmax.below hb3
  unfold labV
  go_enter Tryd.func6, Tryd.ntmps6
  go_wp2_with fail
  generalize (((w.alloc (.cells #[V1, V2] 30 (0, 0))).alloc (.cells #[.int .i64 a, .int .u64 (m : Int)] 24 (0, 0))).alloc (.cells #[.int .i64 b, .int .u64 (n : Int)] 24 (0, 0))) = w1 at *
  refine c0.mono ?_
  rintro e w2 ⟨rfl, hb2⟩
  obtain ⟨C, hCd⟩ : ∃ C : World → Prop, C = fun w3 => Hid (Below w1.heap.size w1 w3) := ⟨_, rfl⟩
  have key2 : ∀ w3, C w3 → w3.cell? ⟨w.heap.size, 0, none⟩ = some V1 ∧ w3.cell? ⟨w.heap.size, 1, none⟩ = some V2 ∧ w3.cell? ⟨w.heap.size + 1, 0, none⟩ = some (.int .i64 a) ∧ w3.cell? ⟨w.heap.size + 1, 1, none⟩ = some (.int .u64 (m : Int)) ∧ w3.cell? ⟨w.heap.size + 1 + 1, 0, none⟩ = some (.int .i64 b) ∧ w3.cell? ⟨w.heap.size + 1 + 1, 1, none⟩ = some (.int .u64 (n : Int)) ∧ C w3 := by
    intro w3 h
    have hb := h
    rw [hCd] at hb
    obtain ⟨x0, y0⟩ := agg_keep hbx.1 hb.out
    obtain ⟨x1, y1⟩ := agg_keep hbx.2.1 hb.out
    obtain ⟨x2, y2⟩ := agg_keep hbx.2.2 hb.out
    exact ⟨x0, y0, x1, y1, x2, y2, h⟩
  have hCs : ∀ w3, C w3 → C w3.drew := fun w3 h => by rw [hCd] at h ⊢; exact Lib.hid h.out.drew
  have hC2 : C w2 := by rw [hCd]; exact Lib.hid hb2
  have hCb : ∀ w3, C w3 → Below w.heap.size w w3 := fun w3 h => by rw [hCd] at h; exact hb3.trans (h.out.mono hb3.size)
  have hCn : ∀ W W', C W → Below W.heap.size W W' → C W' := fun W W' h h' => by rw [hCd] at h ⊢; exact Lib.hid (h.out.trans (h'.mono h.out.size))
  have hsl : ∀ W, C W → SlIn W V1 lv ∧ SlIn W V2 cp ∧ MaxAt W := fun W h => by rw [hCd] at h; exact ⟨hs1.below h.out, hs2.below h.out, hm1.below h.out⟩
  have HCB := Lib.hid hCb
  have HCN := Lib.hid hCn
  have HCS := Lib.hid hCs
  have HKY := Lib.hid key2
  have HSL := Lib.hid hsl
  clear hCb hCn hCs key2 hsl hs1 hs2 hm1 hbx hb3 c0 hCd hb2 hmax
  have cF := fun W (h : C W) => (few_any V1 V2 lv cp W (HSL.out W h).1 (HSL.out W h).2.1 hml).mono fun e w3 ⟨he, hb⟩ => (⟨he, HCN.out W w3 h hb⟩ : _ ∧ C w3)
  have cIa := fun W (h : C W) => (in_any V1 V2 lv cp a m W (HSL.out W h).1 (HSL.out W h).2.1 hml hm).mono fun e w3 ⟨he, hb⟩ => (⟨he, HCN.out W w3 h hb⟩ : _ ∧ C w3)
  have cIb := fun W (h : C W) => (in_any V1 V2 lv cp b n W (HSL.out W h).1 (HSL.out W h).2.1 hml hn).mono fun e w3 ⟨he, hb⟩ => (⟨he, HCN.out W w3 h hb⟩ : _ ∧ C w3)
  have cPa := fun W (h : C W) => (print_any V1 V2 lv cp a m W (HSL.out W h).1 (HSL.out W h).2.1 hml hm).mono fun e w3 ⟨he, hb⟩ => (⟨he, HCN.out W w3 h hb⟩ : _ ∧ C w3)
  have cPb := fun W (h : C W) => (print_any V1 V2 lv cp b n W (HSL.out W h).1 (HSL.out W h).2.1 hml hn).mono fun e w3 ⟨he, hb⟩ => (⟨he, HCN.out W w3 h hb⟩ : _ ∧ C w3)
  unfold labV at cIa cIb cPa cPb
  have hIa : inL (nms lv) (nms cp) a m = true → LatOk (nms lv) (nms cp) ∧ ∃ k : Nat, a = k ∧ k < lv.length ∧ m < 2 ^ cp.length := fun h => by
    unfold inL at h
    rw [Bool.and_eq_true, decide_eq_true_iff, nms_len, nms_len] at h
    exact ⟨(latR_iff _ _).1 h.1, a.toNat, by omega, by omega, h.2.2.2⟩
  have hIb : inL (nms lv) (nms cp) b n = true → LatOk (nms lv) (nms cp) ∧ ∃ k : Nat, b = k ∧ k < lv.length ∧ n < 2 ^ cp.length := fun h => by
    unfold inL at h
    rw [Bool.and_eq_true, decide_eq_true_iff, nms_len, nms_len] at h
    exact ⟨(latR_iff _ _).1 h.1, b.toNat, by omega, by omega, h.2.2.2⟩
  unfold lprT lprE at cPa cPb
  generalize inL (nms lv) (nms cp) a m = Ia at *
  generalize inL (nms lv) (nms cp) b n = Ib at *
  obtain ⟨k0, k1, k2, k3, k4, k5, kC⟩ := HKY.out _ hC2
  have HIA := Lib.hid hIa
  have HIB := Lib.hid hIb
  clear h1 h2 hm hn hIa hIb
  go_wp2_with fail
  refine (cF _ hC2).mono ?_
  rintro e wa ⟨⟨f, rfl, hf⟩, hCa⟩
  obtain ⟨a0, a1, a2, a3, a4, a5, aC⟩ := HKY.out _ hCa
  clear k0 k1 k2 k3 k4 k5 kC
  cases f with
  | false =>
    clear hf cIa cIb cPa cPb
    go_wp2
    go_ret
    exact ⟨rfl, HCB.out _ hCa⟩
  | true =>
    clear cF hf
    cases Ia with
    | false =>
      clear cPa cPb cIb
      go_wp2_with fail
      refine (cIa _ hCa).mono ?_
      rintro e wb ⟨rfl, hCb⟩
      obtain ⟨b0, b1, b2, b3, b4, b5, bC⟩ := HKY.out _ hCb
      clear a0 a1 a2 a3 a4 a5 aC
      clear cIa
      go_wp2
      go_ret
      exact ⟨rfl, HCB.out _ hCb⟩
    | true =>
      go_wp2_with fail
      refine (cIa _ hCa).mono ?_
      rintro e wb ⟨rfl, hCb⟩
      obtain ⟨b0, b1, b2, b3, b4, b5, bC⟩ := HKY.out _ hCb
      clear a0 a1 a2 a3 a4 a5 aC
      clear cIa
      cases Ib with
      | false =>
        clear cPa cPb
        go_wp2_with fail
        refine (cIb _ hCb).mono ?_
        rintro e wc ⟨rfl, hCc⟩
        obtain ⟨c0, c1, c2, c3, c4, c5, cC⟩ := HKY.out _ hCc
        clear b0 b1 b2 b3 b4 b5 bC
        clear cIb
        go_wp2
        go_ret
        exact ⟨rfl, HCB.out _ hCc⟩
      | true =>
        go_wp2_with fail
        refine (cIb _ hCb).mono ?_
        rintro e wc ⟨rfl, hCc⟩
        obtain ⟨c0, c1, c2, c3, c4, c5, cC⟩ := HKY.out _ hCc
        clear b0 b1 b2 b3 b4 b5 bC
        clear cIb
        obtain ⟨hok, a, rfl, ha, hm⟩ := HIA.out (by simp)
        obtain ⟨_, b, rfl, hb, hn⟩ := HIB.out (by simp)
        have hR := (latR_iff _ _).2 hok
        simp only [hR, if_true, Int.toNat_natCast] at cPa cPb
        have hanN : a < (nms lv).length := by rw [nms_len]; exact ha
        have hbnN : b < (nms lv).length := by rw [nms_len]; exact hb
        have hmm : m < 2 ^ (nms cp).length := by rw [nms_len]; exact hm
        have hnn : n < 2 ^ (nms cp).length := by rw [nms_len]; exact hn
        have q1 : ltxt (nms lv) (nms cp) a m = ltxt (nms lv) (nms cp) b n → a = b ∧ m = n := fun e => ltxt_inj hok hanN hbnN hmm hnn e
        have q2 := ltxt_name hok hanN hmm
        have q3 := ltxt_eq (cp := nms cp) (m := m) hanN
        rw [nms_get ha] at q2 q3
        have hx : str lv a = lv[a] := by unfold str; rw [List.getD_eq_getElem?_getD, List.getElem?_eq_getElem ha]; rfl
        rw [← hx] at q2 q3
        have q4 : a = b → m = n → ltxt (nms lv) (nms cp) a m = ltxt (nms lv) (nms cp) b n := fun e e' => by rw [e, e']
        generalize ltxt (nms lv) (nms cp) a m = T at *
        generalize ltxt (nms lv) (nms cp) b n = U at *
        obtain ⟨tt, htt⟩ : ∃ tt, tt = tl (selF (nms cp) m) := ⟨_, rfl⟩
        rw [← htt] at q3
        have HQ := Lib.hid (And.intro q1 (And.intro q2 (And.intro q3 q4)))
        clear q1 q2 q3 q4 hx hanN hbnN hmm hnn htt hR hok
        go_wp2_with fail
        refine (cPa _ hCc).mono ?_
        rintro e wd ⟨rfl, hCd⟩
        obtain ⟨d0, d1, d2, d3, d4, d5, dC⟩ := HKY.out _ hCd
        clear c0 c1 c2 c3 c4 c5 cC
        clear cPa
        go_wp2_with fail
        refine (cPb _ hCd).mono ?_
        rintro e we ⟨rfl, hCe⟩
        obtain ⟨e0, e1, e2, e3, e4, e5, eC⟩ := HKY.out _ hCe
        clear d0 d1 d2 d3 d4 d5 dC
        clear cPb
        obtain ⟨⟨A, c, hV, hA, _⟩, _, _⟩ := HSL.out _ hCe
        subst hV
        obtain ⟨q1, q2, q3, q4⟩ := HQ.out
        clear HQ
        generalize lv.length = L at *
        obtain ⟨bk, off, rfl, hcl⟩ := hA.cells (by omega)
        have hca := hcl a ha
        generalize str lv a = X at *
        have ha0 : (0 : Int) ≤ (a : Int) := by omega
        have haL : (a : Int) < (L : Int) := by omega
        have hxz := bsize X
        have hTz : (⟨T.toArray⟩ : ByteArray).size = T.length := lsize T
        have hle : (X.size : Int) ≤ ((⟨T.toArray⟩ : ByteArray).size : Int) := by rw [hTz, q3, List.length_append, hxz]; omega
        have hex : (((⟨T.toArray⟩ : ByteArray).extract 0 X.size).toList == X.toList) = true := by
          rw [bytes_eq, decide_eq_true_iff, Lib.extract_data, q3, ← hxz]
          simp
        have hn1 : ((⟨T.toArray⟩ : ByteArray).toList == X.toList) = decide (m = 0) := by
          rw [bytes_eq, Bool.eq_iff_iff, decide_eq_true_iff, decide_eq_true_iff]
          exact q2
        have hn2 : ((m : Int) == 0) = decide (m = 0) := by
          rw [Bool.eq_iff_iff, beq_iff_eq, decide_eq_true_iff]
          omega
        have he1 : ((⟨T.toArray⟩ : ByteArray).toList == (⟨U.toArray⟩ : ByteArray).toList) = decide (T = U) := by rw [bytes_eq]
        have hl1 : T = U ∧ a = b ∧ m = n ∨ ¬ T = U ∧ (((a : Int) == (b : Int)) = false ∨ ((m : Int) == (n : Int)) = false) := by
          by_cases h : T = U
          · exact .inl ⟨h, q1 h⟩
          · refine .inr ⟨h, ?_⟩
            by_cases h3 : a = b
            · right; rw [beq_eq_false_iff_ne]; intro e; exact h (q4 h3 (by omega))
            · left; rw [beq_eq_false_iff_ne]; omega
        clear q1 q2 q3 q4 hxz hTz hcl hA
        generalize hTB : (⟨T.toArray⟩ : ByteArray) = TB at *
        generalize hUB : (⟨U.toArray⟩ : ByteArray) = UB at *
        have hTB' := Lib.hid hTB
        have hUB' := Lib.hid hUB
        clear hTB hUB
        rcases hl1 with ⟨rfl, rfl, rfl⟩ | ⟨hne, hl1⟩
        · obtain rfl : TB = UB := hTB'.out.symm.trans hUB'.out
          clear he1
          by_cases hz : m = 0
          · rw [decide_eq_true hz] at hn1 hn2
            clear hz
            go_wp2
            go_ret
            exact ⟨rfl, HCB.out _ hCe⟩
          · rw [decide_eq_false hz] at hn1 hn2
            clear hz
            go_wp2
            go_ret
            exact ⟨rfl, HCB.out _ hCe⟩
        · rw [decide_eq_false hne] at he1
          clear hne
          by_cases hz : m = 0
          · rw [decide_eq_true hz] at hn1 hn2
            clear hz
            rcases hl1 with hl1 | hl1
            all_goals
              go_wp2
              go_ret
              exact ⟨rfl, HCB.out _ hCe⟩
          · rw [decide_eq_false hz] at hn1 hn2
            clear hz
            rcases hl1 with hl1 | hl1
            all_goals
              go_wp2
              go_ret
              exact ⟨rfl, HCB.out _ hCe⟩
theorem texts_law (V1 V2 : Value) (lv cp : List ByteArray) (a : Int) (m : Nat) (b : Int) (n : Nat) (w : World) (hmax : MaxAt w) (h : SlIn w V1 lv ∧ SlIn w V2 cp ∧ (lv.length ≤ 9223372036854775807 ∧ cp.length ≤ 9223372036854775807)) (h0 : (Lit.int .i64 a).wf = true ∧ m < 18446744073709551616) (h1 : (Lit.int .i64 b).wf = true ∧ n < 18446744073709551616) :
    Calls Tryd.prog 6 #[.agg #[V1, V2], labV a m, labV b n] w fun e w' => e = .returned (.bool true) ∧ Below w.heap.size w w' := texts_all V1 V2 lv cp a b m n w hmax h.1 h.2.1 h.2.2 h0.2 h1.2
end Go.Proofs.YtmcianehedhfeaaDoor
