/- The lattice laws: LatticeBack. -/
import Derived.Test.YtmcianehedhfeaaDoorLatY
import Derived.Test.YtmcianehedhfeaaDoorLatDj
import Derived.Deep.DeepCutAuto
set_option linter.unusedVariables false
set_option linter.unusedSimpArgs false
namespace Go.Proofs.YtmcianehedhfeaaDoor
open Go.RowKit
/-- The quiet walk, not to be unfolded. -/
structure WQ (P : Program) (ops : Array Oper) (C : World → Prop) (Q : Act → Prop) (l : List Oper) (a : Act) : Prop where
  h : wpQuiet P ops C Q l a
theorem wq_nil {P : Program} {ops : Array Oper} {C : World → Prop} {Q : Act → Prop} {a : Act} (h : Q a) : WQ P ops C Q [] a := ⟨wpQuiet_nil h⟩
theorem wq_step {P : Program} {ops : Array Oper} {C : World → Prop} {Q : Act → Prop} {a : Act} {o : Oper} {rest : List Oper}
    (h : ∀ K : Act → Prop, (∀ a, WQ P ops C Q rest a → K a) → if Region.wanted o (yielded ops a.tmps) then o.quiet P a C K else K (a.put o.dst undef)) : WQ P ops C Q (o :: rest) a :=
  ⟨wpQuiet_step fun K hK => h K fun a x => hK a x.h⟩
theorem ltxt_len {lv cp : List Bs} (h : LatOk lv cp) {a m : Nat} (ha : a < lv.length) : (ltxt lv cp a m).length ≤ 2000 := by
  rw [ltxt_eq ha, List.length_append]
  have h1 := (nmOk_len (h.lvn ha)).2
  have h2 := h.c64
  have h3 := selF_len cp m
  by_cases hs : selF cp m = []
  · unfold tl; rw [if_pos hs]; simp; omega
  · rw [tl_eq hs, List.length_append]
    have h4 := jn_len (selF cp m) fun x hx => (nmOk_len (h.cpn x (selF_sub x hx))).2
    have h5 : ([47, 47] : Bs).length = 2 := rfl
    omega
theorem inL_true {lv cp : List Bs} (h : LatOk lv cp) {a m : Nat} (ha : a < lv.length) (hm : m < 2 ^ cp.length) : inL lv cp a m = true := by
  unfold inL
  rw [(latR_iff _ _).2 h, decide_eq_true (by exact ⟨by omega, by omega, hm⟩)]; rfl
theorem inL_join {lv cp : List Bs} {a b : Int} {m n : Nat} (h : inL lv cp a m = true) (k : inL lv cp b n = true) : inL lv cp (max a b) (m ||| n) = true ∧ inL lv cp (min a b) (m &&& n) = true := by
  unfold inL at *
  rw [Bool.and_eq_true, decide_eq_true_iff] at *
  rw [Bool.and_eq_true, decide_eq_true_iff]
  exact ⟨⟨h.1, by omega, by omega, Nat.or_lt_two_pow h.2.2.2 k.2.2.2⟩, h.1, by omega, by omega, Nat.lt_of_le_of_lt Nat.and_le_left h.2.2.2⟩
set_option maxRecDepth 100000 in
set_option maxHeartbeats 60000000 in
theorem back_all (V1 V2 : Value) (lv cp : List ByteArray) (a b : Int) (m n : Nat) (s : ByteArray) (w : World) (hmax : MaxAt w) (h1 : SlIn w V1 lv) (h2 : SlIn w V2 cp) (hml : lv.length ≤ 9223372036854775807 ∧ cp.length ≤ 9223372036854775807) (hm : m < M64) (hn : n < M64) (hsz : s.size ≤ 9223372036854775807) :
    Calls Tryd.prog 9 #[.agg #[V1, V2], labV a m, labV b n, .string s] w fun e w' => e = .returned (.bool true) ∧ Below w.heap.size w w' := by
  have hbx := box3 w (.cells #[V1, V2] 30 (0, 0)) (.cells #[.int .i64 a, .int .u64 (m : Int)] 24 (0, 0)) (.cells #[.int .i64 b, .int .u64 (n : Int)] 24 (0, 0))
  have hb3 := below3 w (.cells #[V1, V2] 30 (0, 0)) (.cells #[.int .i64 a, .int .u64 (m : Int)] 24 (0, 0)) (.cells #[.int .i64 b, .int .u64 (n : Int)] 24 (0, 0))
  have c0 := awake_any _ (hmax.below hb3)
  have hs1 := h1.below hb3
  have hs2 := h2.below hb3
  have hm1 := hmax.below hb3
  unfold labV
  go_enter Tryd.func9, Tryd.ntmps9
  go_wp2_with fail
  generalize (((w.alloc (.cells #[V1, V2] 30 (0, 0))).alloc (.cells #[.int .i64 a, .int .u64 (m : Int)] 24 (0, 0))).alloc (.cells #[.int .i64 b, .int .u64 (n : Int)] 24 (0, 0))) = w1 at *
  refine c0.mono ?_
  rintro e w2 ⟨rfl, hb2⟩
  obtain ⟨C, hCd⟩ : ∃ C : World → Prop, C = fun w3 => Hid (Below w1.heap.size w1 w3) := ⟨_, rfl⟩
  have key2 : ∀ w3, C w3 → w3.cell? ⟨w.heap.size, 0, none⟩ = some V1 ∧ w3.cell? ⟨w.heap.size, 1, none⟩ = some V2 ∧ w3.cell? ⟨w.heap.size + 1, 0, none⟩ = some (.int .i64 a) ∧ w3.cell? ⟨w.heap.size + 1, 1, none⟩ = some (.int .u64 (m : Int)) ∧ w3.cell? ⟨w.heap.size + 1 + 1, 0, none⟩ = some (.int .i64 b) ∧ w3.cell? ⟨w.heap.size + 1 + 1, 1, none⟩ = some (.int .u64 (n : Int)) ∧ C w3 := by
    intro w3 h
    have hb := h
    rw [hCd] at hb
    obtain ⟨x0, y0⟩ := agg_keep hbx.1 hb.out
    obtain ⟨x1, y1⟩ := agg_keep hbx.2.1 hb.out
    obtain ⟨x2, y2⟩ := agg_keep hbx.2.2 hb.out
    exact ⟨x0, y0, x1, y1, x2, y2, h⟩
  have hCs : ∀ w3, C w3 → C w3.drew := fun w3 h => by rw [hCd] at h ⊢; exact Lib.hid h.out.drew
  have hC2 : C w2 := by rw [hCd]; exact Lib.hid hb2
  have hCb : ∀ w3, C w3 → Below w.heap.size w w3 := fun w3 h => by rw [hCd] at h; exact hb3.trans (h.out.mono hb3.size)
  have hCn : ∀ W W', C W → Below W.heap.size W W' → C W' := fun W W' h h' => by rw [hCd] at h ⊢; exact Lib.hid (h.out.trans (h'.mono h.out.size))
  have hsl : ∀ W, C W → SlIn W V1 lv ∧ SlIn W V2 cp ∧ MaxAt W := fun W h => by rw [hCd] at h; exact ⟨hs1.below h.out, hs2.below h.out, hm1.below h.out⟩
  have HCB := Lib.hid hCb
  have HCN := Lib.hid hCn
  have HCS := Lib.hid hCs
  have HKY := Lib.hid key2
  have HSL := Lib.hid hsl
  clear hCb hCn hCs key2 hsl hs1 hs2 hm1 hbx hb3 c0 hCd hb2 hmax
  have cF := fun W (h : C W) => (few_any V1 V2 lv cp W (HSL.out W h).1 (HSL.out W h).2.1 hml).mono fun e w3 ⟨he, hb⟩ => (⟨he, HCN.out W w3 h hb⟩ : _ ∧ C w3)
  have cR := fun W (h : C W) => (right_any V1 V2 lv cp W (HSL.out W h).1 (HSL.out W h).2.1 hml).mono fun e w3 ⟨he, hb⟩ => (⟨he, HCN.out W w3 h hb⟩ : _ ∧ C w3)
  have cIa := fun W (h : C W) => (in_any V1 V2 lv cp a m W (HSL.out W h).1 (HSL.out W h).2.1 hml hm).mono fun e w3 ⟨he, hb⟩ => (⟨he, HCN.out W w3 h hb⟩ : _ ∧ C w3)
  have cPa := fun W (h : C W) => (print_any V1 V2 lv cp a m W (HSL.out W h).1 (HSL.out W h).2.1 hml hm).mono fun e w3 ⟨he, hb⟩ => (⟨he, HCN.out W w3 h hb⟩ : _ ∧ C w3)
  unfold labV at cIa cPa
  have hIa : inL (nms lv) (nms cp) a m = true → ∃ k : Nat, a = k ∧ k < lv.length ∧ m < 2 ^ cp.length := fun h => by
    unfold inL at h
    rw [Bool.and_eq_true, decide_eq_true_iff, nms_len, nms_len] at h
    exact ⟨a.toNat, by omega, by omega, h.2.2.2⟩
  have hok := latR_iff (nms lv) (nms cp)
  have hji : inL (nms lv) (nms cp) a m = true → inL (nms lv) (nms cp) b n = true → _ := inL_join
  unfold lprT lprE at cPa
  obtain ⟨k0, k1, k2, k3, k4, k5, kC⟩ := HKY.out _ hC2
  have hs0 : (0 : Int) ≤ (s.size : Int) := by omega
  generalize hLR : latR (nms lv) (nms cp) = LR at *
  generalize hIaE : inL (nms lv) (nms cp) a m = Ia at *
  have HP := Lib.hid (And.intro h1 (And.intro h2 (And.intro hm (And.intro hn (And.intro hLR hIaE)))))
  have HJI := Lib.hid hji
  have HIA := Lib.hid hIa
  have HOK := Lib.hid hok
  have HPA := Lib.hid cPa
  have HIN := Lib.hid cIa
  clear h1 h2 hm hn hji hLR hIaE hIa hok cPa cIa
  go_wp2_with fail
  refine (cF _ hC2).mono ?_
  rintro e wa ⟨⟨f, rfl, hf⟩, hCa⟩
  obtain ⟨a0, a1, a2, a3, a4, a5, aC⟩ := HKY.out _ hCa
  clear k0 k1 k2 k3 k4 k5 kC
  cases f with
  | false =>
    clear hf cR
    go_wp2
    go_ret
    exact ⟨rfl, HCB.out _ hCa⟩
  | true =>
    clear cF hf
    by_cases hs3 : (3000 : Int) < (s.size : Int)
    · clear cR
      go_wp2
      go_ret
      exact ⟨rfl, HCB.out _ hCa⟩
    · cases LR with
      | false =>
        go_wp2_with fail
        refine (cR _ hCa).mono ?_
        rintro e wb ⟨rfl, hCb⟩
        obtain ⟨b0, b1, b2, b3, b4, b5, bC⟩ := HKY.out _ hCb
        clear a0 a1 a2 a3 a4 a5 aC
        clear cR
        go_wp2
        go_ret
        exact ⟨rfl, HCB.out _ hCb⟩
      | true =>
        have hok := HOK.out.1 rfl
        have hs3i : (s.size : Int) ≤ 3000 := by omega
        have cS := fun W (h : C W) => (parse_any V1 V2 lv cp s W (HSL.out W h).1 (HSL.out W h).2.1 hml (by omega) (HSL.out W h).2.2).mono fun e w3 ⟨he, hb⟩ => (⟨he, HCN.out W w3 h hb⟩ : _ ∧ C w3)
        have hpS : lpP (nms lv) (nms cp) s.data.toList = lpF (nms lv) (nms cp) s.data.toList := by unfold lpP; rw [HP.out.2.2.2.2.1, if_pos rfl]
        rw [hpS] at cS
        have hinv := lpF_inv hok (s := s.data.toList)
        generalize lpF (nms lv) (nms cp) s.data.toList = pq at *
        obtain ⟨x, y, z⟩ := pq
        have HINV := Lib.hid hinv
        unfold labV at cS
        dsimp only at cS
        clear hpS hinv
        go_wp2_with fail
        refine (cR _ hCa).mono ?_
        rintro e wb ⟨rfl, hCb⟩
        obtain ⟨b0, b1, b2, b3, b4, b5, bC⟩ := HKY.out _ hCb
        clear a0 a1 a2 a3 a4 a5 aC
        clear cR
        go_wp2_with fail
        refine (cS _ hCb).mono ?_
        rintro e wc ⟨rfl, hCc⟩
        obtain ⟨c0, c1, c2, c3, c4, c5, cC⟩ := HKY.out _ hCc
        clear b0 b1 b2 b3 b4 b5 bC
        clear cS
        have gD := heap_alloc_new wc (.cells #[.int .i64 (x : Int), .int .u64 (y : Int)] 24 (0, 0))
        have hAD : C (wc.alloc (.cells #[.int .i64 (x : Int), .int .u64 (y : Int)] 24 (0, 0))) := HCN.out _ _ hCc ((Below.refl _ _).alloc (Nat.le_refl _) _)
        obtain ⟨d0, d1, d2, d3, d4, d5, dC⟩ := HKY.out _ hAD
        obtain ⟨d6, d7⟩ := agg_keep gD (Below.refl _ _)
        clear c0 c1 c2 c3 c4 c5 cC
        go_upto_if 39 with fail
        generalize wc.alloc (.cells #[.int .i64 (x : Int), .int .u64 (y : Int)] 24 (0, 0)) = wd at *
        obtain ⟨D, hDd⟩ : ∃ D : World → Prop, D = fun w3 => C w3 ∧ Hid (Below wd.heap.size wd w3) := ⟨_, rfl⟩
        have kyD : ∀ w3, D w3 → w3.cell? ⟨w.heap.size, 0, none⟩ = some V1 ∧ w3.cell? ⟨w.heap.size, 1, none⟩ = some V2 ∧ w3.cell? ⟨w.heap.size + 1, 0, none⟩ = some (.int .i64 a) ∧ w3.cell? ⟨w.heap.size + 1, 1, none⟩ = some (.int .u64 (m : Int)) ∧ w3.cell? ⟨w.heap.size + 1 + 1, 0, none⟩ = some (.int .i64 b) ∧ w3.cell? ⟨w.heap.size + 1 + 1, 1, none⟩ = some (.int .u64 (n : Int)) ∧ w3.cell? ⟨wc.heap.size, 0, none⟩ = some (.int .i64 (x : Int)) ∧ w3.cell? ⟨wc.heap.size, 1, none⟩ = some (.int .u64 (y : Int)) ∧ D w3 := by
          intro w3 h
          have hb := h
          rw [hDd] at hb
          obtain ⟨z0, z1, z2, z3, z4, z5, zC⟩ := HKY.out _ hb.1
          obtain ⟨z6, z7⟩ := agg_keep gD hb.2.out
          exact ⟨z0, z1, z2, z3, z4, z5, z6, z7, h⟩
        have hND : ∀ W W', D W → Below W.heap.size W W' → D W' := fun W W' h h' => by rw [hDd] at h ⊢; exact ⟨HCN.out _ _ h.1 h', Lib.hid (h.2.out.trans (h'.mono h.2.out.size))⟩
        have hCD : ∀ W, D W → C W := fun W h => by rw [hDd] at h; exact h.1
        have hD0 : D wd := by rw [hDd]; exact ⟨hAD, Lib.hid (Below.refl _ _)⟩
        have hDs : ∀ W, D W → D W.drew := fun W h => by rw [hDd] at h ⊢; exact ⟨HCS.out _ h.1, Lib.hid h.2.out.drew⟩
        have HND := Lib.hid hND
        have HCD := Lib.hid hCD
        have HSD := Lib.hid hDs
        have HYD := Lib.hid kyD
        clear hND hCD hDs kyD hDd gD hAD
        go_cut [11, 12] (fun s11 s12 wx => C wx)
        case rest =>
          clear d0 d1 d2 d3 d4 d5 d6 d7 dC
          obtain ⟨f0, f1, f2, f3, f4, f5, fC⟩ := HKY.out _ hcut
          have cPa := HPA.out
          have cIa := HIN.out
          cases Ia with
          | false =>
            simp only [Bool.false_eq_true, if_false, if_true] at cPa
            go_wp2_with fail
            refine (cPa _ hcut).mono ?_
            rintro e wm ⟨rfl, hCm⟩
            obtain ⟨u0, u1, u2, u3, u4, u5, uC⟩ := HKY.out _ hCm
            clear f0 f1 f2 f3 f4 f5 fC
            clear cPa
            go_wp2_with fail
            refine (cIa _ hCm).mono ?_
            rintro e wn ⟨rfl, hCn⟩
            obtain ⟨v0, v1, v2, v3, v4, v5, vC⟩ := HKY.out _ hCn
            clear u0 u1 u2 u3 u4 u5 uC
            clear cIa
            go_wp2
            go_ret
            exact ⟨rfl, HCB.out _ hCn⟩
          | true =>
            obtain ⟨a, rfl, ha, hm2⟩ := HIA.out rfl
            simp only [if_true, Int.toNat_natCast] at cPa
            clear cIa
            have hanN : a < (nms lv).length := by rw [nms_len]; exact ha
            have hTl := ltxt_len (cp := nms cp) hok (m := m) hanN
            have hpT : lpP (nms lv) (nms cp) (ltxt (nms lv) (nms cp) a m) = (a, m, 0) := by
              unfold lpP; rw [HP.out.2.2.2.2.1, if_pos rfl]
              exact lpF_some hok ⟨hanN, by rw [nms_len]; exact hm2, rfl⟩
            generalize hTg : ltxt (nms lv) (nms cp) a m = T at *
            clear hTg
            have cT := fun W (h : C W) => (parse_any V1 V2 lv cp ⟨T.toArray⟩ W (HSL.out W h).1 (HSL.out W h).2.1 hml (by rw [lsize]; omega) (HSL.out W h).2.2).mono fun e w3 ⟨he, hb⟩ => (⟨he, HCN.out W w3 h hb⟩ : _ ∧ C w3)
            rw [show (⟨T.toArray⟩ : ByteArray).data.toList = T by simp, hpT] at cT
            unfold labV at cT
            clear hpT hTl
            go_wp2_with fail
            refine (cPa _ hcut).mono ?_
            rintro e wm ⟨rfl, hCm⟩
            obtain ⟨u0, u1, u2, u3, u4, u5, uC⟩ := HKY.out _ hCm
            clear f0 f1 f2 f3 f4 f5 fC
            clear cPa
            go_wp2_with fail
            refine (cT _ hCm).mono ?_
            rintro e wn ⟨rfl, hCn⟩
            obtain ⟨v0, v1, v2, v3, v4, v5, vC⟩ := HKY.out _ hCn
            clear u0 u1 u2 u3 u4 u5 uC
            clear cT
            have gE := heap_alloc_new wn (.cells #[.int .i64 (a : Int), .int .u64 (m : Int)] 24 (0, 0))
            have hAE : C (wn.alloc (.cells #[.int .i64 (a : Int), .int .u64 (m : Int)] 24 (0, 0))) := HCN.out _ _ hCn ((Below.refl _ _).alloc (Nat.le_refl _) _)
            obtain ⟨o0, o1, o2, o3, o4, o5, oC⟩ := HKY.out _ hAE
            clear v0 v1 v2 v3 v4 v5 vC
            go_upto_region 14 with fail
            generalize wn.alloc (.cells #[.int .i64 (a : Int), .int .u64 (m : Int)] 24 (0, 0)) = wo at *
            clear o0 o1 o2 o3 o4 o5 oC
            obtain ⟨E, hEd⟩ : ∃ D : World → Prop, D = fun w3 => C w3 ∧ Hid (Below wo.heap.size wo w3) := ⟨_, rfl⟩
            have kyE : ∀ w3, E w3 → w3.cell? ⟨w.heap.size, 0, none⟩ = some V1 ∧ w3.cell? ⟨w.heap.size, 1, none⟩ = some V2 ∧ w3.cell? ⟨w.heap.size + 1, 0, none⟩ = some (.int .i64 (a : Int)) ∧ w3.cell? ⟨w.heap.size + 1, 1, none⟩ = some (.int .u64 (m : Int)) ∧ w3.cell? ⟨w.heap.size + 1 + 1, 0, none⟩ = some (.int .i64 b) ∧ w3.cell? ⟨w.heap.size + 1 + 1, 1, none⟩ = some (.int .u64 (n : Int)) ∧ w3.cell? ⟨wn.heap.size, 0, none⟩ = some (.int .i64 (a : Int)) ∧ w3.cell? ⟨wn.heap.size, 1, none⟩ = some (.int .u64 (m : Int)) ∧ E w3 := by
              intro w3 h
              have hb := h
              rw [hEd] at hb
              obtain ⟨z0, z1, z2, z3, z4, z5, zC⟩ := HKY.out _ hb.1
              obtain ⟨z6, z7⟩ := agg_keep gE hb.2.out
              exact ⟨z0, z1, z2, z3, z4, z5, z6, z7, h⟩
            have hNE : ∀ W W', E W → Below W.heap.size W W' → E W' := fun W W' h h' => by rw [hEd] at h ⊢; exact ⟨HCN.out _ _ h.1 h', Lib.hid (h.2.out.trans (h'.mono h.2.out.size))⟩
            have hCE : ∀ W, E W → C W := fun W h => by rw [hEd] at h; exact h.1
            have hE0 : E wo := by rw [hEd]; exact ⟨hAE, Lib.hid (Below.refl _ _)⟩
            have hEs : ∀ W, E W → E W.drew := fun W h => by rw [hEd] at h ⊢; exact ⟨HCS.out _ h.1, Lib.hid h.2.out.drew⟩
            have HNE := Lib.hid hNE
            have HCE := Lib.hid hCE
            have HSE := Lib.hid hEs
            have HYE := Lib.hid kyE
            clear hNE hCE hEs kyE hEd gE hAE
            have cIb := fun W (h : E W) => (in_any V1 V2 lv cp b n W (HSL.out W (HCE.out W h)).1 (HSL.out W (HCE.out W h)).2.1 hml HP.out.2.2.2.1).mono fun e w3 ⟨he, hb⟩ => (⟨he, HNE.out W w3 h hb⟩ : _ ∧ E w3)
            have cJ := fun W (h : E W) => (join_any (a : Int) b m n HP.out.2.2.1 HP.out.2.2.2.1 W).mono fun e w3 ⟨he, hb⟩ => (⟨he, HNE.out W w3 h hb⟩ : _ ∧ E w3)
            have cM := fun W (h : E W) => (meet_any (a : Int) b m n HP.out.2.2.1 HP.out.2.2.2.1 W).mono fun e w3 ⟨he, hb⟩ => (⟨he, HNE.out W w3 h hb⟩ : _ ∧ E w3)
            have cIJ := fun W (h : E W) => (in_any V1 V2 lv cp (max (a : Int) b) (m ||| n) W (HSL.out W (HCE.out W h)).1 (HSL.out W (HCE.out W h)).2.1 hml (or_lt HP.out.2.2.1 HP.out.2.2.2.1)).mono fun e w3 ⟨he, hb⟩ => (⟨he, HNE.out W w3 h hb⟩ : _ ∧ E w3)
            have cIM := fun W (h : E W) => (in_any V1 V2 lv cp (min (a : Int) b) (m &&& n) W (HSL.out W (HCE.out W h)).1 (HSL.out W (HCE.out W h)).2.1 hml (and_lt HP.out.2.2.1)).mono fun e w3 ⟨he, hb⟩ => (⟨he, HNE.out W w3 h hb⟩ : _ ∧ E w3)
            unfold labV at cIb cJ cM cIJ cIM
            have hji := HJI.out (by simp)
            have hE1 := HSE.out _ hE0
            clear hE0
            generalize inL (nms lv) (nms cp) b n = Ib at *
            generalize inL (nms lv) (nms cp) (max (a : Int) b) (m ||| n) = IJ at *
            generalize inL (nms lv) (nms cp) (min (a : Int) b) (m &&& n) = IM at *
            generalize max (a : Int) b = xJ at *
            generalize min (a : Int) b = xM at *
            generalize m ||| n = mJ at *
            generalize m &&& n = mM at *
            go_cut [8] (fun s8 wx => s8 = .bool true ∧ C wx)
            case rest =>
              obtain ⟨rfl, hcc⟩ := hcut
              go_wp2
              go_ret
              exact ⟨rfl, HCB.out _ hcc⟩
            case first =>
              have key2 := HYE.out
              clear HYE HKY HCB HSL HCN HCS HNE HSE HP HJI HIA HOK HPA HIN HINV
              cases Ib with
              | false =>
                clear hji cJ cM cIJ cIM
                refine wp_region_quiet (C := E) (by kernel_rfl) (by kernel_rfl) hE1 ?_
                refine WQ.h ?_
                repeat
                  refine wq_step (fun K hK => ?_)
                  have HK := Lib.hid hK
                  clear hK
                  first
                    | (refine (if_pos ?_).mpr ?_
                       · (simp [go_sem]; done)
                       apply Exists.intro
                       refine ⟨fun w' hw' => ?_, ?_⟩
                       · (obtain ⟨k0, k1, k2, k3, k4, k5, k6, k7, kC⟩ := key2 w' hw'; go_simp; first | done | rfl | with_reducible exact cIb _ hw')
                       go_simp
                       refine HK.out _ ?_
                       clear HK K)
                    | (refine (if_neg ?_).mpr ?_
                       · first | (simp [go_sem]; done) | (simp [go_sem, undef]; done)
                       go_simp
                       refine HK.out _ ?_
                       clear HK K)
                refine wq_nil ?_
                intro w9 hw9
                go_wp2_with fail
                go_meet
                exact ⟨rfl, HCE.out _ hw9⟩
              | true =>
                obtain ⟨rfl, rfl⟩ := hji (by simp)
                clear hji
                refine wp_region_quiet (C := E) (by kernel_rfl) (by kernel_rfl) hE1 ?_
                refine WQ.h ?_
                repeat
                  refine wq_step (fun K hK => ?_)
                  have HK := Lib.hid hK
                  clear hK
                  first
                    | (refine (if_pos ?_).mpr ?_
                       · (simp [go_sem]; done)
                       apply Exists.intro
                       refine ⟨fun w' hw' => ?_, ?_⟩
                       · (obtain ⟨k0, k1, k2, k3, k4, k5, k6, k7, kC⟩ := key2 w' hw'; go_simp; first | done | rfl | with_reducible exact cIb _ hw' | with_reducible exact cJ _ hw' | with_reducible exact cM _ hw' | with_reducible exact cIJ _ hw' | with_reducible exact cIM _ hw')
                       go_simp
                       refine HK.out _ ?_
                       clear HK K)
                    | (refine (if_neg ?_).mpr ?_
                       · first | (simp [go_sem]; done) | (simp [go_sem, undef]; done)
                       go_simp
                       refine HK.out _ ?_
                       clear HK K)
                refine wq_nil ?_
                intro w9 hw9
                go_wp2_with fail
                go_meet
                exact ⟨rfl, HCE.out _ hw9⟩
        case first =>
          rcases HINV.out with ⟨x', y', ⟨hx, hy, hxy⟩, hp⟩ | ⟨_, hp⟩
          · cases hp
            have hy64 : y < M64 := Nat.lt_of_lt_of_le hy (show 2 ^ (nms cp).length ≤ 2 ^ 64 from Nat.pow_le_pow_right (by decide) hok.c64)
            have cPx := fun W (h : D W) => (print_any V1 V2 lv cp x y W (HSL.out W (HCD.out W h)).1 (HSL.out W (HCD.out W h)).2.1 hml hy64).mono fun e w3 ⟨he, hb⟩ => (⟨he, HND.out W w3 h hb⟩ : _ ∧ D w3)
            have cIx := fun W (h : D W) => (in_any V1 V2 lv cp x y W (HSL.out W (HCD.out W h)).1 (HSL.out W (HCD.out W h)).2.1 hml hy64).mono fun e w3 ⟨he, hb⟩ => (⟨he, HND.out W w3 h hb⟩ : _ ∧ D w3)
            have hIx := inL_true hok hx hy
            unfold lprT lprE at cPx
            rw [hIx, HP.out.2.2.2.2.1] at cPx
            rw [hIx] at cIx
            simp only [if_true, Int.toNat_natCast, hxy, ba_eq] at cPx
            unfold labV at cPx cIx
            clear hIx hx hy hxy hy64
            go_wp2_with fail
            refine (cPx _ hD0).mono ?_
            rintro e we ⟨rfl, hDe⟩
            obtain ⟨e0, e1, e2, e3, e4, e5, e6, e7, eC⟩ := HYD.out _ hDe
            clear cPx d0 d1 d2 d3 d4 d5 d6 d7 dC
            go_wp2_with fail
            refine (cIx _ hDe).mono ?_
            rintro e wf ⟨rfl, hDf⟩
            obtain ⟨f0, f1, f2, f3, f4, f5, f6, f7, fC⟩ := HYD.out _ hDf
            clear cIx e0 e1 e2 e3 e4 e5 e6 e7 eC
            have hCf := HCD.out _ hDf
            go_wp2_with fail
            go_meet
            exact hCf
          · cases hp
            have hCf := HCD.out _ hD0
            go_wp2_with fail
            go_meet
            exact hCf
theorem back_law (V1 V2 : Value) (lv cp : List ByteArray) (a : Int) (m : Nat) (b : Int) (n : Nat) (s : ByteArray) (w : World) (hmax : MaxAt w) (h : SlIn w V1 lv ∧ SlIn w V2 cp ∧ (lv.length ≤ 9223372036854775807 ∧ cp.length ≤ 9223372036854775807)) (h0 : (Lit.int .i64 a).wf = true ∧ m < 18446744073709551616) (h1 : (Lit.int .i64 b).wf = true ∧ n < 18446744073709551616) (h2 : s.size ≤ maxLen) :
    Calls Tryd.prog 9 #[.agg #[V1, V2], labV a m, labV b n, .string s] w fun e w' => e = .returned (.bool true) ∧ Below w.heap.size w w' := back_all V1 V2 lv cp a b m n s w hmax h.1 h.2.1 h.2.2 h0.2 h1.2 (by unfold maxLen at h2; omega)
end Go.Proofs.YtmcianehedhfeaaDoor
