/- The lattice laws: LatticeNames. -/
import Derived.Test.YtmcianehedhfeaaDoorLatX
set_option linter.unusedVariables false
set_option linter.unusedSimpArgs false
namespace Go.Proofs.YtmcianehedhfeaaDoor
open Go.RowKit
set_option maxRecDepth 100000 in
set_option maxHeartbeats 16000000 in
theorem names_all (V1 V2 : Value) (lv cp : List ByteArray) (a : Int) (m : Nat) (s : ByteArray) (t : Nat) (w : World) (hmax : MaxAt w) (h1 : SlIn w V1 lv) (h2 : SlIn w V2 cp) (hml : lv.length ≤ 9223372036854775807 ∧ cp.length ≤ 9223372036854775807) (hm : m < M64) (hsz : s.size ≤ 9223372036854775807) (ht : t < 256) :
    Calls Tryd.prog 4 #[.agg #[V1, V2], labV a m, .string s, .int .u8 (t : Int)] w fun e w' => e = .returned (.bool true) ∧ Below w.heap.size w w' := by
  have htm : Int.tmod (t : Int) 6 = ((t % 6 : Nat) : Int) := by rw [Int.tmod_eq_emod_of_nonneg (by omega)]; rfl
  obtain ⟨Q, hQ⟩ : ∃ Q, Q = t % 6 := ⟨_, rfl⟩
  rw [← hQ] at htm
  have hQ6 : (Q : Int) ≤ 5 := by omega
  have hQ0 : (0 : Int) ≤ (Q : Int) := by omega
  have hti : (0 : Int) ≤ (t : Int) := by omega
  have hti2 : (t : Int) ≤ 255 := by omega
  clear hQ ht
  have hbx := And.intro (heap_alloc2_old w (.cells #[V1, V2] 30 (0, 0)) (.cells #[.int .i64 a, .int .u64 (m : Int)] 24 (0, 0))) (heap_alloc2_new w (.cells #[V1, V2] 30 (0, 0)) (.cells #[.int .i64 a, .int .u64 (m : Int)] 24 (0, 0)))
  have hb3 := below2 w (.cells #[V1, V2] 30 (0, 0)) (.cells #[.int .i64 a, .int .u64 (m : Int)] 24 (0, 0))
  have c0 := awake_any _ (hmax.below hb3)
  have hs1 := h1.below hb3
  have hs2 := h2.below hb3
  have hm1 := hmax.below hb3
  unfold labV
  go_enter Tryd.func4, Tryd.ntmps4
  go_wp2_with fail
  generalize ((w.alloc (.cells #[V1, V2] 30 (0, 0))).alloc (.cells #[.int .i64 a, .int .u64 (m : Int)] 24 (0, 0))) = w1 at *
  refine c0.mono ?_
  rintro e w2 ⟨rfl, hb2⟩
  obtain ⟨C, hCd⟩ : ∃ C : World → Prop, C = fun w3 => Hid (Below w1.heap.size w1 w3) := ⟨_, rfl⟩
  have key2 : ∀ w3, C w3 → w3.cell? ⟨w.heap.size, 0, none⟩ = some V1 ∧ w3.cell? ⟨w.heap.size, 1, none⟩ = some V2 ∧ w3.cell? ⟨w.heap.size + 1, 0, none⟩ = some (.int .i64 a) ∧ w3.cell? ⟨w.heap.size + 1, 1, none⟩ = some (.int .u64 (m : Int)) ∧ C w3 := by
    intro w3 h
    have hb := h
    rw [hCd] at hb
    obtain ⟨x0, y0⟩ := agg_keep hbx.1 hb.out
    obtain ⟨x1, y1⟩ := agg_keep hbx.2 hb.out
    exact ⟨x0, y0, x1, y1, h⟩
  have hCs : ∀ w3, C w3 → C w3.drew := fun w3 h => by rw [hCd] at h ⊢; exact Lib.hid h.out.drew
  have hC2 : C w2 := by rw [hCd]; exact Lib.hid hb2
  have hCb : ∀ w3, C w3 → Below w.heap.size w w3 := fun w3 h => by rw [hCd] at h; exact hb3.trans (h.out.mono hb3.size)
  have hCn : ∀ W W', C W → Below W.heap.size W W' → C W' := fun W W' h h' => by rw [hCd] at h ⊢; exact Lib.hid (h.out.trans (h'.mono h.out.size))
  have hsl : ∀ W, C W → SlIn W V1 lv ∧ SlIn W V2 cp ∧ MaxAt W := fun W h => by rw [hCd] at h; exact ⟨hs1.below h.out, hs2.below h.out, hm1.below h.out⟩
  have hCg : ∀ W W' W0 g, C W → C W0 → W0.heap.size ≤ g → Eff (· = g) W W' → C W' := fun W W' W0 g h h0 hg he => by
    rw [hCd] at h h0 ⊢
    have z0 := h0.out.size
    exact Lib.hid (Eff.below h.out he h.out.size (fun k hk => by have : k = g := hk; omega))
  have HCG := Lib.hid hCg
  have HCB := Lib.hid hCb
  have HCN := Lib.hid hCn
  have HCS := Lib.hid hCs
  have HKY := Lib.hid key2
  have HSL := Lib.hid hsl
  clear hCg hCb hCn hCs key2 hsl hs1 hs2 hm1 hbx hb3 c0 hCd hb2 hmax
  have cF := fun W (h : C W) => (few_any V1 V2 lv cp W (HSL.out W h).1 (HSL.out W h).2.1 hml).mono fun e w3 ⟨he, hb⟩ => (⟨he, HCN.out W w3 h hb⟩ : _ ∧ C w3)
  have cR := fun W (h : C W) => (right_any V1 V2 lv cp W (HSL.out W h).1 (HSL.out W h).2.1 hml).mono fun e w3 ⟨he, hb⟩ => (⟨he, HCN.out W w3 h hb⟩ : _ ∧ C w3)
  obtain ⟨k0, k1, k2, k3, kC⟩ := HKY.out _ hC2
  have hs0 : (0 : Int) ≤ (s.size : Int) := by omega
  have hR : ∃ LR, LR = latR (nms lv) (nms cp) := ⟨_, rfl⟩
  obtain ⟨LR, hR⟩ := hR
  rw [← hR] at cR
  have HP := Lib.hid (And.intro hm hR)
  clear h1 h2 hR
  go_wp2_with fail
  refine (cF _ hC2).mono ?_
  rintro e wa ⟨⟨f, rfl, hf⟩, hCa⟩
  obtain ⟨a0, a1, a2, a3, aC⟩ := HKY.out _ hCa
  clear k0 k1 k2 k3 kC
  cases f with
  | false =>
    clear hf cR
    go_wp2
    go_ret
    exact ⟨rfl, HCB.out _ hCa⟩
  | true =>
    clear cF hf
    by_cases hs3 : (3000 : Int) < (s.size : Int)
    · clear cR
      go_wp2
      go_ret
      exact ⟨rfl, HCB.out _ hCa⟩
    · cases LR with
      | false =>
        have cN := (new_no V1 V2 lv cp wa (HSL.out wa hCa).1 (HSL.out wa hCa).2.1 hml HP.out.2.symm).mono fun e w3 ⟨he, hb⟩ => (⟨he, HCN.out wa w3 hCa hb⟩ : _ ∧ C w3)
        go_wp2_with fail
        refine cN.mono ?_
        rintro e wb ⟨rfl, hCb⟩
        obtain ⟨b0, b1, b2, b3, bC⟩ := HKY.out _ hCb
        clear cN a0 a1 a2 a3 aC
        go_wp2_with fail
        refine (cR _ hCb).mono ?_
        rintro e wc ⟨rfl, hCc⟩
        obtain ⟨c0, c1, c2, c3, cC⟩ := HKY.out _ hCc
        clear b0 b1 b2 b3 bC
        clear cR
        go_wp2
        go_ret
        exact ⟨rfl, HCB.out _ hCc⟩
      | true =>
        have hok := (latR_iff _ _).1 HP.out.2.symm
        have cN := new_ok V1 V2 lv cp wa (HSL.out wa hCa).1 (HSL.out wa hCa).2.1 hok
        go_wp2_with fail
        refine cN.mono ?_
        rintro e wb ⟨g, rfl, hg, hn, hb⟩
        have hCb := HCN.out _ _ hCa hb
        obtain ⟨b0, b1, b2, b3, bC⟩ := HKY.out _ hCb
        have hgm : g ≠ 0 := by
          obtain ⟨q, hq⟩ := (HSL.out _ hCa).2.2
          have := World.block_lt_of_cell? _ _ hq
          intro e; subst e; exact absurd this (by show ¬ 0 < wa.heap.size; omega)
        have hCE : ∀ W W', C W → Eff (· = g) W W' → C W' := fun W W' h he => HCG.out W W' wa g h hCa hg he
        have HCE := Lib.hid hCE
        have HG := Lib.hid (And.intro hg (And.intro hgm hn))
        clear cN a0 a1 a2 a3 aC hg hn hb hgm hCE
        have cR2 := right_any V1 V2 lv cp wb (HSL.out wb hCb).1 (HSL.out wb hCb).2.1 hml
        rw [← HP.out.2] at cR2
        go_wp2_with fail
        refine cR2.mono ?_
        rintro e wc ⟨rfl, hbc⟩
        have hCc := HCN.out _ _ hCb hbc
        have HNM := Lib.hid (HG.out.2.2.belowW hbc)
        obtain ⟨c0, c1, c2, c3, cC⟩ := HKY.out _ hCc
        clear cR cR2 hbc b0 b1 b2 b3 bC
        go_wp2
        go_loopw [11] (fun i wr => ∃ k : Nat, k ≤ Q ∧ i = .int .i64 k ∧ NmAt wr g lv cp (2 * (k : Int)) ∧ C wr) (fun i _ => Q - (intOf i).toNat)
        case atStart => exact ⟨0, Nat.zero_le _, rfl, HNM.out, hCc⟩
        case round =>
          obtain ⟨k, hk, rfl, hnm, hCr⟩ := hrel
          have hk0 : (0 : Int) ≤ (k : Int) := by omega
          clear c0 c1 c2 c3 cC
          obtain ⟨k0, k1, k2, k3, kC⟩ := HKY.out _ hCr
          by_cases hkQ : k < Q
          · have hki : (k : Int) < (Q : Int) := by omega
            have hs3i : (s.size : Int) ≤ 3000 := by omega
            have d1 := nprint_any g lv cp a m (2 * (k : Int)) wr hnm (by omega) HP.out.1
            unfold labV at d1
            generalize hT : lprT (nms lv) (nms cp) a m = T at *
            generalize hE : lprE (nms lv) (nms cp) a m = E at *
            have HTE := Lib.hid (And.intro hT hE)
            clear hT hE hnm
            go_wp2_with fail
            refine d1.mono ?_
            rintro e x1 ⟨rfl, hd1, he1⟩
            have hC1 := HCE.out _ _ hCr he1
            have H1 := Lib.hid hd1
            clear d1 hd1 he1 k0 k1 k2 k3 kC
            obtain ⟨k0, k1, k2, k3, kC⟩ := HKY.out _ hC1
            have d2 := print_any V1 V2 lv cp a m x1 (HSL.out x1 hC1).1 (HSL.out x1 hC1).2.1 hml HP.out.1
            rw [HTE.out.1, HTE.out.2] at d2
            unfold labV at d2
            go_wp2_with fail
            refine d2.mono ?_
            rintro e x2 ⟨rfl, hb2⟩
            have hC2' := HCN.out _ _ hC1 hb2
            have d3 := nparse_any g lv cp s (2 * (k : Int) + 1) x2 (H1.out.belowW hb2).at (by omega) (by omega) (HSL.out x2 hC2').2.2 HG.out.2.1
            have hlp : lpP (nms lv) (nms cp) s.data.toList = lpF (nms lv) (nms cp) s.data.toList := by unfold lpP; rw [← HP.out.2, if_pos rfl]
            generalize hp : lpF (nms lv) (nms cp) s.data.toList = p at *
            obtain ⟨p1, p2, p3⟩ := p
            have HLP := Lib.hid hlp
            unfold labV at d3
            dsimp only at d3
            clear d2 hb2 k0 k1 k2 k3 kC hlp hp
            obtain ⟨k0, k1, k2, k3, kC⟩ := HKY.out _ hC2'
            go_wp2_with fail
            refine d3.mono ?_
            rintro e x3 ⟨rfl, hd3, he3⟩
            have hC3 := HCE.out _ _ hC2' he3
            have hb4 : Below x3.heap.size x3 (x3.alloc (.cells #[.int .i64 (p1 : Int), .int .u64 (p2 : Int)] 24 (0, 0))) := (Below.refl _ _).alloc (Nat.le_refl _) _
            have g4 := heap_alloc_new x3 (.cells #[.int .i64 (p1 : Int), .int .u64 (p2 : Int)] 24 (0, 0))
            have hC4 := HCN.out _ _ hC3 hb4
            have H4 := Lib.hid (And.intro (hd3.belowW hb4) g4)
            clear d3 hd3 he3 hb4 g4 k0 k1 k2 k3 kC
            obtain ⟨k0, k1, k2, k3, kC⟩ := HKY.out _ hC4
            go_wp2_with fail
            generalize x3.alloc (.cells #[.int .i64 (p1 : Int), .int .u64 (p2 : Int)] 24 (0, 0)) = x4 at *
            have d5 := parse_any V1 V2 lv cp s x4 (HSL.out x4 hC4).1 (HSL.out x4 hC4).2.1 hml (by omega) (HSL.out x4 hC4).2.2
            rw [HLP.out] at d5
            unfold labV at d5
            dsimp only at d5
            refine d5.mono ?_
            rintro e x5 ⟨rfl, hb5⟩
            have hb6 : Below x5.heap.size x5 (x5.alloc (.cells #[.int .i64 (p1 : Int), .int .u64 (p2 : Int)] 24 (0, 0))) := (Below.refl _ _).alloc (Nat.le_refl _) _
            have g6 := heap_alloc_new x5 (.cells #[.int .i64 (p1 : Int), .int .u64 (p2 : Int)] 24 (0, 0))
            have hb46 := hb5.trans (hb6.mono hb5.size)
            have hC6 := HCN.out _ _ hC4 hb46
            obtain ⟨u0, u1⟩ := agg_keep H4.out.2 hb46
            obtain ⟨v0, v1⟩ := agg_keep g6 (Below.refl _ _)
            have H6 := Lib.hid (H4.out.1.belowW hb46)
            clear d5 hb5 hb6 g6 hb46 k0 k1 k2 k3 kC
            have d7 := asked_any g lv cp (2 * (k : Int) + 1 + 1) _ H6.out.at
            have hC6' := Lib.hid hC6
            clear hC6
            go_wp2_with fail
            generalize x5.alloc (.cells #[.int .i64 (p1 : Int), .int .u64 (p2 : Int)] 24 (0, 0)) = x6 at *
            refine d7.mono ?_
            rintro e x7 ⟨rfl, rfl⟩
            clear d7 u0 u1 v0 v1
            have hsum2 : wrap64 (2 * (k : Int) + 2) = 2 * (k : Int) + 1 + 1 := by rw [IntWalk.wrap64_in _ (by omega)]; omega
            have hsum1 : wrap64 (2 * (k : Int)) = 2 * (k : Int) := IntWalk.wrap64_in _ (by omega)
            go_wp2
            go_roundw
            case rel => exact ⟨k + 1, by omega, by go_num, by have := H6.out.at; rwa [show 2 * (k : Int) + 1 + 1 = 2 * ((k + 1 : Nat) : Int) by omega] at this, hC6'.out⟩
            case measure => simp [intOf]; omega
          · have hkE : ¬ (k : Int) < (Q : Int) := by omega
            go_wp2
            go_ret
            exact ⟨rfl, HCB.out _ hCr⟩
theorem names_law (V1 V2 : Value) (lv cp : List ByteArray) (a : Int) (m : Nat) (s : ByteArray) (t : Int) (w : World) (hmax : MaxAt w) (h : SlIn w V1 lv ∧ SlIn w V2 cp ∧ (lv.length ≤ 9223372036854775807 ∧ cp.length ≤ 9223372036854775807)) (h0 : (Lit.int .i64 a).wf = true ∧ m < 18446744073709551616) (h2 : s.size ≤ maxLen) (h3 : (Lit.int .u8 t).wf = true) :
    Calls Tryd.prog 4 #[.agg #[V1, V2], labV a m, .string s, .int .u8 t] w fun e w' => e = .returned (.bool true) ∧ Below w.heap.size w w' := by
  have b2 : 0 ≤ t ∧ t ≤ 255 := by simpa [Lit.wf, IntKind.min, IntKind.max, IntKind.signed, IntKind.bits] using h3
  have := names_all V1 V2 lv cp a m s t.toNat w hmax h.1 h.2.1 h.2.2 h0.2 (by unfold maxLen at h2; omega) (by omega)
  rwa [show ((t.toNat : Nat) : Int) = t by omega] at this
end Go.Proofs.YtmcianehedhfeaaDoor
