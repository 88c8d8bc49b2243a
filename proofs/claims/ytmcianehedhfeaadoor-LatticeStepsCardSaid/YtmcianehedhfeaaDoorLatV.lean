/- The lattice laws of labels: LatticeSteps. -/
import Derived.Test.YtmcianehedhfeaaDoorLatQ
import Derived.Laws.ShiftsVarLaws
set_option linter.unusedVariables false
set_option linter.unusedSimpArgs false
namespace Go.Proofs.YtmcianehedhfeaaDoor
open Go.RowKit
set_option maxRecDepth 100000 in
set_option maxHeartbeats 8000000 in
theorem steps_all (a : Int) (m u t : Nat) (w : World) (hmax : MaxAt w) (ha : (Lit.int .i64 a).wf = true) (hm : m < M64) (hu : u < 256) (ht : t < 256) :
    Calls Tryd.prog 5 #[labV a m, .int .u8 (u : Int), .int .u8 (t : Int)] w fun e w' => e = .returned (.bool true) ∧ Below w.heap.size w w' := by
  have hb1 : Below w.heap.size w (w.alloc (lab a m)) := (Below.refl _ w).alloc (Nat.le_refl _) _
  have hg1 := heap_alloc_new w (lab a m)
  have c0 := awake_any _ (hmax.below hb1)
  unfold labV
  unfold lab at hb1 hg1 c0
  have htm : Int.tmod (t : Int) 64 = ((t % 64 : Nat) : Int) := by rw [Int.tmod_eq_emod_of_nonneg (by omega)]; rfl
  obtain ⟨k, hk⟩ : ∃ k, k = t % 64 := ⟨_, rfl⟩
  rw [← hk] at htm
  have hk64 : k < 64 := by omega
  have hki : (0 : Int) ≤ (k : Int) := by omega
  have hki2 : (k : Int) ≤ 64 := by omega
  have hti : (0 : Int) ≤ (t : Int) := by omega
  have hti2 : (t : Int) ≤ 255 := by omega
  have hui : (0 : Int) ≤ (u : Int) := by omega
  have hui2 : (u : Int) ≤ 255 := by omega
  have hw := pow_wrap k hk64
  have h2i : 2 ^ k < M64 := show 2 ^ k < 2 ^ 64 from Nat.pow_lt_pow_right (by decide) hk64
  have hor := u64_or_nat m (2 ^ k) hm h2i
  have han := u64_andNot_nat m (2 ^ k) hm h2i
  rw [← hw] at hor han
  obtain ⟨mb, hmb⟩ : ∃ mb, mb = m ||| 2 ^ k := ⟨_, rfl⟩
  obtain ⟨mc, hmc⟩ : ∃ mc, mc = m &&& (18446744073709551615 - 2 ^ k) := ⟨_, rfl⟩
  rw [← hmb] at hor
  rw [← hmc] at han
  have HM := Lib.hid (And.intro hmb (And.intro hmc (And.intro hm h2i)))
  clear hw hmb hmc hk ht hm h2i hk64 hu
  go_enter Tryd.func5, Tryd.ntmps5
  go_wp2_with fail
  generalize w.alloc (.cells #[.int .i64 a, .int .u64 (m : Int)] 24 (0, 0)) = w1 at *
  refine c0.mono ?_
  rintro e w2 ⟨rfl, hb2⟩
  obtain ⟨x0, x1⟩ := agg_keep hg1 hb2
  have H2 := Lib.hid (And.intro (hb1.trans (hb2.mono hb1.size)) ((hb2.block _ (lt_of_block hg1)).trans hg1))
  clear hb1 hb2 hg1 c0 hmax ha
  have hneq : w.heap.size < w2.heap.size := lt_of_block H2.out.2
  by_cases h1 : (1099511627776 : Int) < a
  · go_wp2
    go_ret
    exact ⟨rfl, H2.out.1⟩
  · by_cases h2 : a < -1099511627776
    · go_wp2
      go_ret
      exact ⟨rfl, H2.out.1⟩
    · have hsum : wrap64 (a + (u : Int)) = a + u := IntWalk.wrap64_in _ (by omega)
      go_wp2_with fail
      have hbl0 : a ≤ a + (u : Int) := by omega
      generalize a + (u : Int) = bl at *
      have ga := heap_alloc2_old w2 (lab bl mb) (lab a mc)
      have gb := heap_alloc2_new w2 (lab bl mb) (lab a mc)
      have hba := below2 w2 (lab bl mb) (lab a mc)
      have g0 := (hba.block _ (lt_of_block H2.out.2)).trans H2.out.2
      have hbw := H2.out.1.trans (hba.mono H2.out.1.size)
      unfold lab at ga gb g0 hbw hba
      generalize (w2.alloc (.cells #[.int .i64 bl, .int .u64 (mb : Int)] 24 (0, 0))).alloc (.cells #[.int .i64 a, .int .u64 (mc : Int)] 24 (0, 0)) = w3 at *
      obtain ⟨C, hCd⟩ : ∃ C : World → Prop, C = fun W => Hid (Below w3.heap.size w3 W) := ⟨_, rfl⟩
      have key2 : ∀ W, C W → W.cell? ⟨w.heap.size, 0, none⟩ = some (.int .i64 a) ∧ W.cell? ⟨w.heap.size, 1, none⟩ = some (.int .u64 (m : Int)) ∧ W.cell? ⟨w2.heap.size, 0, none⟩ = some (.int .i64 bl) ∧ W.cell? ⟨w2.heap.size, 1, none⟩ = some (.int .u64 (mb : Int)) ∧ W.cell? ⟨w2.heap.size + 1, 0, none⟩ = some (.int .i64 a) ∧ W.cell? ⟨w2.heap.size + 1, 1, none⟩ = some (.int .u64 (mc : Int)) ∧ C W := by
        intro W h
        have hb := h
        rw [hCd] at hb
        obtain ⟨y0, y1⟩ := agg_keep g0 hb.out
        obtain ⟨y2, y3⟩ := agg_keep ga hb.out
        obtain ⟨y4, y5⟩ := agg_keep gb hb.out
        exact ⟨y0, y1, y2, y3, y4, y5, h⟩
      have hC0 : C w3.drew := by rw [hCd]; exact Lib.hid (Below.refl _ w3).drew
      have hCb : ∀ W, C W → Below w.heap.size w W := fun W h => by rw [hCd] at h; exact hbw.trans (h.out.mono hbw.size)
      have hCn : ∀ W W', C W → Below W.heap.size W W' → C W' := fun W W' h h' => by rw [hCd] at h ⊢; exact Lib.hid (h.out.trans (h'.mono h.out.size))
      have HCB := Lib.hid hCb
      have HCN := Lib.hid hCn
      obtain ⟨hmb, hmc, hm, h2i⟩ := HM.out
      have hmbl : mb < M64 := by rw [hmb]; exact or_lt hm h2i
      have hmcl : mc < M64 := by rw [hmc]; exact and_lt hm
      have s1 : subB m mb := by rw [hmb]; exact subB.or_l _ _
      have s2 : subB mc m := by rw [hmc]; exact subB.and_l _ _
      have dba := fun W (h : C W) => (dom_any bl a mb m hmbl hm W).mono fun e w3 ⟨he, hb⟩ => (⟨he, HCN.out W w3 h hb⟩ : e = _ ∧ C w3)
      have dac := fun W (h : C W) => (dom_any a a m mc hm hmcl W).mono fun e w3 ⟨he, hb⟩ => (⟨he, HCN.out W w3 h hb⟩ : e = _ ∧ C w3)
      have dab := fun W (h : C W) => (dom_any a bl m mb hm hmbl W).mono fun e w3 ⟨he, hb⟩ => (⟨he, HCN.out W w3 h hb⟩ : e = _ ∧ C w3)
      have dca := fun W (h : C W) => (dom_any a a mc m hmcl hm W).mono fun e w3 ⟨he, hb⟩ => (⟨he, HCN.out W w3 h hb⟩ : e = _ ∧ C w3)
      rw [domB_true.2 ⟨hbl0, s1⟩] at dba
      rw [domB_true.2 ⟨Int.le_refl a, s2⟩] at dac
      have tab : domB a m bl mb = true ∧ bl = a ∧ mb = m ∨ domB a m bl mb = false ∧ ((a == bl) = false ∨ ((m : Int) == (mb : Int)) = false) := by
        by_cases h : bl = a ∧ mb = m
        · left; obtain ⟨rfl, rfl⟩ := h; exact ⟨domB_refl _ _, rfl, rfl⟩
        · right
          constructor
          · rw [domB_false]; rintro ⟨x, y⟩; exact h ⟨by omega, y.eq s1⟩
          · by_cases h3 : bl = a
            · right; rw [beq_eq_false_iff_ne]; intro e; exact h ⟨h3, by omega⟩
            · left; rw [beq_eq_false_iff_ne]; exact fun e => h3 e.symm
      have tca : domB a mc a m = true ∧ mc = m ∨ domB a mc a m = false ∧ ((m : Int) == (mc : Int)) = false := by
        by_cases h : mc = m
        · left; subst h; exact ⟨domB_refl _ _, rfl⟩
        · right
          constructor
          · rw [domB_false]; rintro ⟨x, y⟩; exact h (s2.eq y)
          · rw [beq_eq_false_iff_ne]; intro e; exact h (by omega)
      unfold labV at dba dac dab dca
      generalize domB a m bl mb = ab at *
      generalize domB a mc a m = ca at *
      clear hmb hmc hm h2i hmbl hmcl s1 s2 hCd hCb hCn ga gb g0 hba hbw HM H2 hor han htm hki hki2 hti hti2 hui hui2 x0 x1 hneq hbl0 hsum h1 h2
      rcases tab with ⟨rfl, rfl, rfl⟩ | ⟨rfl, h | h⟩ <;> rcases tca with ⟨rfl, rfl⟩ | ⟨rfl, h'⟩
      all_goals
        refine wp_region_quiet (C := C) (by kernel_rfl) (by kernel_rfl) hC0 ?_
        repeat
          refine wpQuiet_step (fun K hK => ?_)
          have HK := Lib.hid hK
          clear hK
          first
            | (refine (if_pos ?_).mpr ?_
               · (simp [go_sem]; done)
               apply Exists.intro
               refine ⟨fun w' hw' => ?_, ?_⟩
               · (obtain ⟨k0, k1, k2, k3, k4, k5, k6⟩ := key2 w' hw'; go_simp; first | done | rfl | with_reducible exact dba _ hw' | with_reducible exact dac _ hw' | with_reducible exact dab _ hw' | with_reducible exact dca _ hw')
               go_simp
               refine HK.out _ ?_
               clear HK K)
            | (refine (if_neg ?_).mpr ?_
               · (simp [go_sem]; done)
               go_simp
               refine HK.out _ ?_
               clear HK K)
        refine wpQuiet_nil ?_
        intro w9 hw9
        go_wp2
        go_ret
        exact ⟨rfl, HCB.out _ hw9⟩
end Go.Proofs.YtmcianehedhfeaaDoor
