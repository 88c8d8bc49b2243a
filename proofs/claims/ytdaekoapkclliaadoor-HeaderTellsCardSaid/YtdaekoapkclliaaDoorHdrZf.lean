/- HeaderTells. -/
import Derived.Test.YtdaekoapkclliaaDoorHdrZe
set_option linter.unusedVariables false
set_option linter.unusedSimpArgs false
namespace Go.Proofs.YtdaekoapkclliaaDoor
open Go.RowKit
set_option maxRecDepth 100000 in
set_option maxHeartbeats 16000000 in
theorem htells_law (A : Option Addr) (n c : Nat) (xs : List Fld) (s nm : ByteArray) (w : World) (hm : MaxAt w) (h1 : FldsIn w A n xs) (hs : s.size ≤ maxLen) (hn : nm.size ≤ maxLen) :
    Calls Tryd.prog 3 #[.slice A n c, .string s, .string nm] w fun e w' => e = .returned (.bool true) ∧ Below w.heap.size w w' := by
  have c0 := awake_any w hm
  have H := Lib.hid (And.intro hm h1)
  have hs0 : (0 : Int) ≤ (s.size : Int) := by omega
  have hn0 : (0 : Int) ≤ (nm.size : Int) := by omega
  have hnn0 : (0 : Int) ≤ (n : Int) := by omega
  unfold maxLen at hs hn
  clear hm h1
  go_enter Tryd.func3, Tryd.ntmps3
  go_wp2_with fail
  refine c0.mono ?_
  rintro e w1 ⟨rfl, hb1⟩
  have H1 := Lib.hid hb1
  have c1 := few_any A n c xs w1 (H.out.2.below hb1)
  clear hb1 c0
  go_wp2_with fail
  refine c1.mono ?_
  rintro e w2 ⟨⟨f1, rfl, hf1⟩, hb2⟩
  have H2 := Lib.hid (H1.out.trans (hb2.mono H1.out.size))
  clear c1 hb2
  cases f1 with
  | false =>
    clear hf1
    go_wp2
    go_ret
    exact ⟨rfl, H2.out⟩
  | true =>
    have HF := Lib.hid (hf1 rfl)
    clear hf1
    by_cases i1 : (8000 : Int) < (s.size : Int)
    · go_wp2
      go_ret
      exact ⟨rfl, H2.out⟩
    · by_cases i2 : (200 : Int) < (nm.size : Int)
      · go_wp2
        go_ret
        exact ⟨rfl, H2.out⟩
      · have d1 := fun W (hW : Below w.heap.size w W) => print_any A n c xs W (H.out.2.below hW) HF.out.small (H.out.1.below hW)
        have d2 := fun W (hW : Below w.heap.size w W) => rprint_any A n c xs W (H.out.2.below hW) HF.out.small
        generalize prE (fds xs) = ea at *
        generalize (⟨(prT (fds xs)).toArray⟩ : ByteArray) = T at *
        have d3 := fun W (hW : Below w.heap.size w W) => parse_any s W (by omega) (H.out.1.below hW)
        have d4 := fun W => rparse_any s W (by omega)
        have d5 := fun W (hW : Below w.heap.size w W) => get_any A n c xs nm W (H.out.2.below hW) HF.out.small (by omega)
        have d6 := fun W (hW : Below w.heap.size w W) => rget_any A n c xs nm W (H.out.2.below hW) HF.out.small (by omega)
        generalize getB xs nm.data.toList = g at *
        obtain ⟨v, ok⟩ := g
        go_wp2_with fail
        refine (d1 _ H2.out).mono ?_
        rintro e w3 ⟨rfl, hb⟩
        have H3 := Lib.hid (H2.out.trans (hb.mono H2.out.size))
        clear hb d1
        go_wp2_with fail
        refine (d2 _ H3.out).mono ?_
        rintro e w4 ⟨rfl, hb⟩
        have H4 := Lib.hid (H3.out.trans (hb.mono H3.out.size))
        clear hb d2
        go_wp2_with fail
        refine (d3 _ H4.out).mono ?_
        rintro e w5 ⟨fs, A2, n2, c2, hfs, hin, hsm, hle, rfl, hb⟩
        have H5 := Lib.hid (H4.out.trans (hb.mono H4.out.size))
        have HI2 := Lib.hid hin
        clear hb d3 hsm hle hin
        go_wp2_with fail
        refine (d4 _).mono ?_
        rintro e w6 ⟨gs, A3, n3, c3, hgs, hin, hsm, hle, rfl, hb⟩
        have H6 := Lib.hid (H5.out.trans (hb.mono H5.out.size))
        obtain rfl : gs = fs := fds_inj (hgs.trans hfs.symm)
        have HI3 := Lib.hid (And.intro hin (HI2.out.below hb))
        clear hb d4 hsm hle hin HI2 hgs hfs
        generalize (⟨(paF s.data.toList).2.1.toArray⟩ : ByteArray) = rst at *
        generalize (paF s.data.toList).2.2 = ec at *
        go_wp2_with fail
        refine (d5 _ H6.out).mono ?_
        rintro e w7 ⟨rfl, hb⟩
        have H7 := Lib.hid (H6.out.trans (hb.mono H6.out.size))
        have HI4 := Lib.hid (And.intro (HI3.out.1.below hb) (HI3.out.2.below hb))
        clear hb d5 HI3
        go_wp2_with fail
        refine (d6 _ H7.out).mono ?_
        rintro e w8 ⟨rfl, hb⟩
        have H8 := Lib.hid (H7.out.trans (hb.mono H7.out.size))
        have HI5 := Lib.hid (And.intro (HI4.out.1.below hb) (HI4.out.2.below hb))
        clear hb d6 HI4 H1 H2 H3 H4 H5 H6 H7
        go_wp2
        go_loopw [21] (fun i wr => ∃ j : Nat, j ≤ n ∧ i = .int .i64 j ∧ Below w8.heap.size w8 wr) (fun i _ => n - (intOf i).toNat)
        case atStart => exact ⟨0, Nat.zero_le _, rfl, Below.refl _ _⟩
        case round =>
          obtain ⟨j, hj, rfl, hbl⟩ := hrel
          have hj0 : (0 : Int) ≤ (j : Int) := by omega
          have hnl : n ≤ 100 := by rw [← H.out.2.len]; exact HF.out.2
          have hbw := H8.out.trans (hbl.mono H8.out.size)
          by_cases hlt : j < n
          · have hji : (j : Int) < (n : Int) := by omega
            obtain ⟨b, off, rfl, hc⟩ := (H.out.2.below hbw).cells (by omega)
            obtain ⟨e1, e2⟩ := hc j hlt
            have hjl : j < xs.length := by rw [H.out.2.len]; exact hlt
            obtain ⟨z1, z2⟩ := HF.out.small.at_ hjl
            generalize fl xs j = f at *
            obtain ⟨fn, fb⟩ := f
            dsimp only at e1 e2 z1 z2
            have c1 := fun W => right_any fn fb W (by omega) (by omega)
            have c2 := fun W => rright_any fn fb W (by omega) (by omega)
            have c3 := fun W => same_any fn nm W (by omega) (by omega)
            have c4 := fun W => rsame_any fn nm W (by omega) (by omega)
            generalize rtF fn.data.toList fb.data.toList = rt at *
            generalize sameF fn.data.toList nm.data.toList = sm at *
            have HB := Lib.hid (And.intro hbl hbw)
            clear hc hbl hjl hbw z1 z2
            obtain ⟨wo, rfl⟩ : ∃ wo : World, wo = wr := ⟨_, rfl⟩
            go_upto_region 14 with fail
            obtain ⟨C, hCd⟩ : ∃ C : World → Prop, C = fun w3 => Hid (Below wo.heap.size wo w3) := ⟨_, rfl⟩
            have key2 : ∀ w3, C w3 → w3.cell? ⟨b, off + j * 2, none⟩ = some (.string fn) ∧ w3.cell? ⟨b, off + j * 2 + 1, none⟩ = some (.string fb) ∧ C w3 := by
              intro w3 h
              have hb := h
              rw [hCd] at hb
              exact ⟨(hb.out.cell (World.block_lt_of_cell? _ _ e1)).trans e1, (hb.out.cell (World.block_lt_of_cell? _ _ e2)).trans e2, h⟩
            have hCs : ∀ w3, C w3 → C w3.drew := fun w3 h => by rw [hCd] at h ⊢; exact Lib.hid h.out.drew
            have hC2 : C wo := by rw [hCd]; exact Lib.hid (Below.refl _ _)
            have hCb : ∀ w3, C w3 → Below wo.heap.size wo w3 := fun w3 h => by rw [hCd] at h; exact h.out
            have hCn : ∀ W W', C W → Below W.heap.size W W' → C W' := fun W W' h h' => by rw [hCd] at h ⊢; exact Lib.hid (h.out.trans (h'.mono h.out.size))
            have HCB := Lib.hid hCb
            have HCN := Lib.hid hCn
            have HKY := Lib.hid key2
            have hC0 := hCs _ hC2
            clear hCb hCn hCs key2 hCd hC2
            have k1 := fun W (h : C W) => (c1 W).mono fun e w3 ⟨he, hb⟩ => (⟨he, HCN.out W w3 h hb⟩ : _ ∧ C w3)
            have k2 := fun W (h : C W) => (c2 W).mono fun e w3 ⟨he, hb⟩ => (⟨he, HCN.out W w3 h hb⟩ : _ ∧ C w3)
            have k3 := fun W (h : C W) => (c3 W).mono fun e w3 ⟨he, hb⟩ => (⟨he, HCN.out W w3 h hb⟩ : _ ∧ C w3)
            have k4 := fun W (h : C W) => (c4 W).mono fun e w3 ⟨he, hb⟩ => (⟨he, HCN.out W w3 h hb⟩ : _ ∧ C w3)
            clear c1 c2 c3 c4 e1 e2
            refine wp_region_quiet (C := C) (by kernel_rfl) (by kernel_rfl) hC0 ?_
            refine WQ.h ?_
            repeat
              refine wq_step (fun K hK => ?_)
              have HK := Lib.hid hK
              clear hK
              first
                | (refine (if_pos ?_).mpr ?_
                   · (simp [go_sem]; done)
                   apply Exists.intro
                   refine ⟨fun w' hw' => ?_, ?_⟩
                   · (obtain ⟨y0, y1, yC⟩ := HKY.out w' hw'; go_simp; first | done | rfl | with_reducible exact k1 _ hw' | with_reducible exact k2 _ hw' | with_reducible exact k3 _ hw' | with_reducible exact k4 _ hw')
                   go_simp
                   refine HK.out _ ?_
                   clear HK K)
                | (refine (if_neg ?_).mpr ?_
                   · first | (simp [go_sem]; done) | (simp [go_sem, undef]; done)
                   go_simp
                   refine HK.out _ ?_
                   clear HK K)
            refine wq_nil ?_
            intro w9 hw9
            have hb9 := HCB.out _ hw9
            have HX := Lib.hid (HB.out.1.trans (hb9.mono HB.out.1.size))
            clear k1 k2 k3 k4 HCB HCN HKY hw9 hb9 hC0
            go_wp2
            go_roundw
            case rel => exact ⟨j + 1, by omega, by go_num, HX.out⟩
            case measure => simp [intOf]; omega
          · obtain rfl : j = n := by omega
            have hjE : ¬ (j : Int) < (j : Int) := by omega
            have c9 := fields_any A2 n2 c2 gs A3 n3 c3 gs wr (HI5.out.2.below hbl) (HI5.out.1.below hbl)
            rw [decide_eq_true rfl] at c9
            have HB := Lib.hid hbw
            clear hbl hbw
            go_wp2_with fail
            refine c9.mono ?_
            rintro e w9 ⟨rfl, hb⟩
            have HX := Lib.hid (HB.out.trans (hb.mono HB.out.size))
            clear hb c9
            go_wp2
            go_ret
            exact ⟨rfl, HX.out⟩
end Go.Proofs.YtdaekoapkclliaaDoor
