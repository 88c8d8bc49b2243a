/- The lattice laws' folder: awake. -/
import Derived.Test.YtmcianehedhfeaaGreatDoorLatP0
import Derived.Test.YtmcianehedhfeaaGreatDoorLatLa
set_option linter.unusedVariables false
set_option linter.unusedSimpArgs false
namespace Go.Proofs.YtmcianehedhfeaaGreatDoor
open Go.RowKit
set_option maxRecDepth 100000 in
set_option maxHeartbeats 4000000 in
theorem awake_any (w : World) (hm : MaxAt w) : Calls Tryz.prog 4 #[] w fun e w' => e = .returned (.bool true) ∧ Below w.heap.size w w' := by
  have g1 := heap_alloc_new w (.cells #[.string ⟨#[76, 79, 87]⟩, .string ⟨#[72, 73, 71, 72]⟩] 9 (0, 0))
  have b1 : Below w.heap.size w (w.alloc (.cells #[.string ⟨#[76, 79, 87]⟩, .string ⟨#[72, 73, 71, 72]⟩] 9 (0, 0))) := (Below.refl _ w).alloc (Nat.le_refl _) _
  have e1 : (w.alloc (.cells #[.string ⟨#[76, 79, 87]⟩, .string ⟨#[72, 73, 71, 72]⟩] 9 (0, 0))).heap.size = w.heap.size + 1 := by show (w.heap.push _).size = _; rw [Array.size_push]
  have hm1 := hm.below b1
  go_enter Tryz.func4, Tryz.ntmps4
  go_wp2_with fail
  generalize w.alloc (.cells #[.string ⟨#[76, 79, 87]⟩, .string ⟨#[72, 73, 71, 72]⟩] 9 (0, 0)) = x1 at *
  have g2 := heap_alloc_new x1 (.cells #[.string ⟨#[65]⟩, .string ⟨#[66]⟩] 9 (0, 0))
  have b2 : Below x1.heap.size x1 (x1.alloc (.cells #[.string ⟨#[65]⟩, .string ⟨#[66]⟩] 9 (0, 0))) := (Below.refl _ x1).alloc (Nat.le_refl _) _
  have e2 : (x1.alloc (.cells #[.string ⟨#[65]⟩, .string ⟨#[66]⟩] 9 (0, 0))).heap.size = w.heap.size + 1 + 1 := by show (x1.heap.push _).size = _; rw [Array.size_push, e1]
  have hm2 := hm1.below b2
  have g1 := (b2.block _ (lt_of_block g1)).trans g1
  have b2 := b1.trans (b2.mono b1.size)
  rw [e1] at g2
  generalize x1.alloc (.cells #[.string ⟨#[65]⟩, .string ⟨#[66]⟩] 9 (0, 0)) = x2 at *
  have s1 : SlIn x2 (.slice (some ⟨w.heap.size, 0, none⟩) 2 2) awL := slIn_row (l := awL) g1 (by decide)
  have s2 : SlIn x2 (.slice (some ⟨w.heap.size + 1, 0, none⟩) 2 2) awC := slIn_row (l := awC) g2 (by decide)
  generalize Value.slice (some ⟨w.heap.size, 0, none⟩) 2 2 = V1 at *
  generalize Value.slice (some ⟨w.heap.size + 1, 0, none⟩) 2 2 = V2 at *
  have g3 := heap_alloc_new x2 (.cells #[V1, V2] 24 (0, 0))
  have b3 : Below x2.heap.size x2 (x2.alloc (.cells #[V1, V2] 24 (0, 0))) := (Below.refl _ x2).alloc (Nat.le_refl _) _
  have hm3 := hm2.below b3
  have s1 := s1.below b3
  have s2 := s2.below b3
  have b3 := b2.trans (b3.mono b2.size)
  rw [e2] at g3
  generalize x2.alloc (.cells #[V1, V2] 24 (0, 0)) = wa at *
  have HA := Lib.hid (And.intro s1 (And.intro s2 (And.intro g3 (And.intro hm3 b3))))
  clear s1 s2 g1 g2 g3 hm hm1 hm2 hm3 b1 b2 b3 e1 e2
  have c1 := print_any V1 V2 awL awC 1 3 wa HA.out.1 HA.out.2.1 (by decide) (by decide)
  rw [aw_print.1, aw_print.2] at c1
  refine c1.mono ?_
  rintro e w1 ⟨rfl, hb1⟩
  obtain ⟨k0, k1⟩ := agg_keep HA.out.2.2.1 hb1
  have H1 := Lib.hid hb1
  clear c1 hb1
  go_wp2_with fail
  have c2 := parse_any V1 V2 awL awC ⟨#[72, 73, 71, 72, 47, 47, 66]⟩ w1 (HA.out.1.below H1.out) (HA.out.2.1.below H1.out) (by decide) (by decide) (HA.out.2.2.2.1.below H1.out)
  rw [show (⟨#[72, 73, 71, 72, 47, 47, 66]⟩ : ByteArray).data.toList = [72, 73, 71, 72, 47, 47, 66] from rfl, aw_parse] at c2
  refine c2.mono ?_
  rintro e w2 ⟨rfl, hb2⟩
  have hb2a := H1.out.trans (hb2.mono H1.out.size)
  have hbl : Below w2.heap.size w2 (w2.alloc (.cells #[.int .i64 1, .int .u64 2] 27 (0, 0))) := (Below.refl _ w2).alloc (Nat.le_refl _) _
  have gl := heap_alloc_new w2 (.cells #[.int .i64 1, .int .u64 2] 27 (0, 0))
  have hb3 := hb2a.trans (hbl.mono hb2a.size)
  obtain ⟨k0', k1'⟩ := agg_keep HA.out.2.2.1 hb3
  have H3 := Lib.hid (And.intro hb3 gl)
  clear k0 k1 hb2 hb2a hbl gl hb3 c2
  unfold labV
  go_wp2_with fail
  generalize w2.alloc (.cells #[.int .i64 1, .int .u64 2] 27 (0, 0)) = w3 at *
  have c3 := parse_any V1 V2 awL awC ⟨#[72, 73, 71, 72, 47, 47, 66, 47, 65]⟩ w3 (HA.out.1.below H3.out.1) (HA.out.2.1.below H3.out.1) (by decide) (by decide) (HA.out.2.2.2.1.below H3.out.1)
  rw [show (⟨#[72, 73, 71, 72, 47, 47, 66, 47, 65]⟩ : ByteArray).data.toList = [72, 73, 71, 72, 47, 47, 66, 47, 65] from rfl, aw_parse2] at c3
  refine c3.mono ?_
  rintro e w4 ⟨rfl, hb4⟩
  have hb4a := H3.out.1.trans (hb4.mono H3.out.1.size)
  have hbl : Below w4.heap.size w4 (w4.alloc (.cells #[.int .i64 0, .int .u64 0] 27 (0, 0))) := (Below.refl _ w4).alloc (Nat.le_refl _) _
  have gl := (hbl.block _ (Nat.lt_of_lt_of_le (lt_of_block H3.out.2) hb4.size)).trans ((hb4.block _ (lt_of_block H3.out.2)).trans H3.out.2)
  have hb5 := hb4a.trans (hbl.mono hb4a.size)
  obtain ⟨k0, k1⟩ := agg_keep HA.out.2.2.1 hb5
  have H5 := Lib.hid (And.intro hb5 gl)
  clear k0' k1' hb4 hb4a hbl gl hb5 c3
  unfold labV
  go_wp2_with fail
  generalize w4.alloc (.cells #[.int .i64 0, .int .u64 0] 27 (0, 0)) = w5 at *
  have c4 := new_ok V1 V2 awL awC w5 (HA.out.1.below H5.out.1) (HA.out.2.1.below H5.out.1) aw_ok
  refine c4.mono ?_
  rintro e w6 ⟨g, rfl, hg, hn, hb6⟩
  have hb6a := H5.out.1.trans (hb6.mono H5.out.1.size)
  have gl := (hb6.block _ (lt_of_block H5.out.2)).trans H5.out.2
  have c5 := nprint_any g awL awC 0 0 0 w6 hn (by decide) (by decide)
  rw [aw_print0.1, aw_print0.2] at c5
  have hlt := lt_of_block H5.out.2
  have H6 := Lib.hid (And.intro hb6a (And.intro gl (And.intro (show wa.heap.size ≤ g by have := H5.out.1.size; omega) (show w2.heap.size < g by omega))))
  clear k0 k1 hb6 hb6a gl c4 hn hg hlt
  unfold labV at c5
  go_wp2_with fail
  refine c5.mono ?_
  rintro e w7 ⟨rfl, hd, he⟩
  have hb7 : Below wa.heap.size wa w7 := Eff.below H6.out.1 he H6.out.1.size (fun k hk => by have : k = g := hk; have := H6.out.2.2.1; omega)
  have gl := he.heap H6.out.2.1 (show ¬ w2.heap.size = g by have := H6.out.2.2.2; omega)
  obtain ⟨k0, k1⟩ := agg_keep HA.out.2.2.1 hb7
  have q0 : w7.cell? ⟨w2.heap.size, 0, none⟩ = some (.int .i64 1) := by rw [cell_of_row _ _ _ _ _ _ gl]; rfl
  have q1 : w7.cell? ⟨w2.heap.size, 1, none⟩ = some (.int .u64 2) := by rw [cell_of_row _ _ _ _ _ _ gl]; rfl
  have c6 := asked_any g awL awC (0 + 1) w7 hd.at
  have c7 := dom_any 1 0 2 0 (by decide) (by decide) w7
  rw [aw_dom] at c7
  unfold labV at c7
  have H7 := Lib.hid hb7
  clear hb7 gl c5 he hd
  go_wp2_with fail
  refine c6.mono ?_
  rintro e w7' ⟨rfl, rfl⟩
  clear c6
  go_wp2_with fail
  refine c7.mono ?_
  rintro e w8 ⟨rfl, hb8⟩
  have hb8a := H7.out.trans (hb8.mono H7.out.size)
  obtain ⟨k0', k1'⟩ := agg_keep HA.out.2.2.1 hb8a
  have c8 := right_any V1 V2 awL awC w8 (HA.out.1.below hb8a) (HA.out.2.1.below hb8a) (by decide)
  rw [aw_lat] at c8
  have H8 := Lib.hid hb8a
  clear hb8 hb8a c7 k0 k1 q0 q1
  go_wp2_with fail
  refine c8.mono ?_
  rintro e w9 ⟨rfl, hb9⟩
  have H9 := Lib.hid ((HA.out.2.2.2.2.trans (H8.out.mono HA.out.2.2.2.2.size)).trans (hb9.mono (Nat.le_trans HA.out.2.2.2.2.size H8.out.size)))
  clear hb9 c8
  go_wp2
  go_ret
  exact ⟨rfl, H9.out⟩
end Go.Proofs.YtmcianehedhfeaaGreatDoor
