/- Package lattice: In. -/
import Derived.Test.YtmcianehedhfeaaGreatDoorLatG
import Derived.Lib.BitFns
import Derived.RegionTactic
import Derived.RegionCalls
import Derived.StillTailTactics
import Derived.Deep.QuietTactic
import Derived.BigQuiet
set_option linter.unusedVariables false
set_option linter.unusedSimpArgs false
namespace Go.Proofs.YtmcianehedhfeaaGreatDoor
open Go.RowKit
theorem aux_gt : ∀ (f x : Nat), x < 2 ^ f → x < 2 ^ Lib.bitLenAux f x
  | 0, x, h => by simpa [Lib.bitLenAux] using h
  | f + 1, x, h => by
    have ih := aux_gt f (x / 2) (by rw [Nat.pow_succ] at h; omega)
    unfold Lib.bitLenAux
    split
    · rename_i h0; subst h0; decide
    · rw [Nat.add_comm, Nat.pow_succ]; omega
theorem bitLen_iff {x k : Nat} (hx : x < M64) (hk : k ≤ 64) : Lib.bitLen x ≤ k ↔ x < 2 ^ k := by
  constructor
  · intro h
    have h1 : x < 2 ^ Lib.bitLen x := aux_gt 64 x hx
    exact Nat.lt_of_lt_of_le h1 (Nat.pow_le_pow_right (by decide) h)
  · exact Lib.bitLen_le x k hk
/-- Is (a, m) a label of the lattice? -/
def inL (lv cp : List Bs) (a : Int) (m : Nat) : Bool := latR lv cp && decide (0 ≤ a ∧ a < lv.length ∧ m < 2 ^ cp.length)
set_option maxRecDepth 100000 in
set_option maxHeartbeats 4000000 in
theorem in_any (v1 v2 : Value) (lv cp : List ByteArray) (a : Int) (m : Nat) (w : World) (h1 : SlIn w v1 lv) (h2 : SlIn w v2 cp) (hm : lv.length ≤ 9223372036854775807 ∧ cp.length ≤ 9223372036854775807) (hmm : m < M64) :
    Calls Tryz.prog 12 #[.agg #[v1, v2], labV a m] w fun e w' => e = .returned (.bool (inL (nms lv) (nms cp) a m)) ∧ Below w.heap.size w w' := by
  obtain ⟨R, hR⟩ : ∃ R, R = inL (nms lv) (nms cp) a m := ⟨_, rfl⟩
  rw [← hR]
  have hR2 := hR
  unfold inL at hR2
  rw [nms_len, nms_len] at hR2
  have c1 := fun W (hb : Below w.heap.size w W) => right_any v1 v2 lv cp W (h1.below hb) (h2.below hb) hm
  have hlat := latR_iff (nms lv) (nms cp)
  have h64 : latR (nms lv) (nms cp) = true → cp.length ≤ 64 := fun h => by have := (hlat.1 h).c64; rwa [nms_len] at this
  generalize latR (nms lv) (nms cp) = L at *
  obtain ⟨A, c, rfl, _, _⟩ := id h1
  obtain ⟨B, q, rfl, _, _⟩ := id h2
  clear h1 h2 hR hlat
  generalize lv.length = n at *
  generalize cp.length = k at *
  have hb2 := below2 w (.cells #[.slice A n c, .slice B k q] 24 (0, 0)) (.cells #[.int .i64 a, .int .u64 (m : Int)] 27 (0, 0))
  have hg1 := heap_alloc2_new w (.cells #[.slice A n c, .slice B k q] 24 (0, 0)) (.cells #[.int .i64 a, .int .u64 (m : Int)] 27 (0, 0))
  have hg0 := heap_alloc2_old w (.cells #[.slice A n c, .slice B k q] 24 (0, 0)) (.cells #[.int .i64 a, .int .u64 (m : Int)] 27 (0, 0))
  have hn0 : (0 : Int) ≤ (n : Int) := by omega
  have hk0 : (0 : Int) ≤ (k : Int) := by omega
  have hm0 : (0 : Int) ≤ (m : Int) := by omega
  have hm1 : (m : Int) ≤ 18446744073709551615 := by have : m < 18446744073709551616 := hmm; omega
  unfold labV
  go_enter Tryz.func12, Tryz.ntmps12
  go_wp2_with fail
  generalize (w.alloc (.cells #[.slice A n c, .slice B k q] 24 (0, 0))).alloc (.cells #[.int .i64 a, .int .u64 (m : Int)] 27 (0, 0)) = w1 at *
  have key : ∀ w3, Hid (Below w1.heap.size w1 w3) → w3.cell? ⟨w.heap.size, 0, none⟩ = some (.slice A n c) ∧ w3.cell? ⟨w.heap.size, 1, none⟩ = some (.slice B k q) ∧ w3.cell? ⟨w.heap.size + 1, 0, none⟩ = some (.int .i64 a) ∧ w3.cell? ⟨w.heap.size + 1, 1, none⟩ = some (.int .u64 (m : Int)) ∧ Hid (Below w1.heap.size w1 w3) := by
    intro w3 hb3
    have g0 := (hb3.out.block _ (lt_of_block hg0)).trans hg0
    have g1 := (hb3.out.block _ (lt_of_block hg1)).trans hg1
    refine ⟨?_, ?_, ?_, ?_, hb3⟩
    · rw [cell_of_row _ _ _ _ _ _ g0]; rfl
    · rw [cell_of_row _ _ _ _ _ _ g0]; rfl
    · rw [cell_of_row _ _ _ _ _ _ g1]; rfl
    · rw [cell_of_row _ _ _ _ _ _ g1]; rfl
  obtain ⟨C, hCd⟩ : ∃ C : World → Prop, C = fun w3 => Hid (Below w1.heap.size w1 w3) := ⟨_, rfl⟩
  have key2 : ∀ w3, C w3 → _ := fun w3 h => key w3 (by rw [hCd] at h; exact h)
  have hC0 : C { w1 with drawn := w1.drawn + 1 } := by rw [hCd]; exact Lib.hid (Below.refl _ w1).drew
  have hCb : ∀ w3, C w3 → Below w.heap.size w w3 := fun w3 h => by rw [hCd] at h; exact hb2.trans (h.out.mono hb2.size)
  have hCn : ∀ w2 w3, C w2 → Below w2.heap.size w2 w3 → C w3 := fun w2 w3 h h' => by rw [hCd] at h ⊢; exact Lib.hid (h.out.trans (h'.mono h.out.size))
  have c1 := fun W (h : C W) => (c1 W (hCb W h)).mono fun e w3 ⟨he, hb⟩ => (⟨he, hCn W w3 h hb⟩ : e = _ ∧ C w3)
  clear key hb2 hg0 hg1 hCd
  cases L with
  | false =>
    have hR0 : R = false := hR2
    subst hR0
    clear hR2 h64 hm hmm
    refine wp_region_quiet (C := C) (by kernel_rfl) (by kernel_rfl) hC0 ?_
    repeat
      refine wpQuiet_step (fun K hK => ?_)
      have HK := Lib.hid hK
      clear hK
      first
        | (refine (if_pos ?_).mpr ?_
           · (simp [go_sem]; done)
           apply Exists.intro
           refine ⟨fun w' hw' => ?_, ?_⟩
           · (obtain ⟨k0, k1, k2, k3, k4⟩ := key2 w' hw'; go_simp; first | done | rfl | exact c1 _ hw')
           go_simp
           refine HK.out _ ?_
           clear HK K)
        | (refine (if_neg ?_).mpr ?_
           · (simp [go_sem]; done)
           go_simp
           refine HK.out _ ?_
           clear HK K)
    refine wpQuiet_nil ?_
    intro w9 hw9
    go_wp2
    go_ret
    exact ⟨rfl, hCb _ hw9⟩
  | true =>
    have h64 := h64 rfl
    have c9 := fun W (h : C W) => (Tryz.bits_Len64 (m : Int) W hm0 hm1).mono fun e w3 ⟨he, hb⟩ => (⟨he, by rw [hb]; exact h⟩ : e = _ ∧ C w3)
    have hbi := bitLen_iff hmm h64
    rw [show ((m : Int)).toNat = m by omega] at c9
    rw [Bool.true_and] at hR2
    generalize Lib.bitLen m = bl at *
    rcases (show a < 0 ∨ (0 ≤ a ∧ (n : Int) ≤ a) ∨ (0 ≤ a ∧ a < (n : Int)) by omega) with z | ⟨z, z'⟩ | ⟨z, z'⟩
    · have hR0 : R = false := hR2.trans (decide_eq_false (by omega))
      have d1 : decide (0 ≤ a) = false := decide_eq_false (by omega)
      subst hR0
      clear hR2 h64 hm hmm hbi
      refine wp_region_quiet (C := C) (by kernel_rfl) (by kernel_rfl) hC0 ?_
      repeat
        refine wpQuiet_step (fun K hK => ?_)
        have HK := Lib.hid hK
        clear hK
        first
          | (refine (if_pos ?_).mpr ?_
             · (simp [go_sem]; done)
             apply Exists.intro
             refine ⟨fun w' hw' => ?_, ?_⟩
             · (obtain ⟨k0, k1, k2, k3, k4⟩ := key2 w' hw'; go_simp; first | done | rfl | exact c1 _ hw')
             go_simp
             refine HK.out _ ?_
             clear HK K)
          | (refine (if_neg ?_).mpr ?_
             · (simp [go_sem]; done)
             go_simp
             refine HK.out _ ?_
             clear HK K)
      refine wpQuiet_nil ?_
      intro w9 hw9
      go_wp2
      go_ret
      exact ⟨rfl, hCb _ hw9⟩
    · have hR0 : R = false := hR2.trans (decide_eq_false (by omega))
      have d1 : decide (0 ≤ a) = true := decide_eq_true z
      have d2 : decide (a < (n : Int)) = false := decide_eq_false (by omega)
      subst hR0
      clear hR2 h64 hm hmm hbi
      refine wp_region_quiet (C := C) (by kernel_rfl) (by kernel_rfl) hC0 ?_
      repeat
        refine wpQuiet_step (fun K hK => ?_)
        have HK := Lib.hid hK
        clear hK
        first
          | (refine (if_pos ?_).mpr ?_
             · (simp [go_sem]; done)
             apply Exists.intro
             refine ⟨fun w' hw' => ?_, ?_⟩
             · (obtain ⟨k0, k1, k2, k3, k4⟩ := key2 w' hw'; go_simp; first | done | rfl | exact c1 _ hw')
             go_simp
             refine HK.out _ ?_
             clear HK K)
          | (refine (if_neg ?_).mpr ?_
             · (simp [go_sem]; done)
             go_simp
             refine HK.out _ ?_
             clear HK K)
      refine wpQuiet_nil ?_
      intro w9 hw9
      go_wp2
      go_ret
      exact ⟨rfl, hCb _ hw9⟩
    · have hR0 : R = decide ((bl : Int) ≤ (k : Int)) := hR2.trans (by
        rw [Bool.eq_iff_iff, decide_eq_true_iff, decide_eq_true_iff]
        constructor
        · exact fun x => by have := hbi.2 x.2.2; omega
        · exact fun x => ⟨z, z', hbi.1 (by omega)⟩)
      have d1 : decide (0 ≤ a) = true := decide_eq_true z
      have d2 : decide (a < (n : Int)) = true := decide_eq_true z'
      subst hR0
      clear hR2 h64 hm hmm hbi
      refine wp_region_quiet (C := C) (by kernel_rfl) (by kernel_rfl) hC0 ?_
      repeat
        refine wpQuiet_step (fun K hK => ?_)
        have HK := Lib.hid hK
        clear hK
        first
          | (refine (if_pos ?_).mpr ?_
             · (simp [go_sem]; done)
             apply Exists.intro
             refine ⟨fun w' hw' => ?_, ?_⟩
             · (obtain ⟨k0, k1, k2, k3, k4⟩ := key2 w' hw'; go_simp; first | done | rfl | exact c1 _ hw' | exact c9 _ hw')
             go_simp
             refine HK.out _ ?_
             clear HK K)
          | (refine (if_neg ?_).mpr ?_
             · (simp [go_sem]; done)
             go_simp
             refine HK.out _ ?_
             clear HK K)
      refine wpQuiet_nil ?_
      intro w9 hw9
      go_wp2
      go_ret
      exact ⟨rfl, hCb _ hw9⟩
end Go.Proofs.YtmcianehedhfeaaGreatDoor
