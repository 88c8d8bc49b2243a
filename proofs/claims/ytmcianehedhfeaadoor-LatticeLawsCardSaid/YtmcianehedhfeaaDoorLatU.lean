/- The lattice laws of labels: LatticeLaws. -/
import Derived.Test.YtmcianehedhfeaaDoorLatQ
set_option linter.unusedVariables false
set_option linter.unusedSimpArgs false
namespace Go.Proofs.YtmcianehedhfeaaDoor
open Go.RowKit
theorem or_absorb (m n : Nat) : m ||| (m &&& n) = m := (subB.or (subB.refl m) (subB.and_l m n)).eq (subB.or_l _ _)
theorem and_absorb (m n : Nat) : m &&& (m ||| n) = m := (subB.and_l _ _).eq (subB.and (subB.refl m) (subB.or_l m n))
set_option maxRecDepth 100000 in
set_option maxHeartbeats 8000000 in
theorem laws_all (a b c : Int) (m n o : Nat) (w : World) (hmax : MaxAt w) (hm : m < M64) (hn : n < M64) (ho : o < M64) :
    Calls Tryd.prog 8 #[labV a m, labV b n, labV c o] w fun e w' => e = .returned (.bool true) ∧ Below w.heap.size w w' := by
  have hbx := box3 w (lab a m) (lab b n) (lab c o)
  have hb3 := below3 w (lab a m) (lab b n) (lab c o)
  have c0 := awake_any _ (hmax.below hb3)
  unfold labV
  unfold lab at hbx hb3 c0
  go_enter Tryd.func8, Tryd.ntmps8
  go_wp2_with fail
  generalize ((w.alloc (.cells #[.int .i64 a, .int .u64 (m : Int)] 24 (0, 0))).alloc (.cells #[.int .i64 b, .int .u64 (n : Int)] 24 (0, 0))).alloc (.cells #[.int .i64 c, .int .u64 (o : Int)] 24 (0, 0)) = w1 at *
  refine c0.mono ?_
  rintro e w2 ⟨rfl, hb2⟩
  obtain ⟨C, hCd⟩ : ∃ C : World → Prop, C = fun w3 => Hid (Below w1.heap.size w1 w3) := ⟨_, rfl⟩
  have key2 : ∀ w3, C w3 → w3.cell? ⟨w.heap.size, 0, none⟩ = some (.int .i64 a) ∧ w3.cell? ⟨w.heap.size, 1, none⟩ = some (.int .u64 (m : Int)) ∧ w3.cell? ⟨w.heap.size + 1, 0, none⟩ = some (.int .i64 b) ∧ w3.cell? ⟨w.heap.size + 1, 1, none⟩ = some (.int .u64 (n : Int)) ∧ w3.cell? ⟨w.heap.size + 1 + 1, 0, none⟩ = some (.int .i64 c) ∧ w3.cell? ⟨w.heap.size + 1 + 1, 1, none⟩ = some (.int .u64 (o : Int)) ∧ C w3 := by
    intro w3 h
    have hb := h
    rw [hCd] at hb
    obtain ⟨x0, x1⟩ := agg_keep hbx.1 hb.out
    obtain ⟨x2, x3⟩ := agg_keep hbx.2.1 hb.out
    obtain ⟨x4, x5⟩ := agg_keep hbx.2.2 hb.out
    exact ⟨x0, x1, x2, x3, x4, x5, h⟩
  have hCs : ∀ w3, C w3 → C w3.drew := fun w3 h => by rw [hCd] at h ⊢; exact Lib.hid h.out.drew
  have hC2 : C w2 := by rw [hCd]; exact Lib.hid hb2
  have hCb : ∀ w3, C w3 → Below w.heap.size w w3 := fun w3 h => by rw [hCd] at h; exact hb3.trans (h.out.mono hb3.size)
  have hCn : ∀ W W', C W → Below W.heap.size W W' → C W' := fun W W' h h' => by rw [hCd] at h ⊢; exact Lib.hid (h.out.trans (h'.mono h.out.size))
  have hCk : ∀ W o, C W → C (W.alloc o) := fun W o h => hCn W _ h ((Below.refl _ W).alloc (Nat.le_refl _) o)
  have HCB := Lib.hid hCb
  have HCN := Lib.hid hCn
  have HCK := Lib.hid hCk
  have HCS := Lib.hid hCs
  have jab := fun W (h : C W) => (join_any a b m n hm hn W).mono fun e w3 ⟨he, hb⟩ => (⟨he, HCN.out W w3 h hb⟩ : e = _ ∧ C w3)
  have jba := fun W (h : C W) => (join_any b a n m hn hm W).mono fun e w3 ⟨he, hb⟩ => (⟨he, HCN.out W w3 h hb⟩ : e = _ ∧ C w3)
  rw [Int.max_comm b a, Nat.or_comm n m] at jba
  have mab := fun W (h : C W) => (meet_any a b m n hm hn W).mono fun e w3 ⟨he, hb⟩ => (⟨he, HCN.out W w3 h hb⟩ : e = _ ∧ C w3)
  have mba := fun W (h : C W) => (meet_any b a n m hn hm W).mono fun e w3 ⟨he, hb⟩ => (⟨he, HCN.out W w3 h hb⟩ : e = _ ∧ C w3)
  rw [Int.min_comm b a, Nat.and_comm n m] at mba
  have jbc := fun W (h : C W) => (join_any b c n o hn ho W).mono fun e w3 ⟨he, hb⟩ => (⟨he, HCN.out W w3 h hb⟩ : e = _ ∧ C w3)
  have jaK := fun W (h : C W) => (join_any a (max b c) m (n ||| o) hm (or_lt hn ho) W).mono fun e w3 ⟨he, hb⟩ => (⟨he, HCN.out W w3 h hb⟩ : e = _ ∧ C w3)
  have jJc := fun W (h : C W) => (join_any (max a b) c (m ||| n) o (or_lt hm hn) ho W).mono fun e w3 ⟨he, hb⟩ => (⟨he, HCN.out W w3 h hb⟩ : e = _ ∧ C w3)
  rw [Int.max_assoc a b c, Nat.or_assoc m n o] at jJc
  have mbc := fun W (h : C W) => (meet_any b c n o hn ho W).mono fun e w3 ⟨he, hb⟩ => (⟨he, HCN.out W w3 h hb⟩ : e = _ ∧ C w3)
  have maP := fun W (h : C W) => (meet_any a (min b c) m (n &&& o) hm (and_lt hn) W).mono fun e w3 ⟨he, hb⟩ => (⟨he, HCN.out W w3 h hb⟩ : e = _ ∧ C w3)
  have mMc := fun W (h : C W) => (meet_any (min a b) c (m &&& n) o (and_lt hm) ho W).mono fun e w3 ⟨he, hb⟩ => (⟨he, HCN.out W w3 h hb⟩ : e = _ ∧ C w3)
  rw [Int.min_assoc a b c, Nat.and_assoc m n o] at mMc
  have jaM := fun W (h : C W) => (join_any a (min a b) m (m &&& n) hm (and_lt hm) W).mono fun e w3 ⟨he, hb⟩ => (⟨he, HCN.out W w3 h hb⟩ : e = _ ∧ C w3)
  rw [show max a (min a b) = a by omega, or_absorb m n] at jaM
  have maJ := fun W (h : C W) => (meet_any a (max a b) m (m ||| n) hm (or_lt hm hn) W).mono fun e w3 ⟨he, hb⟩ => (⟨he, HCN.out W w3 h hb⟩ : e = _ ∧ C w3)
  rw [show min a (max a b) = a by omega, and_absorb m n] at maJ
  have jaa := fun W (h : C W) => (join_any a a m m hm hm W).mono fun e w3 ⟨he, hb⟩ => (⟨he, HCN.out W w3 h hb⟩ : e = _ ∧ C w3)
  rw [show max a a = a by omega, Nat.or_self m] at jaa
  have maa := fun W (h : C W) => (meet_any a a m m hm hm W).mono fun e w3 ⟨he, hb⟩ => (⟨he, HCN.out W w3 h hb⟩ : e = _ ∧ C w3)
  rw [show min a a = a by omega, Nat.and_self m] at maa
  unfold labV at jab jba mab mba jbc jaK jJc mbc maP mMc jaM maJ jaa maa
  clear hb2 hb3 hCd hCb hCn hCk hCs c0 hbx hmax hm hn ho
  generalize max a (max b c) = x1 at *
  generalize m ||| (n ||| o) = x2 at *
  generalize min a (min b c) = x3 at *
  generalize m &&& (n &&& o) = x4 at *
  generalize max a b = x5 at *
  generalize m ||| n = x6 at *
  generalize min a b = x7 at *
  generalize m &&& n = x8 at *
  generalize max b c = x9 at *
  generalize n ||| o = x10 at *
  generalize min b c = x11 at *
  generalize n &&& o = x12 at *
  have hC0 := HCS.out _ hC2
  clear hC2
  go_wp2_with fail
  refine wp_region_quiet (C := C) (by kernel_rfl) (by kernel_rfl) hC0 ?_
  repeat
    refine wpQuiet_step (fun K hK => ?_)
    have HK := Lib.hid hK
    clear hK
    first
      | (refine (if_pos ?_).mpr ?_
         · (simp [go_sem]; done)
         apply Exists.intro
         refine ⟨fun w' hw' => ?_, ?_⟩
         · (obtain ⟨k0, k1, k2, k3, k4, k5, k6⟩ := key2 w' hw'; go_simp; first | done | rfl | with_reducible exact jab _ hw' | with_reducible exact jba _ hw' | with_reducible exact mab _ hw' | with_reducible exact mba _ hw' | with_reducible exact jbc _ hw' | with_reducible exact jaK _ hw' | with_reducible exact jJc _ hw' | with_reducible exact mbc _ hw' | with_reducible exact maP _ hw' | with_reducible exact mMc _ hw' | with_reducible exact jaM _ hw' | with_reducible exact maJ _ hw' | with_reducible exact jaa _ hw' | with_reducible exact maa _ hw')
         go_simp
         refine HK.out _ ?_
         clear HK K)
      | (refine (if_neg ?_).mpr ?_
         · (simp [go_sem]; done)
         go_simp
         refine HK.out _ ?_
         clear HK K)
  refine wpQuiet_nil ?_
  intro w9 hw9
  go_wp2
  go_ret
  exact ⟨rfl, HCB.out _ hw9⟩
end Go.Proofs.YtmcianehedhfeaaDoor
