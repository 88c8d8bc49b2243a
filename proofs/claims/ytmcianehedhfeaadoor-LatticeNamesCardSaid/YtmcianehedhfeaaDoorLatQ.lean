/- The lattice laws of labels: LatticeOrder. -/
import Derived.Test.YtmcianehedhfeaaDoorLatP
set_option linter.unusedVariables false
set_option linter.unusedSimpArgs false
namespace Go.Proofs.YtmcianehedhfeaaDoor
open Go.RowKit
theorem size_alloc (w : World) (o : Obj) : (w.alloc o).heap.size = w.heap.size + 1 := by show (w.heap.push o).size = _; rw [Array.size_push]
/-- Three labels in new blocks. -/
theorem box3 (w : World) (A B D : Obj) : (((w.alloc A).alloc B).alloc D).heap[w.heap.size]? = some A ∧ (((w.alloc A).alloc B).alloc D).heap[w.heap.size + 1]? = some B ∧ (((w.alloc A).alloc B).alloc D).heap[w.heap.size + 1 + 1]? = some D := by
  refine ⟨?_, ?_, heap3_new _ _ _ _⟩
  · rw [Below.heap_alloc _ _ _ (by rw [size_alloc, size_alloc]; omega), heap_alloc2_old]
  · rw [Below.heap_alloc _ _ _ (by rw [size_alloc, size_alloc]; omega), heap_alloc2_new]
def lab (a : Int) (m : Nat) : Obj := .cells #[.int .i64 a, .int .u64 (m : Int)] 24 (0, 0)
theorem domB_refl (a : Int) (m : Nat) : domB a m a m = true := domB_true.2 ⟨Int.le_refl _, subB.refl _⟩
theorem domB_trans {a b c : Int} {m n o : Nat} (h : domB a m b n = true) (k : domB b n c o = true) : domB a m c o = true := by
  rw [domB_true] at *
  exact ⟨by omega, k.2.trans h.2⟩
theorem domB_anti {a b : Int} {m n : Nat} (h : domB a m b n = true) (k : domB b n a m = true) : a = b ∧ m = n := by
  rw [domB_true] at *
  exact ⟨by omega, (k.2.eq h.2)⟩
set_option maxRecDepth 100000 in
set_option maxHeartbeats 8000000 in
theorem order_all (a b c : Int) (m n o : Nat) (w : World) (hmax : MaxAt w) (hm : m < M64) (hn : n < M64) (ho : o < M64) :
    Calls Tryd.prog 3 #[labV a m, labV b n, labV c o] w fun e w' => e = .returned (.bool true) ∧ Below w.heap.size w w' := by
  have hbx := box3 w (lab a m) (lab b n) (lab c o)
  have hb3 := below3 w (lab a m) (lab b n) (lab c o)
  have c0 := awake_any _ (hmax.below hb3)
  unfold labV
  unfold lab at hbx hb3 c0
  go_enter Tryd.func3, Tryd.ntmps3
  go_wp2_with fail
  generalize ((w.alloc (.cells #[.int .i64 a, .int .u64 (m : Int)] 24 (0, 0))).alloc (.cells #[.int .i64 b, .int .u64 (n : Int)] 24 (0, 0))).alloc (.cells #[.int .i64 c, .int .u64 (o : Int)] 24 (0, 0)) = w1 at *
  refine c0.mono ?_
  rintro e w2 ⟨rfl, hb2⟩
  obtain ⟨C, hCd⟩ : ∃ C : World → Prop, C = fun w3 => Hid (Below w1.heap.size w1 w3) := ⟨_, rfl⟩
  have key2 : ∀ w3, C w3 → w3.cell? ⟨w.heap.size, 0, none⟩ = some (.int .i64 a) ∧ w3.cell? ⟨w.heap.size, 1, none⟩ = some (.int .u64 (m : Int)) ∧ w3.cell? ⟨w.heap.size + 1, 0, none⟩ = some (.int .i64 b) ∧ w3.cell? ⟨w.heap.size + 1, 1, none⟩ = some (.int .u64 (n : Int)) ∧ w3.cell? ⟨w.heap.size + 1 + 1, 0, none⟩ = some (.int .i64 c) ∧ w3.cell? ⟨w.heap.size + 1 + 1, 1, none⟩ = some (.int .u64 (o : Int)) ∧ C w3 := by
    intro w3 h
    have hb := h
    rw [hCd] at hb
    obtain ⟨x0, x1⟩ := agg_keep hbx.1 hb.out
    obtain ⟨x2, x3⟩ := agg_keep hbx.2.1 hb.out
    obtain ⟨x4, x5⟩ := agg_keep hbx.2.2 hb.out
    exact ⟨x0, x1, x2, x3, x4, x5, h⟩
  have hCs : ∀ w3, C w3 → C w3.drew := fun w3 h => by rw [hCd] at h ⊢; exact Lib.hid h.out.drew
  have hC2 : C w2 := by rw [hCd]; exact Lib.hid hb2
  have hCb : ∀ w3, C w3 → Below w.heap.size w w3 := fun w3 h => by rw [hCd] at h; exact hb3.trans (h.out.mono hb3.size)
  have hCn : ∀ W W', C W → Below W.heap.size W W' → C W' := fun W W' h h' => by rw [hCd] at h ⊢; exact Lib.hid (h.out.trans (h'.mono h.out.size))
  have hCk : ∀ W o, C W → C (W.alloc o) := fun W o h => hCn W _ h ((Below.refl _ W).alloc (Nat.le_refl _) o)
  have HCB := Lib.hid hCb
  have HCN := Lib.hid hCn
  have HCK := Lib.hid hCk
  have HCS := Lib.hid hCs
  have dab := fun W (h : C W) => (dom_any a b m n hm hn W).mono fun e w3 ⟨he, hb⟩ => (⟨he, HCN.out W w3 h hb⟩ : e = _ ∧ C w3)
  have dba := fun W (h : C W) => (dom_any b a n m hn hm W).mono fun e w3 ⟨he, hb⟩ => (⟨he, HCN.out W w3 h hb⟩ : e = _ ∧ C w3)
  have dbc := fun W (h : C W) => (dom_any b c n o hn ho W).mono fun e w3 ⟨he, hb⟩ => (⟨he, HCN.out W w3 h hb⟩ : e = _ ∧ C w3)
  have daa := fun W (h : C W) => (dom_any a a m m hm hm W).mono fun e w3 ⟨he, hb⟩ => (⟨he, HCN.out W w3 h hb⟩ : e = _ ∧ C w3)
  have dac := fun W (h : C W) => (dom_any a c m o hm ho W).mono fun e w3 ⟨he, hb⟩ => (⟨he, HCN.out W w3 h hb⟩ : e = _ ∧ C w3)
  have h1 : domB a m b n = true → domB b n a m = true → a = b ∧ m = n := domB_anti
  have h2 : domB a m b n = true → domB b n c o = true → domB a m c o = true := domB_trans
  rw [domB_refl] at daa
  generalize domB a m b n = ab at *
  generalize domB b n a m = ba at *
  generalize domB b n c o = bc at *
  generalize domB a m c o = ac at *
  unfold labV at dab dba dbc daa dac
  have hC0 := HCS.out _ hC2
  have H12 := Lib.hid (And.intro h1 h2)
  clear hb2 hC2 hb3 hCd hCb hCn hCk hCs c0 hbx h1 h2 hm hn ho hmax
  go_wp2_with fail
  refine wp_region_quiet (C := C) (by kernel_rfl) (by kernel_rfl) hC0 ?_
  repeat
    refine wpQuiet_step (fun K hK => ?_)
    have HK := Lib.hid hK
    clear hK
    first
      | (refine (if_pos ?_).mpr ?_
         · (simp [go_sem]; done)
         apply Exists.intro
         refine ⟨fun w' hw' => ?_, ?_⟩
         · (obtain ⟨k0, k1, k2, k3, k4, k5, k6⟩ := key2 w' hw'; go_simp; first | done | rfl | with_reducible exact dab _ hw' | with_reducible exact dba _ hw' | with_reducible exact dbc _ hw')
         go_simp
         refine HK.out _ ?_
         clear HK K)
      | (refine (if_neg ?_).mpr ?_
         · (simp [go_sem]; done)
         go_simp
         refine HK.out _ ?_
         clear HK K)
  refine wpQuiet_nil ?_
  intro w9 hw9
  obtain ⟨k0, k1, k2, k3, k4, k5, k6⟩ := key2 w9 hw9
  clear hC0 dab dba dbc
  go_wp2_with fail
  refine (daa _ hw9).mono ?_
  rintro e wa ⟨rfl, hCa⟩
  obtain ⟨q0, q1, q2, q3, q4, q5, q6⟩ := key2 _ hCa
  clear daa k0 k1 k2 k3 k4 k5 k6
  cases ab with
  | false =>
    clear dac H12
    go_wp2
    go_ret
    exact ⟨rfl, HCB.out _ hCa⟩
  | true =>
    cases bc with
    | false =>
      clear dac
      cases ba with
      | false =>
        clear H12
        go_wp2
        go_ret
        exact ⟨rfl, HCB.out _ hCa⟩
      | true =>
        obtain ⟨rfl, rfl⟩ := H12.out.1 rfl rfl
        clear H12
        go_wp2
        go_ret
        exact ⟨rfl, HCB.out _ hCa⟩
    | true =>
      obtain rfl : ac = true := H12.out.2 rfl rfl
      cases ba with
      | false =>
        clear H12
        go_wp2_with fail
        refine (dac _ hCa).mono ?_
        rintro e wb ⟨rfl, hCb⟩
        obtain ⟨r0, r1, r2, r3, r4, r5, r6⟩ := key2 _ hCb
        clear dac
        go_wp2
        go_ret
        exact ⟨rfl, HCB.out _ hCb⟩
      | true =>
        obtain ⟨rfl, rfl⟩ := H12.out.1 rfl rfl
        clear H12
        go_wp2_with fail
        refine (dac _ hCa).mono ?_
        rintro e wb ⟨rfl, hCb⟩
        obtain ⟨r0, r1, r2, r3, r4, r5, r6⟩ := key2 _ hCb
        clear dac
        go_wp2
        go_ret
        exact ⟨rfl, HCB.out _ hCb⟩
end Go.Proofs.YtmcianehedhfeaaDoor
