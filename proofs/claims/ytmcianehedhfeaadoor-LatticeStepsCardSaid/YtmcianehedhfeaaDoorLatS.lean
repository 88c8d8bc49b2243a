/- The lattice laws of labels: LatticeBounds. -/
import Derived.Test.YtmcianehedhfeaaDoorLatQ
import Derived.Deep.RegionHeld3
import Derived.Deep.DeepCutAuto
set_option linter.unusedVariables false
set_option linter.unusedSimpArgs false
namespace Go.Proofs.YtmcianehedhfeaaDoor
open Go.RowKit
theorem alloc2_labs (w : World) : ((w.alloc (lab 0 0)).alloc (lab 0 0)).cell? ⟨w.heap.size, 0, none⟩ = some (.int .i64 0) ∧ ((w.alloc (lab 0 0)).alloc (lab 0 0)).cell? ⟨w.heap.size, 1, none⟩ = some (.int .u64 0) ∧
    ((w.alloc (lab 0 0)).alloc (lab 0 0)).frozen? ⟨w.heap.size, 0, none⟩ = false ∧ ((w.alloc (lab 0 0)).alloc (lab 0 0)).frozen? ⟨w.heap.size, 1, none⟩ = false ∧
    ((w.alloc (lab 0 0)).alloc (lab 0 0)).cell? ⟨w.heap.size + 1, 0, none⟩ = some (.int .i64 0) ∧ ((w.alloc (lab 0 0)).alloc (lab 0 0)).cell? ⟨w.heap.size + 1, 1, none⟩ = some (.int .u64 0) ∧
    ((w.alloc (lab 0 0)).alloc (lab 0 0)).frozen? ⟨w.heap.size + 1, 0, none⟩ = false ∧ ((w.alloc (lab 0 0)).alloc (lab 0 0)).frozen? ⟨w.heap.size + 1, 1, none⟩ = false := by
  have h1 := heap_alloc2_old w (lab 0 0) (lab 0 0)
  have h2 := heap_alloc2_new w (lab 0 0) (lab 0 0)
  unfold lab at *
  refine ⟨?_, ?_, frozen_of_row _ _ _ _ _ h1, frozen_of_row _ _ _ _ _ h1, ?_, ?_, frozen_of_row _ _ _ _ _ h2, frozen_of_row _ _ _ _ _ h2⟩
  · rw [cell_of_row _ _ _ _ _ _ h1]; rfl
  · rw [cell_of_row _ _ _ _ _ _ h1]; rfl
  · rw [cell_of_row _ _ _ _ _ _ h2]; rfl
  · rw [cell_of_row _ _ _ _ _ _ h2]; rfl
theorem size_drew (w : World) : w.drew.heap.size = w.heap.size := rfl
theorem new_at {w : World} {b i : Nat} {cs : Array Value} {T : TypeId} {fr : Nat × Nat} {v : Value} (h : b = w.heap.size) (hv : cs[i]? = some v) : (w.alloc (.cells cs T fr)).cell? ⟨b, i, none⟩ = some v := by
  subst h
  rw [cell_of_row _ _ _ _ _ _ (heap_alloc_new w (.cells cs T fr)), hv]
theorem new_past {b i : Nat} (w : World) (o : Obj) (h : b < w.heap.size) : (w.alloc o).cell? ⟨b, i, none⟩ = w.cell? ⟨b, i, none⟩ :=
  World.cell?_of_block (a := ⟨b, i, none⟩) (Below.heap_alloc w o b h)
theorem new_drew (w : World) (p : Addr) : w.drew.cell? p = w.cell? p := rfl
theorem join_w (a b : Int) (m n : Nat) (hm : m < M64) (hn : n < M64) (w : World) :
    Calls Tryd.prog 21 #[labV a m, labV b n] w fun e w' => e = .returned (labV (max a b) (m ||| n)) ∧ w' = ((w.alloc (lab a m)).alloc (lab b n)).alloc (lab (max a b) (m ||| n)) := by
  have h1 := u64_or_nat m n hm hn
  unfold labV
  go_enter Tryd.func21, Tryd.ntmps21
  go_wp2
  all_goals
    refine ret_lab1 rfl rfl (heap3_new _ _ _ _) rfl ⟨?_, ?_⟩
    · exact congrArg (fun x : Int => Ending.returned (labV x _)) (by omega)
    · exact congrArg (fun x : Int => ((w.alloc (lab a m)).alloc (lab b n)).alloc (lab x (m ||| n))) (by omega)
theorem meet_w (a b : Int) (m n : Nat) (hm : m < M64) (hn : n < M64) (w : World) :
    Calls Tryd.prog 22 #[labV a m, labV b n] w fun e w' => e = .returned (labV (min a b) (m &&& n)) ∧ w' = ((w.alloc (lab a m)).alloc (lab b n)).alloc (lab (min a b) (m &&& n)) := by
  have h1 := u64_and_nat m n hm hn
  unfold labV
  go_enter Tryd.func22, Tryd.ntmps22
  go_wp2
  all_goals
    refine ret_lab1 rfl rfl (heap3_new _ _ _ _) rfl ⟨?_, ?_⟩
    · exact congrArg (fun x : Int => Ending.returned (labV x _)) (by omega)
    · exact congrArg (fun x : Int => ((w.alloc (lab a m)).alloc (lab b n)).alloc (lab x (m &&& n))) (by omega)
set_option maxRecDepth 100000 in
set_option maxHeartbeats 8000000 in
theorem bounds_all (a b c : Int) (m n o : Nat) (w : World) (hmax : MaxAt w) (hm : m < M64) (hn : n < M64) (ho : o < M64) :
    Calls Tryd.prog 7 #[labV a m, labV b n, labV c o] w fun e w' => e = .returned (.bool true) ∧ Below w.heap.size w w' := by
  have hbx := box3 w (lab a m) (lab b n) (lab c o)
  have hb3 := below3 w (lab a m) (lab b n) (lab c o)
  have c0 := awake_any _ (hmax.below hb3)
  unfold labV
  unfold lab at hbx hb3 c0
  go_enter Tryd.func7, Tryd.ntmps7
  go_wp2_with fail
  generalize ((w.alloc (.cells #[.int .i64 a, .int .u64 (m : Int)] 24 (0, 0))).alloc (.cells #[.int .i64 b, .int .u64 (n : Int)] 24 (0, 0))).alloc (.cells #[.int .i64 c, .int .u64 (o : Int)] 24 (0, 0)) = w1 at *
  refine c0.mono ?_
  rintro e w2 ⟨rfl, hb2⟩
  obtain ⟨C, hCd⟩ : ∃ C : World → Prop, C = fun w3 => Hid (Below w1.heap.size w1 w3) := ⟨_, rfl⟩
  have key2 : ∀ w3, C w3 → w3.cell? ⟨w.heap.size, 0, none⟩ = some (.int .i64 a) ∧ w3.cell? ⟨w.heap.size, 1, none⟩ = some (.int .u64 (m : Int)) ∧ w3.cell? ⟨w.heap.size + 1, 0, none⟩ = some (.int .i64 b) ∧ w3.cell? ⟨w.heap.size + 1, 1, none⟩ = some (.int .u64 (n : Int)) ∧ w3.cell? ⟨w.heap.size + 1 + 1, 0, none⟩ = some (.int .i64 c) ∧ w3.cell? ⟨w.heap.size + 1 + 1, 1, none⟩ = some (.int .u64 (o : Int)) ∧ C w3 := by
    intro w3 h
    have hb := h
    rw [hCd] at hb
    obtain ⟨x0, x1⟩ := agg_keep hbx.1 hb.out
    obtain ⟨x2, x3⟩ := agg_keep hbx.2.1 hb.out
    obtain ⟨x4, x5⟩ := agg_keep hbx.2.2 hb.out
    exact ⟨x0, x1, x2, x3, x4, x5, h⟩
  have hCs : ∀ w3, C w3 → C w3.drew := fun w3 h => by rw [hCd] at h ⊢; exact Lib.hid h.out.drew
  have hC2 : C w2 := by rw [hCd]; exact Lib.hid hb2
  have hCb : ∀ w3, C w3 → Below w.heap.size w w3 := fun w3 h => by rw [hCd] at h; exact hb3.trans (h.out.mono hb3.size)
  have hCn : ∀ W W', C W → Below W.heap.size W W' → C W' := fun W W' h h' => by rw [hCd] at h ⊢; exact Lib.hid (h.out.trans (h'.mono h.out.size))
  have hCk : ∀ W o, C W → C (W.alloc o) := fun W o h => hCn W _ h ((Below.refl _ W).alloc (Nat.le_refl _) o)
  have HCB := Lib.hid hCb
  have HCN := Lib.hid hCn
  have HCK := Lib.hid hCk
  have HCS := Lib.hid hCs
  have cj := fun W => join_w a b m n hm hn W
  have cm := fun W => meet_w a b m n hm hn W
  unfold labV lab at cj cm
  have KY := Lib.hid key2
  have HJ := Lib.hid cj
  have HM := Lib.hid cm
  clear hb2 hb3 hCd hCb hCn hCk hCs c0 hbx hmax cj cm key2
  go_upto_region 3 with fail
  go_cut [7, 8] (fun s7 s8 wx => ∃ p q : Nat, s7 = .pointer (some ⟨p, 0, none⟩) ∧ s8 = .pointer (some ⟨q, 0, none⟩) ∧ wx.cell? ⟨p, 0, none⟩ = some (.int .i64 (max a b)) ∧ wx.cell? ⟨p, 1, none⟩ = some (.int .u64 ((m ||| n : Nat) : Int)) ∧ wx.cell? ⟨q, 0, none⟩ = some (.int .i64 (min a b)) ∧ wx.cell? ⟨q, 1, none⟩ = some (.int .u64 ((m &&& n : Nat) : Int)) ∧ C wx)
  case first =>
    generalize max a b = J at *
    generalize min a b = M at *
    generalize m ||| n = jm at *
    generalize m &&& n = mm at *
    go_region_held3 (fun w3 => w3.cell? ⟨w.heap.size, 0, none⟩ = some (.int .i64 a) ∧ w3.cell? ⟨w.heap.size, 1, none⟩ = some (.int .u64 (m : Int)) ∧ w3.cell? ⟨w.heap.size + 1, 0, none⟩ = some (.int .i64 b) ∧ w3.cell? ⟨w.heap.size + 1, 1, none⟩ = some (.int .u64 (n : Int)) ∧ w3.cell? ⟨w.heap.size + 1 + 1, 0, none⟩ = some (.int .i64 c) ∧ w3.cell? ⟨w.heap.size + 1 + 1, 1, none⟩ = some (.int .u64 (o : Int)) ∧ C w3)
      ((refine KY.out _ ?_; repeat (first | exact hC2 | refine HCS.out _ ?_ | refine HCK.out _ _ ?_)))
      (first | (go_at_call 21; (with_reducible refine (HJ.out _).mono ?_); rintro e w3 ⟨rfl, rfl⟩) | (go_at_call 22; (with_reducible refine (HM.out _).mono ?_); rintro e w4 ⟨rfl, rfl⟩))
    all_goals (go_wp2_with fail; go_meet; refine ⟨_, _, rfl, rfl, ?_, ?_, ?_, ?_, ?_⟩)
    all_goals first
      | ((repeat (first | exact hC2 | refine HCS.out _ ?_ | refine HCK.out _ _ ?_)); done)
      | ((repeat (first
          | (with_reducible refine (new_drew _ _).trans ?_)
          | (with_reducible refine (new_past _ _ ?_).trans ?_
             · (simp only [size_alloc, size_drew]; omega))
          | (refine new_at ?_ rfl
             · (simp only [size_alloc, size_drew]; done)))); done)
  case rest =>
    obtain ⟨p, q, rfl, rfl, p0, p1, q0, q1, hCx⟩ := hcut
    obtain ⟨D, hDd⟩ : ∃ D : World → Prop, D = fun w3 => Hid (Below wc.heap.size wc w3) := ⟨_, rfl⟩
    have key3 : ∀ w3, D w3 → (w3.cell? ⟨w.heap.size, 0, none⟩ = some (.int .i64 a) ∧ w3.cell? ⟨w.heap.size, 1, none⟩ = some (.int .u64 (m : Int)) ∧ w3.cell? ⟨w.heap.size + 1, 0, none⟩ = some (.int .i64 b) ∧ w3.cell? ⟨w.heap.size + 1, 1, none⟩ = some (.int .u64 (n : Int)) ∧ w3.cell? ⟨w.heap.size + 1 + 1, 0, none⟩ = some (.int .i64 c) ∧ w3.cell? ⟨w.heap.size + 1 + 1, 1, none⟩ = some (.int .u64 (o : Int)) ∧ w3.cell? ⟨p, 0, none⟩ = some (.int .i64 (max a b)) ∧ w3.cell? ⟨p, 1, none⟩ = some (.int .u64 ((m ||| n : Nat) : Int)) ∧ w3.cell? ⟨q, 0, none⟩ = some (.int .i64 (min a b)) ∧ w3.cell? ⟨q, 1, none⟩ = some (.int .u64 ((m &&& n : Nat) : Int)) ∧ D w3) := by
      intro w3 h
      have hb := h
      rw [hDd] at hb
      obtain ⟨x0, x1, x2, x3, x4, x5, _⟩ := KY.out wc hCx
      have up : ∀ {r : Addr} {v : Value}, wc.cell? r = some v → w3.cell? r = some v := fun {r v} hr => (hb.out.cell (World.block_lt_of_cell? _ _ hr)).trans hr
      exact ⟨up x0, up x1, up x2, up x3, up x4, up x5, up p0, up p1, up q0, up q1, h⟩
    have hD0 : D wc := by rw [hDd]; exact Lib.hid (Below.refl _ _)
    have hDs : ∀ W, D W → D W.drew := fun W h => by rw [hDd] at h ⊢; exact Lib.hid h.out.drew
    have hDn : ∀ W W', D W → Below W.heap.size W W' → D W' := fun W W' h h' => by rw [hDd] at h ⊢; exact Lib.hid (h.out.trans (h'.mono h.out.size))
    have hDb : ∀ W, D W → Below w.heap.size w W := fun W h => by
      rw [hDd] at h
      have h0 := HCB.out _ hCx
      exact h0.trans (h.out.mono h0.size)
    have HDN := Lib.hid hDn
    have HDS := Lib.hid hDs
    have HDB := Lib.hid hDb
    have dja := fun W (h : D W) => (dom_any (max a b) a (m ||| n) m (or_lt hm hn) hm W).mono fun e w3 ⟨he, hb⟩ => (⟨he, HDN.out W w3 h hb⟩ : e = _ ∧ D w3)
    have djb := fun W (h : D W) => (dom_any (max a b) b (m ||| n) n (or_lt hm hn) hn W).mono fun e w3 ⟨he, hb⟩ => (⟨he, HDN.out W w3 h hb⟩ : e = _ ∧ D w3)
    have dam := fun W (h : D W) => (dom_any a (min a b) m (m &&& n) hm (and_lt hm) W).mono fun e w3 ⟨he, hb⟩ => (⟨he, HDN.out W w3 h hb⟩ : e = _ ∧ D w3)
    have dbm := fun W (h : D W) => (dom_any b (min a b) n (m &&& n) hn (and_lt hm) W).mono fun e w3 ⟨he, hb⟩ => (⟨he, HDN.out W w3 h hb⟩ : e = _ ∧ D w3)
    have dca := fun W (h : D W) => (dom_any c a o m ho hm W).mono fun e w3 ⟨he, hb⟩ => (⟨he, HDN.out W w3 h hb⟩ : e = _ ∧ D w3)
    have dcb := fun W (h : D W) => (dom_any c b o n ho hn W).mono fun e w3 ⟨he, hb⟩ => (⟨he, HDN.out W w3 h hb⟩ : e = _ ∧ D w3)
    have dcj := fun W (h : D W) => (dom_any c (max a b) o (m ||| n) ho (or_lt hm hn) W).mono fun e w3 ⟨he, hb⟩ => (⟨he, HDN.out W w3 h hb⟩ : e = _ ∧ D w3)
    have dac := fun W (h : D W) => (dom_any a c m o hm ho W).mono fun e w3 ⟨he, hb⟩ => (⟨he, HDN.out W w3 h hb⟩ : e = _ ∧ D w3)
    have dbc := fun W (h : D W) => (dom_any b c n o hn ho W).mono fun e w3 ⟨he, hb⟩ => (⟨he, HDN.out W w3 h hb⟩ : e = _ ∧ D w3)
    have dmc := fun W (h : D W) => (dom_any (min a b) c (m &&& n) o (and_lt hm) ho W).mono fun e w3 ⟨he, hb⟩ => (⟨he, HDN.out W w3 h hb⟩ : e = _ ∧ D w3)
    have dab := fun W (h : D W) => (dom_any a b m n hm hn W).mono fun e w3 ⟨he, hb⟩ => (⟨he, HDN.out W w3 h hb⟩ : e = _ ∧ D w3)
    have t1 : domB (max a b) (m ||| n) a m = true := domB_true.2 ⟨by omega, subB.or_l m n⟩
    have t2 : domB (max a b) (m ||| n) b n = true := domB_true.2 ⟨by omega, subB.or_r m n⟩
    have t3 : domB a m (min a b) (m &&& n) = true := domB_true.2 ⟨by omega, subB.and_l m n⟩
    have t4 : domB b n (min a b) (m &&& n) = true := domB_true.2 ⟨by omega, subB.and_r m n⟩
    have t5 : domB c o a m = true → domB c o b n = true → domB c o (max a b) (m ||| n) = true := fun h k => by
      rw [domB_true] at *
      exact ⟨by omega, subB.or h.2 k.2⟩
    have t6 : domB a m c o = true → domB b n c o = true → domB (min a b) (m &&& n) c o = true := fun h k => by
      rw [domB_true] at *
      exact ⟨by omega, subB.and h.2 k.2⟩
    have t7 : domB a m b n = true → max a b = a ∧ m ||| n = m ∧ min a b = b ∧ m &&& n = n := fun h => by
      rw [domB_true] at h
      refine ⟨by omega, (subB.or_l m n).eq (subB.or (subB.refl m) h.2) |>.symm, by omega, (subB.and_r m n).eq (subB.and h.2 (subB.refl n))⟩
    have t8 : domB a m b n = false → (¬ max a b = a ∨ ¬ m ||| n = m) ∧ (¬ min a b = b ∨ ¬ m &&& n = n) := fun h => by
      rw [domB_false] at h
      constructor
      · by_cases h1 : max a b = a
        · right; intro h2; exact h ⟨by omega, by have := subB.or_r m n; rwa [h2] at this⟩
        · exact .inl h1
      · by_cases h1 : min a b = b
        · right; intro h2; exact h ⟨by omega, by have := subB.and_l m n; rwa [h2] at this⟩
        · exact .inl h1
    rw [t1] at dja
    rw [t2] at djb
    rw [t3] at dam
    rw [t4] at dbm
    unfold labV at dja djb dam dbm dca dcb dcj dac dbc dmc dab
    generalize domB c o a m = ca at *
    generalize domB c o b n = cb at *
    generalize domB a m c o = ac at *
    generalize domB b n c o = bc at *
    generalize domB a m b n = ab at *
    generalize domB c o (max a b) (m ||| n) = cj at *
    generalize domB (min a b) (m &&& n) c o = mc at *
    generalize max a b = J at *
    generalize min a b = M at *
    generalize m ||| n = jm at *
    generalize m &&& n = mm at *
    have HT := Lib.hid (And.intro t5 (And.intro t6 (And.intro t7 t8)))
    have HD0 := Lib.hid hD0
    clear t1 t2 t3 t4 t5 t6 t7 t8 p0 p1 q0 q1 hCx hDd hDn hDs hDb hm hn ho hD0 KY HJ HM HCB HCN HCK HCS
    have HK3 := Lib.hid key3
    clear key3
    obtain ⟨k0, k1, k2, k3, k4, k5, k6, k7, k8, k9, kD⟩ := HK3.out _ HD0.out
    go_wp2_with fail
    refine (dja _ HD0.out).mono ?_
    rintro e wa ⟨rfl, hwa⟩
    obtain ⟨a0, a1, a2, a3, a4, a5, a6, a7, a8, a9, aD⟩ := HK3.out _ hwa
    clear k0 k1 k2 k3 k4 k5 k6 k7 k8 k9 kD
    go_wp2_with fail
    refine (djb _ hwa).mono ?_
    rintro e wb ⟨rfl, hwb⟩
    obtain ⟨b0, b1, b2, b3, b4, b5, b6, b7, b8, b9, bD⟩ := HK3.out _ hwb
    clear a0 a1 a2 a3 a4 a5 a6 a7 a8 a9 aD
    go_wp2_with fail
    refine (dam _ hwb).mono ?_
    rintro e wd ⟨rfl, hwd⟩
    obtain ⟨d0, d1, d2, d3, d4, d5, d6, d7, d8, d9, dD⟩ := HK3.out _ hwd
    clear b0 b1 b2 b3 b4 b5 b6 b7 b8 b9 bD
    go_wp2_with fail
    refine (dbm _ hwd).mono ?_
    rintro e we ⟨rfl, hwe⟩
    obtain ⟨e0, e1, e2, e3, e4, e5, e6, e7, e8, e9, eD⟩ := HK3.out _ hwe
    clear d0 d1 d2 d3 d4 d5 d6 d7 d8 d9 dD
    clear dja djb dam dbm
    go_upto_region 6 with fail
    go_cut [68] (fun s68 wx => s68 = .bool false ∧ D wx)
    case first =>
      clear dab
      have t5 := HT.out.1
      have t6 := HT.out.2.1
      have HT56 := Lib.hid (And.intro t5 t6)
      clear t5 t6 HT
      cases ca with
      | false =>
        go_wp2_with fail
        refine (dca _ hwe).mono ?_
        rintro e wf ⟨rfl, hwf⟩
        obtain ⟨f0, f1, f2, f3, f4, f5, f6, f7, f8, f9, fD⟩ := HK3.out _ hwf
        clear e0 e1 e2 e3 e4 e5 e6 e7 e8 e9 eD
        cases ac with
        | false =>
          go_wp2_with fail
          refine (dac _ hwf).mono ?_
          rintro e wr ⟨rfl, hwr⟩
          obtain ⟨r0, r1, r2, r3, r4, r5, r6, r7, r8, r9, rD⟩ := HK3.out _ hwr
          go_wp2_with fail
          go_meet
          exact ⟨rfl, hwr⟩
        | true =>
          cases bc with
          | false =>
            go_wp2_with fail
            refine (dac _ hwf).mono ?_
            rintro e wr ⟨rfl, hwr⟩
            obtain ⟨r0, r1, r2, r3, r4, r5, r6, r7, r8, r9, rD⟩ := HK3.out _ hwr
            go_wp2_with fail
            refine (dbc _ hwr).mono ?_
            rintro e ws ⟨rfl, hws⟩
            obtain ⟨s0, s1, s2, s3, s4, s5, s6, s7, s8, s9, sD⟩ := HK3.out _ hws
            go_wp2_with fail
            go_meet
            exact ⟨rfl, hws⟩
          | true =>
            obtain rfl : mc = true := HT56.out.2 rfl rfl
            go_wp2_with fail
            refine (dac _ hwf).mono ?_
            rintro e wr ⟨rfl, hwr⟩
            obtain ⟨r0, r1, r2, r3, r4, r5, r6, r7, r8, r9, rD⟩ := HK3.out _ hwr
            go_wp2_with fail
            refine (dbc _ hwr).mono ?_
            rintro e ws ⟨rfl, hws⟩
            obtain ⟨s0, s1, s2, s3, s4, s5, s6, s7, s8, s9, sD⟩ := HK3.out _ hws
            go_wp2_with fail
            refine (dmc _ hws).mono ?_
            rintro e wt ⟨rfl, hwt⟩
            obtain ⟨t0, t1, t2, t3, t4, t5, t6, t7, t8, t9, tD⟩ := HK3.out _ hwt
            go_wp2_with fail
            go_meet
            exact ⟨rfl, hwt⟩
      | true =>
        cases cb with
        | false =>
          go_wp2_with fail
          refine (dca _ hwe).mono ?_
          rintro e wf ⟨rfl, hwf⟩
          obtain ⟨f0, f1, f2, f3, f4, f5, f6, f7, f8, f9, fD⟩ := HK3.out _ hwf
          clear e0 e1 e2 e3 e4 e5 e6 e7 e8 e9 eD
          go_wp2_with fail
          refine (dcb _ hwf).mono ?_
          rintro e wg ⟨rfl, hwg⟩
          obtain ⟨g0, g1, g2, g3, g4, g5, g6, g7, g8, g9, gD⟩ := HK3.out _ hwg
          clear f0 f1 f2 f3 f4 f5 f6 f7 f8 f9 fD
          cases ac with
          | false =>
            go_wp2_with fail
            refine (dac _ hwg).mono ?_
            rintro e wr ⟨rfl, hwr⟩
            obtain ⟨r0, r1, r2, r3, r4, r5, r6, r7, r8, r9, rD⟩ := HK3.out _ hwr
            go_wp2_with fail
            go_meet
            exact ⟨rfl, hwr⟩
          | true =>
            cases bc with
            | false =>
              go_wp2_with fail
              refine (dac _ hwg).mono ?_
              rintro e wr ⟨rfl, hwr⟩
              obtain ⟨r0, r1, r2, r3, r4, r5, r6, r7, r8, r9, rD⟩ := HK3.out _ hwr
              go_wp2_with fail
              refine (dbc _ hwr).mono ?_
              rintro e ws ⟨rfl, hws⟩
              obtain ⟨s0, s1, s2, s3, s4, s5, s6, s7, s8, s9, sD⟩ := HK3.out _ hws
              go_wp2_with fail
              go_meet
              exact ⟨rfl, hws⟩
            | true =>
              obtain rfl : mc = true := HT56.out.2 rfl rfl
              go_wp2_with fail
              refine (dac _ hwg).mono ?_
              rintro e wr ⟨rfl, hwr⟩
              obtain ⟨r0, r1, r2, r3, r4, r5, r6, r7, r8, r9, rD⟩ := HK3.out _ hwr
              go_wp2_with fail
              refine (dbc _ hwr).mono ?_
              rintro e ws ⟨rfl, hws⟩
              obtain ⟨s0, s1, s2, s3, s4, s5, s6, s7, s8, s9, sD⟩ := HK3.out _ hws
              go_wp2_with fail
              refine (dmc _ hws).mono ?_
              rintro e wt ⟨rfl, hwt⟩
              obtain ⟨t0, t1, t2, t3, t4, t5, t6, t7, t8, t9, tD⟩ := HK3.out _ hwt
              go_wp2_with fail
              go_meet
              exact ⟨rfl, hwt⟩
        | true =>
          obtain rfl : cj = true := HT56.out.1 rfl rfl
          go_wp2_with fail
          refine (dca _ hwe).mono ?_
          rintro e wf ⟨rfl, hwf⟩
          obtain ⟨f0, f1, f2, f3, f4, f5, f6, f7, f8, f9, fD⟩ := HK3.out _ hwf
          clear e0 e1 e2 e3 e4 e5 e6 e7 e8 e9 eD
          go_wp2_with fail
          refine (dcb _ hwf).mono ?_
          rintro e wg ⟨rfl, hwg⟩
          obtain ⟨g0, g1, g2, g3, g4, g5, g6, g7, g8, g9, gD⟩ := HK3.out _ hwg
          clear f0 f1 f2 f3 f4 f5 f6 f7 f8 f9 fD
          go_wp2_with fail
          refine (dcj _ hwg).mono ?_
          rintro e wh ⟨rfl, hwh⟩
          obtain ⟨h0, h1, h2, h3, h4, h5, h6, h7, h8, h9, hD⟩ := HK3.out _ hwh
          clear g0 g1 g2 g3 g4 g5 g6 g7 g8 g9 gD
          cases ac with
          | false =>
            go_wp2_with fail
            refine (dac _ hwh).mono ?_
            rintro e wr ⟨rfl, hwr⟩
            obtain ⟨r0, r1, r2, r3, r4, r5, r6, r7, r8, r9, rD⟩ := HK3.out _ hwr
            go_wp2_with fail
            go_meet
            exact ⟨rfl, hwr⟩
          | true =>
            cases bc with
            | false =>
              go_wp2_with fail
              refine (dac _ hwh).mono ?_
              rintro e wr ⟨rfl, hwr⟩
              obtain ⟨r0, r1, r2, r3, r4, r5, r6, r7, r8, r9, rD⟩ := HK3.out _ hwr
              go_wp2_with fail
              refine (dbc _ hwr).mono ?_
              rintro e ws ⟨rfl, hws⟩
              obtain ⟨s0, s1, s2, s3, s4, s5, s6, s7, s8, s9, sD⟩ := HK3.out _ hws
              go_wp2_with fail
              go_meet
              exact ⟨rfl, hws⟩
            | true =>
              obtain rfl : mc = true := HT56.out.2 rfl rfl
              go_wp2_with fail
              refine (dac _ hwh).mono ?_
              rintro e wr ⟨rfl, hwr⟩
              obtain ⟨r0, r1, r2, r3, r4, r5, r6, r7, r8, r9, rD⟩ := HK3.out _ hwr
              go_wp2_with fail
              refine (dbc _ hwr).mono ?_
              rintro e ws ⟨rfl, hws⟩
              obtain ⟨s0, s1, s2, s3, s4, s5, s6, s7, s8, s9, sD⟩ := HK3.out _ hws
              go_wp2_with fail
              refine (dmc _ hws).mono ?_
              rintro e wt ⟨rfl, hwt⟩
              obtain ⟨t0, t1, t2, t3, t4, t5, t6, t7, t8, t9, tD⟩ := HK3.out _ hwt
              go_wp2_with fail
              go_meet
              exact ⟨rfl, hwt⟩
    case rest =>
      obtain ⟨rfl, hDc⟩ := hcut
      clear dca dcb dcj dac dbc dmc
      have t7 := HT.out.2.2.1
      have t8 := HT.out.2.2.2
      clear HT
      have hC0 := HDS.out _ hDc
      have key2 := HK3.out
      clear hDc
      cases ab with
      | true =>
        obtain ⟨rfl, rfl, rfl, rfl⟩ := t7 rfl
        clear t7 t8
        go_wp2_with fail
        refine wp_region_quiet (C := D) (by kernel_rfl) (by kernel_rfl) hC0 ?_
        repeat
          refine wpQuiet_step (fun K hK => ?_)
          have HK := Lib.hid hK
          clear hK
          first
            | (refine (if_pos ?_).mpr ?_
               · (simp [go_sem]; done)
               apply Exists.intro
               refine ⟨fun w' hw' => ?_, ?_⟩
               · (obtain ⟨k0, k1, k2, k3, k4, k5, k6, k7, k8, k9, kD⟩ := key2 w' hw'; go_simp; first | done | rfl | with_reducible exact dab _ hw')
               go_simp
               refine HK.out _ ?_
               clear HK K)
            | (refine (if_neg ?_).mpr ?_
               · (simp [go_sem]; done)
               go_simp
               refine HK.out _ ?_
               clear HK K)
        refine wpQuiet_nil ?_
        intro w9 hw9
        go_wp2
        go_ret
        exact ⟨rfl, HDB.out _ hw9⟩
      | false =>
        obtain ⟨x, y⟩ := t8 rfl
        clear t7 t8
        have x2 : (J == a) = false ∨ ((jm : Int) == (m : Int)) = false := by
          rcases x with x | x
          · exact .inl (beq_eq_false_iff_ne.2 x)
          · exact .inr (beq_eq_false_iff_ne.2 (by omega))
        have y2 : (M == b) = false ∨ ((mm : Int) == (n : Int)) = false := by
          rcases y with y | y
          · exact .inl (beq_eq_false_iff_ne.2 y)
          · exact .inr (beq_eq_false_iff_ne.2 (by omega))
        clear x y
        rcases x2 with x | x <;> rcases y2 with y | y
        all_goals
          go_wp2_with fail
          refine wp_region_quiet (C := D) (by kernel_rfl) (by kernel_rfl) hC0 ?_
          repeat
            refine wpQuiet_step (fun K hK => ?_)
            have HK := Lib.hid hK
            clear hK
            first
              | (refine (if_pos ?_).mpr ?_
                 · (simp [go_sem]; done)
                 apply Exists.intro
                 refine ⟨fun w' hw' => ?_, ?_⟩
                 · (obtain ⟨k0, k1, k2, k3, k4, k5, k6, k7, k8, k9, kD⟩ := key2 w' hw'; go_simp; first | done | rfl | with_reducible exact dab _ hw')
                 go_simp
                 refine HK.out _ ?_
                 clear HK K)
              | (refine (if_neg ?_).mpr ?_
                 · (simp [go_sem]; done)
                 go_simp
                 refine HK.out _ ?_
                 clear HK K)
          refine wpQuiet_nil ?_
          intro w9 hw9
          go_wp2
          go_ret
          exact ⟨rfl, HDB.out _ hw9⟩
end Go.Proofs.YtmcianehedhfeaaDoor
