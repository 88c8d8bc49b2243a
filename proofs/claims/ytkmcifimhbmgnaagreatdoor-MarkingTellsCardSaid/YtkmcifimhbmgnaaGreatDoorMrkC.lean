/- Package marking: Read, Check. -/
import Derived.Test.YtkmcifimhbmgnaaGreatDoorMrkB
import Derived.Test.YtkmcifimhbmgnaaGreatDoorLatX
set_option linter.unusedVariables false
set_option linter.unusedSimpArgs false
namespace Go.Proofs.YtkmcifimhbmgnaaGreatDoor
open Go.RowKit
theorem results_lab3 {fn : Func} {p u x : Tmp} (h : fn.results = #[.cell p 27, .tmp u, .tmp x]) (tmps : Array Value) (P : Program) (w : World) :
    (results fn tmps).run P w =
      ((asAddr (tmps.getD p undef)).run P w).andThen fun a w₁ => ((loadVar 27 a).run P w₁).andThen fun v w₂ => .ok (.tuple #[v, tmps.getD u undef, tmps.getD x undef]) w₂ := by
  simp only [results, h]
  simp [Sem.run_bind, Result.andThen]
theorem ret_lab3 {fn : Func} {R : Ending → World → Prop} {a : Act} {w : World} {p u x : Tmp} {g : Nat} {c0 c1 v y : Value} {fr : Nat × Nat} (h : fn.results = #[.cell p 27, .tmp u, .tmp x]) (hp : a.tmps.getD p undef = .pointer (some ⟨g, 0, none⟩)) (hv : a.tmps.getD u undef = v) (hy : a.tmps.getD x undef = y)
    (hg : w.heap[g]? = some (.cells #[c0, c1] 27 fr)) (hd : a.defers = []) (hR : R (.returned (.tuple #[.agg #[c0, c1], v, y])) w) : bodyPost Tryz.prog fn R .ret a w := by
  refine bodyPost_ret (v := .tuple #[.agg #[c0, c1], v, y]) ?_ hd hR
  rw [results_lab3 h, hp, hv, hy]
  simp [asAddr, run_lab hg, Result.andThen]
/-- What 'fail' tells. -/
theorem fail_any (w : World) : Calls Tryz.prog 22 #[] w fun e w' => e = .returned (.tuple #[labV 0 0, .string ⟨#[]⟩, .int .i64 11]) ∧ Below w.heap.size w w' := by
  have hb : Below w.heap.size w (w.alloc (.cells #[.int .i64 0, .int .u64 0] 27 (0, 0))) := (Below.refl _ w).alloc (Nat.le_refl _) _
  have hg := heap_alloc_new w (.cells #[.int .i64 0, .int .u64 0] 27 (0, 0))
  have HB := Lib.hid (And.intro hb hg)
  clear hb hg
  go_enter Tryz.func22, Tryz.ntmps22
  go_wp2
  exact ret_lab3 rfl rfl rfl rfl HB.out.2 rfl ⟨rfl, HB.out.1⟩
theorem trim_pre (x : Bs) (h : Lib.hasPrefix x mword = true) : Lib.trimPrefix x mword = x.drop 6 := by unfold Lib.trimPrefix; rw [if_pos h]; rfl
set_option maxRecDepth 100000 in
set_option maxHeartbeats 8000000 in
theorem read_any (v1 v2 : Value) (lv cp : List ByteArray) (t : ByteArray) (w : World) (h1 : SlIn w v1 lv) (h2 : SlIn w v2 cp) (hml : lv.length ≤ 9223372036854775807 ∧ cp.length ≤ 9223372036854775807) (ht : t.size ≤ 100000) (hmax : MaxAt w) :
    Calls Tryz.prog 10 #[.agg #[v1, v2], .string t] w fun e w' =>
      e = .returned (.tuple #[labV (rdF (nms lv) (nms cp) t.data.toList).1 (rdF (nms lv) (nms cp) t.data.toList).2.1, .string ⟨(rdF (nms lv) (nms cp) t.data.toList).2.2.1.toArray⟩, .int .i64 (rdF (nms lv) (nms cp) t.data.toList).2.2.2]) ∧ Below w.heap.size w w' := by
  obtain ⟨R, hR⟩ : ∃ R, R = rdF (nms lv) (nms cp) t.data.toList := ⟨_, rfl⟩
  rw [← hR]
  unfold rdF at hR
  have hb2 := below2 w (.cells #[v1, v2] 24 (0, 0)) (.cells #[.int .i64 0, .int .u64 0] 27 (0, 0))
  have hg1 := heap_alloc2_new w (.cells #[v1, v2] 24 (0, 0)) (.cells #[.int .i64 0, .int .u64 0] 27 (0, 0))
  have hg0 := heap_alloc2_old w (.cells #[v1, v2] 24 (0, 0)) (.cells #[.int .i64 0, .int .u64 0] 27 (0, 0))
  have c1 := right_any v1 v2 lv cp _ (h1.below hb2) (h2.below hb2) hml
  have hs1 := h1.below hb2
  have hs2 := h2.below hb2
  have hm2 := hmax.below hb2
  generalize hLR : latR (nms lv) (nms cp) = LR at *
  have HB := Lib.hid (And.intro hb2 (And.intro hg1 (And.intro hg0 (And.intro hs1 (And.intro hs2 (And.intro hm2 hLR))))))
  have HR := Lib.hid hR
  clear h1 h2 hb2 hg1 hg0 hs1 hs2 hm2 hLR hmax hR
  go_enter Tryz.func10, Tryz.ntmps10
  go_wp2_with fail
  generalize (w.alloc (.cells #[v1, v2] 24 (0, 0))).alloc (.cells #[.int .i64 0, .int .u64 0] 27 (0, 0)) = w1 at *
  refine c1.mono ?_
  rintro e w2 ⟨rfl, hb⟩
  obtain ⟨hb1, hg1, hg0, hs1, hs2, hm1, hLR⟩ := HB.out
  have hg2 := (hb.block _ (lt_of_block hg1)).trans hg1
  have hbw := hb1.trans (hb.mono hb1.size)
  have r0 : w2.cell? ⟨w.heap.size + 1, 0, none⟩ = some (.int .i64 0) := by rw [cell_of_row _ _ _ _ _ _ hg2]; rfl
  have r1 : w2.cell? ⟨w.heap.size + 1, 1, none⟩ = some (.int .u64 0) := by rw [cell_of_row _ _ _ _ _ _ hg2]; rfl
  have z0 : w2.frozen? ⟨w.heap.size + 1, 0, none⟩ = false := frozen_of_row _ _ _ _ _ hg2
  have z1 : w2.frozen? ⟨w.heap.size + 1, 1, none⟩ = false := frozen_of_row _ _ _ _ _ hg2
  cases LR with
  | false =>
    have hR0 : R = (0, 0, [], 2) := HR.out
    subst hR0
    have HG := Lib.hid (And.intro hbw hg2)
    clear hb hb1 hg1 hg0 hs1 hs2 hm1 hLR hg2 hbw c1 HB HR
    go_wp2
    have hst := store_lab HG.out.2 (.int .i64 0) (.int .u64 0)
    exact ret_lab3 rfl rfl rfl rfl hst.1 rfl ⟨rfl, Eff.below HG.out.1 hst.2 HG.out.1.size (fun k hk => by have : k = w.heap.size + 1 := hk; omega)⟩
  | true =>
    have hok := (latR_iff _ _).1 hLR
    have hRt := HR.out
    simp only [if_true] at hRt
    obtain ⟨mx, hmx⟩ := hm1.below hb
    have c2 := Tryz.strings_Cut t ⟨#[13, 10]⟩ mx w2 (by omega) hmx
    rw [show (⟨#[13, 10]⟩ : ByteArray).data.toList = [13, 10] from rfl, show (Lib.cut t.data.toList [13, 10]).1 = mLine t.data.toList from rfl, show (Lib.cut t.data.toList [13, 10]).2.1 = mRest t.data.toList from rfl] at c2
    have hcl := mCut_len t.data.toList
    rw [bsize] at hcl
    generalize mLine t.data.toList = X at *
    generalize mRest t.data.toList = Y at *
    generalize (Lib.cut t.data.toList [13, 10]).2.2 = fd at *
    have HG := Lib.hid (And.intro hbw (And.intro hg2 (And.intro (hs1.below hb) (And.intro (hs2.below hb) (And.intro (hm1.below hb) ((hb.block _ (lt_of_block hg0)).trans hg0))))))
    have HRT := Lib.hid hRt
    have c3 := fun nd => Tryz.strings_CutPrefix ⟨X.toArray⟩ ⟨#[77, 65, 82, 75, 58, 32]⟩ (w2.drewN nd)
    rw [show (⟨#[77, 65, 82, 75, 58, 32]⟩ : ByteArray).data.toList = mword from rfl, show (⟨X.toArray⟩ : ByteArray).data.toList = X by simp] at c3
    clear hb hb1 hg1 hg0 hs1 hs2 hm1 hLR hg2 hbw c1 HB HR hmx hRt
    go_wp2_with fail
    refine c2.mono ?_
    rintro e w3 ⟨rfl, nd, rfl⟩
    clear c2
    go_wp2_with fail
    refine (c3 nd).mono ?_
    rintro e w3' ⟨rfl, rfl⟩
    clear c3
    have HG3 : Below w.heap.size w (w2.drewN nd) ∧ (w2.drewN nd).heap[w.heap.size + 1]? = some (.cells #[.int .i64 0, .int .u64 0] 27 (0, 0)) ∧ SlIn (w2.drewN nd) v1 lv ∧ SlIn (w2.drewN nd) v2 cp ∧ MaxAt (w2.drewN nd) ∧ (w2.drewN nd).heap[w.heap.size]? = some (.cells #[v1, v2] 24 (0, 0)) :=
      ⟨Below.drewN' HG.out.1 nd, HG.out.2.1, HG.out.2.2.1.below (Below.drewN' (Below.refl _ w2) nd), HG.out.2.2.2.1.below (Below.drewN' (Below.refl _ w2) nd), HG.out.2.2.2.2.1, HG.out.2.2.2.2.2⟩
    clear HG r0 r1 z0 z1
    generalize w2.drewN nd = w3 at *
    have r0 : w3.cell? ⟨w.heap.size + 1, 0, none⟩ = some (.int .i64 0) := by rw [cell_of_row _ _ _ _ _ _ HG3.2.1]; rfl
    have r1 : w3.cell? ⟨w.heap.size + 1, 1, none⟩ = some (.int .u64 0) := by rw [cell_of_row _ _ _ _ _ _ HG3.2.1]; rfl
    have l0 : w3.cell? ⟨w.heap.size, 0, none⟩ = some v1 := by rw [cell_of_row _ _ _ _ _ _ HG3.2.2.2.2.2]; rfl
    have l1 : w3.cell? ⟨w.heap.size, 1, none⟩ = some v2 := by rw [cell_of_row _ _ _ _ _ _ HG3.2.2.2.2.2]; rfl
    have z0 : w3.frozen? ⟨w.heap.size + 1, 0, none⟩ = false := frozen_of_row _ _ _ _ _ HG3.2.1
    have z1 : w3.frozen? ⟨w.heap.size + 1, 1, none⟩ = false := frozen_of_row _ _ _ _ _ HG3.2.1
    have HG := Lib.hid HG3
    clear HG3
    -- the way out
    have out : ∀ W, Hid (Below w.heap.size w W ∧ W.heap[w.heap.size + 1]? = some (.cells #[.int .i64 0, .int .u64 0] 27 (0, 0))) → Calls Tryz.prog 22 #[] W fun e w' => e = .returned (.tuple #[.agg #[.int .i64 0, .int .u64 0], .string ⟨#[]⟩, .int .i64 11]) ∧ (w'.cell? ⟨w.heap.size + 1, 0, none⟩ = some (.int .i64 0) ∧ w'.cell? ⟨w.heap.size + 1, 1, none⟩ = some (.int .u64 0) ∧ w'.frozen? ⟨w.heap.size + 1, 0, none⟩ = false ∧ w'.frozen? ⟨w.heap.size + 1, 1, none⟩ = false) ∧ Hid (Below w.heap.size w w' ∧ w'.heap[w.heap.size + 1]? = some (.cells #[.int .i64 0, .int .u64 0] 27 (0, 0))) := fun W h =>
      (fail_any W).mono fun e w' ⟨he, hb⟩ => by
        have h2 := (hb.block _ (lt_of_block h.out.2)).trans h.out.2
        exact ⟨he, ⟨by rw [cell_of_row _ _ _ _ _ _ h2]; rfl, by rw [cell_of_row _ _ _ _ _ _ h2]; rfl, frozen_of_row _ _ _ _ _ h2, frozen_of_row _ _ _ _ _ h2⟩, Lib.hid ⟨h.out.1.trans (hb.mono h.out.1.size), h2⟩⟩
    have OUT := Lib.hid out
    clear out
    cases hp : Lib.hasPrefix X mword with
    | false =>
      have hR0 : R = (0, 0, [], 11) := by have := HRT.out; rw [hp] at this; exact this
      subst hR0
      generalize Lib.trimPrefix X mword = TP at *
      have o1 := OUT.out w3 (Lib.hid ⟨HG.out.1, HG.out.2.1⟩)
      clear hp HRT HG OUT r0 r1 z0 z1 l0 l1
      go_wp2_with fail
      refine o1.mono ?_
      rintro e w4 ⟨rfl, ⟨r0, r1, z0, z1⟩, hh⟩
      clear o1
      go_wp2
      have hst := store_lab hh.out.2 (.int .i64 0) (.int .u64 0)
      exact ret_lab3 rfl rfl rfl rfl hst.1 rfl ⟨rfl, Eff.below hh.out.1 hst.2 hh.out.1.size (fun k hk => by have : k = w.heap.size + 1 := hk; omega)⟩
    | true =>
      have hRt := HRT.out
      rw [hp] at hRt
      simp only [if_true] at hRt
      rw [trim_pre X hp]
      have hXd : (X.drop 6).length ≤ t.size := by rw [List.length_drop]; omega
      have hlp : lpP (nms lv) (nms cp) (X.drop 6) = lpF (nms lv) (nms cp) (X.drop 6) := by unfold lpP; rw [(latR_iff _ _).2 hok, if_pos rfl]
      have c4 := parse_any v1 v2 lv cp ⟨(X.drop 6).toArray⟩ w3 HG.out.2.2.1 HG.out.2.2.2.1 hml (by rw [lsize]; omega) HG.out.2.2.2.2.1
      rw [show (⟨(X.drop 6).toArray⟩ : ByteArray).data.toList = X.drop 6 by simp, hlp] at c4
      generalize lpF (nms lv) (nms cp) (X.drop 6) = q at *
      obtain ⟨x, y, z⟩ := q
      unfold labV at c4
      dsimp only at c4 hRt
      generalize X.drop 6 = X6 at *
      have HRT2 := Lib.hid hRt
      clear hp HRT hRt hlp hXd
      go_wp2_with fail
      refine c4.mono ?_
      rintro e w4 ⟨rfl, hb4⟩
      have hr4 := (hb4.block _ (lt_of_block HG.out.2.1)).trans HG.out.2.1
      have hba : Below w4.heap.size w4 (w4.alloc (.cells #[.int .i64 (x : Int), .int .u64 (y : Int)] 27 (0, 0))) := (Below.refl _ w4).alloc (Nat.le_refl _) _
      have ga := heap_alloc_new w4 (.cells #[.int .i64 (x : Int), .int .u64 (y : Int)] 27 (0, 0))
      have hr5 := (hba.block _ (lt_of_block hr4)).trans hr4
      have hb5 := (HG.out.1.trans (hb4.mono HG.out.1.size)).trans (hba.mono (Nat.le_trans HG.out.1.size hb4.size))
      by_cases hz : z = 0
      · have hR0 : R = (x, y, Y, 0) := HRT2.out.trans (if_pos hz)
        subst hR0
        have zt : (z != 0) = false := by rw [hz]; rfl
        have hr5c := agg_keep hr5 (Below.refl _ _)
        have gac := agg_keep ga (Below.refl _ _)
        have w0 := hr5c.1
        have w1' := hr5c.2
        have g0 := gac.1
        have g1 := gac.2
        have f0 : (w4.alloc (.cells #[.int .i64 (x : Int), .int .u64 (y : Int)] 27 (0, 0))).frozen? ⟨w.heap.size + 1, 0, none⟩ = false := frozen_of_row _ _ _ _ _ hr5
        have f1 : (w4.alloc (.cells #[.int .i64 (x : Int), .int .u64 (y : Int)] 27 (0, 0))).frozen? ⟨w.heap.size + 1, 1, none⟩ = false := frozen_of_row _ _ _ _ _ hr5
        have H5 := Lib.hid (And.intro hb5 hr5)
        clear hb4 hr4 hba ga hr5 hb5 c4 HG OUT r0 r1 z0 z1 l0 l1 HRT2 hr5c gac
        subst hz
        go_wp2
        have hst := store_lab H5.out.2 (.int .i64 (x : Int)) (.int .u64 (y : Int))
        exact ret_lab3 rfl rfl rfl rfl hst.1 rfl ⟨rfl, Eff.below H5.out.1 hst.2 H5.out.1.size (fun k hk => by have : k = w.heap.size + 1 := hk; omega)⟩
      · have hR0 : R = (0, 0, [], 11) := HRT2.out.trans (if_neg hz)
        subst hR0
        have zt : (z != 0) = true := by simpa using hz
        have zf : (z == 0) = false := by simpa using hz
        have o1 := OUT.out _ (Lib.hid ⟨hb5, hr5⟩)
        clear hb4 hr4 hba ga hr5 hb5 c4 HG OUT r0 r1 z0 z1 l0 l1 HRT2 hz
        go_wp2_with fail
        refine o1.mono ?_
        rintro e w6 ⟨rfl, ⟨r0, r1, z0, z1⟩, hh⟩
        clear o1
        go_wp2
        have hst := store_lab hh.out.2 (.int .i64 0) (.int .u64 0)
        exact ret_lab3 rfl rfl rfl rfl hst.1 rfl ⟨rfl, Eff.below hh.out.1 hst.2 hh.out.1.size (fun k hk => by have : k = w.heap.size + 1 := hk; omega)⟩
/-- What Check tells. -/
noncomputable def ckF (lv cp : List Bs) (a : Int) (m : Nat) (t : Bs) : Int :=
  if (rdF lv cp t).2.2.2 = 0 then (if domB a m (rdF lv cp t).1 (rdF lv cp t).2.1 then 0 else 8) else (rdF lv cp t).2.2.2
theorem rdF_lt {lv cp : List Bs} (t : Bs) : (rdF lv cp t).2.1 < M64 := by
  cases hL : latR lv cp with
  | false => rw [rdF_bad hL]; decide
  | true =>
    have hok := (latR_iff _ _).1 hL
    rcases rdF_inv hok t with ⟨a, m, r, _, hm, e⟩ | e
    · rw [e]; exact Nat.lt_of_lt_of_le hm (show 2 ^ cp.length ≤ 2 ^ 64 from Nat.pow_le_pow_right (by decide) hok.c64)
    · rw [e]; decide
set_option maxRecDepth 100000 in
set_option maxHeartbeats 8000000 in
theorem mcheck_any (v1 v2 : Value) (lv cp : List ByteArray) (a : Int) (m : Nat) (t : ByteArray) (w : World) (h1 : SlIn w v1 lv) (h2 : SlIn w v2 cp) (hml : lv.length ≤ 9223372036854775807 ∧ cp.length ≤ 9223372036854775807) (hm : m < M64) (ht : t.size ≤ 100000) (hmax : MaxAt w) :
    Calls Tryz.prog 14 #[.agg #[v1, v2], labV a m, .string t] w fun e w' => e = .returned (.int .i64 (ckF (nms lv) (nms cp) a m t.data.toList)) ∧ Below w.heap.size w w' := by
  have hb2 := below2 w (.cells #[v1, v2] 24 (0, 0)) (.cells #[.int .i64 a, .int .u64 (m : Int)] 27 (0, 0))
  have hg1 := heap_alloc2_new w (.cells #[v1, v2] 24 (0, 0)) (.cells #[.int .i64 a, .int .u64 (m : Int)] 27 (0, 0))
  have c1 := read_any v1 v2 lv cp t _ (h1.below hb2) (h2.below hb2) hml ht (hmax.below hb2)
  unfold ckF
  have hlt := rdF_lt (lv := nms lv) (cp := nms cp) t.data.toList
  generalize rdF (nms lv) (nms cp) t.data.toList = R at *
  obtain ⟨x, y, r, z⟩ := R
  dsimp only at hlt
  have HB := Lib.hid (And.intro hb2 hg1)
  clear h1 h2 hb2 hg1 hml hmax
  unfold labV at c1 ⊢
  dsimp only at c1 ⊢
  obtain ⟨V, hV⟩ : ∃ V : Int, V = (if z = 0 then if domB a m x y = true then 0 else 8 else z) := ⟨_, rfl⟩
  rw [← hV]
  have HV := Lib.hid hV
  clear hV
  go_enter Tryz.func14, Tryz.ntmps14
  go_wp2_with fail
  generalize (w.alloc (.cells #[v1, v2] 24 (0, 0))).alloc (.cells #[.int .i64 a, .int .u64 (m : Int)] 27 (0, 0)) = w1 at *
  refine c1.mono ?_
  rintro e w2 ⟨rfl, hb⟩
  have hba : Below w2.heap.size w2 (w2.alloc (.cells #[.int .i64 (x : Int), .int .u64 (y : Int)] 27 (0, 0))) := (Below.refl _ w2).alloc (Nat.le_refl _) _
  have ga := heap_alloc_new w2 (.cells #[.int .i64 (x : Int), .int .u64 (y : Int)] 27 (0, 0))
  have hb3 := hb.trans (hba.mono hb.size)
  obtain ⟨l0, l1⟩ := agg_keep HB.out.2 hb3
  obtain ⟨g0, g1⟩ := agg_keep ga (Below.refl _ _)
  have H3 := Lib.hid (HB.out.1.trans (hb3.mono HB.out.1.size))
  clear hb hba ga hb3 c1
  by_cases hz : z = 0
  · have hV := HV.out.trans (if_pos hz)
    subst hz
    clear HV
    have c2 := fun W => dom_any a x m y hm hlt W
    unfold labV at c2
    generalize domB a m x y = D at *
    clear hlt
    cases D with
    | true =>
      obtain rfl : V = 0 := hV
      go_wp2_with fail
      refine (c2 _).mono ?_
      rintro e w4 ⟨rfl, hb4⟩
      have H4 := Lib.hid (H3.out.trans (hb4.mono H3.out.size))
      clear hb4 c2
      go_wp2
      go_ret
      exact ⟨rfl, H4.out⟩
    | false =>
      obtain rfl : V = 8 := hV
      go_wp2_with fail
      refine (c2 _).mono ?_
      rintro e w4 ⟨rfl, hb4⟩
      have H4 := Lib.hid (H3.out.trans (hb4.mono H3.out.size))
      clear hb4 c2
      go_wp2
      go_ret
      exact ⟨rfl, H4.out⟩
  · obtain rfl : V = z := HV.out.trans (if_neg hz)
    clear HV
    have zf : (V == 0) = false := by simpa using hz
    clear hz hlt
    go_wp2
    go_ret
    exact ⟨rfl, H3.out⟩
end Go.Proofs.YtkmcifimhbmgnaaGreatDoor
