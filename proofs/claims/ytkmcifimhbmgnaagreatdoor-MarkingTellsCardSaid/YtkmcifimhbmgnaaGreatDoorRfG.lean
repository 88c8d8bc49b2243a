/- The document's marking: Read, Check. -/
import Derived.Test.YtkmcifimhbmgnaaGreatDoorRfF
import Derived.Deep.DeepCutAuto
set_option linter.unusedVariables false
set_option linter.unusedSimpArgs false
namespace Go.Proofs.YtkmcifimhbmgnaaGreatDoor
open Go.RowKit
/-- Till i no end was found. -/
def NoEnd (t : Bs) (i : Nat) : Prop := Lib.index t [13, 10] = if Lib.index (t.drop i) [13, 10] = -1 then -1 else (i : Int) + Lib.index (t.drop i) [13, 10]
theorem NoEnd.zero (t : Bs) : NoEnd t 0 := by
  unfold NoEnd
  rw [List.drop_zero]
  split
  · assumption
  · omega
theorem NoEnd.next {t : Bs} {i : Nat} (h : NoEnd t i) (hi : i + 1 < t.length) (hn : ¬ (t[i] = 13 ∧ t[i + 1] = 10)) : NoEnd t (i + 1) := by
  unfold NoEnd at h ⊢
  rw [h]
  have hd : t.drop i = t[i] :: t.drop (i + 1) := List.drop_eq_getElem_cons (by omega)
  have hd2 : t.drop (i + 1) = t[i + 1] :: t.drop (i + 1 + 1) := List.drop_eq_getElem_cons hi
  have hp : ([13, 10] : Bs).isPrefixOf (t.drop i) = false := by
    rw [hd]
    exact prefix_no (by rw [hd2]; intro r e; injection e with e1 e2; injection e2 with e2 _; exact hn ⟨e1, e2⟩)
  have hx := index_cons t[i] (t.drop (i + 1))
  rw [← hd, hp] at hx
  simp only [Bool.false_eq_true, if_false] at hx
  have hge := index_ge1 (t.drop (i + 1))
  by_cases hm : Lib.index (t.drop (i + 1)) [13, 10] = -1
  · rw [if_pos (by rw [hm]; rfl)] at hx
    rw [if_pos hx, if_pos hm]
  · rw [if_neg (by rw [beq_iff_eq]; exact hm)] at hx
    rw [if_neg (by omega), if_neg hm, hx]; omega
theorem NoEnd.hit {t : Bs} {i : Nat} (h : NoEnd t i) (hi : i + 1 < t.length) (h1 : t[i] = 13) (h2 : t[i + 1] = 10) : mLine t = t.take i ∧ mRest t = t.drop (i + 2) := by
  have hd : t.drop i = 13 :: 10 :: t.drop (i + 2) := by rw [drop_two hi, h1, h2]
  have hx : Lib.index (t.drop i) [13, 10] = 0 := by rw [hd, index_cons, if_pos (by simp [List.isPrefixOf])]
  have hI : Lib.index t [13, 10] = (i : Int) := by unfold NoEnd at h; rw [h, hx, if_neg (by decide)]; omega
  unfold mLine mRest Lib.cut
  rw [hI, if_pos (by omega)]
  exact ⟨rfl, rfl⟩
theorem NoEnd.none {t : Bs} {i : Nat} (h : NoEnd t i) (hi : t.length ≤ i + 1) : mLine t = t ∧ mRest t = [] := by
  have hx : Lib.index (t.drop i) [13, 10] = -1 := by
    have hl : (t.drop i).length ≤ 1 := by rw [List.length_drop]; omega
    generalize t.drop i = r at *
    match r, hl with
    | [], _ => rfl
    | [c], _ => rw [index_cons, prefix_no (by intro t e; cases e)]; rfl
  have hI : Lib.index t [13, 10] = -1 := by unfold NoEnd at h; rw [h, if_pos hx]
  unfold mLine mRest Lib.cut
  rw [hI, if_neg (by decide)]
  exact ⟨rfl, rfl⟩
theorem pre_word (l : Bs) : Lib.hasPrefix l mword = (decide (6 ≤ l.length) && (l.take 6 == mword)) := by
  unfold Lib.hasPrefix
  rw [Bool.eq_iff_iff, List.isPrefixOf_iff_prefix, List.prefix_iff_eq_take, Bool.and_eq_true, decide_eq_true_iff, beq_iff_eq]
  have e : mword.length = 6 := rfl
  rw [e]
  constructor
  · intro h
    have := congrArg List.length h
    rw [List.length_take, e] at this
    exact ⟨by omega, h.symm⟩
  · exact fun h => h.2.symm
set_option maxRecDepth 100000 in
set_option maxHeartbeats 8000000 in
theorem rread_any (v1 v2 : Value) (lv cp : List ByteArray) (s : ByteArray) (w : World) (h1 : SlIn w v1 lv) (h2 : SlIn w v2 cp) (hml : lv.length ≤ 9223372036854775807 ∧ cp.length ≤ 9223372036854775807) (hz : ∀ x ∈ lv ++ cp, x.size ≤ 9223372036854775807) (hs : s.size ≤ 100000) :
    Calls Tryz.prog 11 #[.agg #[v1, v2], .string s] w fun e w' => e = .returned (.tuple #[labV (rdF (nms lv) (nms cp) s.data.toList).1 (rdF (nms lv) (nms cp) s.data.toList).2.1, .string ⟨(rdF (nms lv) (nms cp) s.data.toList).2.2.1.toArray⟩, .int .i64 (rdF (nms lv) (nms cp) s.data.toList).2.2.2]) ∧ Below w.heap.size w w' := by
  unfold labV
  obtain ⟨A, c, rfl, hA, hA0⟩ := id h1
  obtain ⟨B, q, rfl, hB, hB0⟩ := id h2
  have HIN := Lib.hid (And.intro hA (And.intro hB (And.intro h1 h2)))
  have HML := Lib.hid hml
  have HZ := Lib.hid hz
  clear hA hB hA0 hB0 h1 h2 hz
  generalize hn : lv.length = n at *
  generalize hk : cp.length = k at *
  obtain ⟨hnm, hkm⟩ := hml
  have HNK := Lib.hid (And.intro hn hk)
  have hn0 : (0 : Int) ≤ (n : Int) := by omega
  have hk0 : (0 : Int) ≤ (k : Int) := by omega
  clear hn hk
  obtain ⟨R, hR⟩ : ∃ R, R = rdF (nms lv) (nms cp) s.data.toList := ⟨_, rfl⟩
  rw [← hR]
  unfold rdF at hR
  have hbx := And.intro (heap_alloc2_old w (.cells #[.slice A n c, .slice B k q] 24 (0, 0)) (.cells #[.int .i64 0, .int .u64 0] 27 (0, 0))) (heap_alloc2_new w (.cells #[.slice A n c, .slice B k q] 24 (0, 0)) (.cells #[.int .i64 0, .int .u64 0] 27 (0, 0)))
  have hb3 := below2 w (.cells #[.slice A n c, .slice B k q] 24 (0, 0)) (.cells #[.int .i64 0, .int .u64 0] 27 (0, 0))
  go_enter Tryz.func11, Tryz.ntmps11
  go_wp2_with fail
  generalize ((w.alloc (.cells #[.slice A n c, .slice B k q] 24 (0, 0))).alloc (.cells #[.int .i64 0, .int .u64 0] 27 (0, 0))) = w1 at *
  obtain ⟨C, hCd⟩ : ∃ C : World → Prop, C = fun w3 => Hid (Below w1.heap.size w1 w3) := ⟨_, rfl⟩
  have key2 : ∀ w3, C w3 → w3.cell? ⟨w.heap.size, 0, none⟩ = some (.slice A n c) ∧ w3.cell? ⟨w.heap.size, 1, none⟩ = some (.slice B k q) ∧ w3.cell? ⟨w.heap.size + 1, 0, none⟩ = some (.int .i64 0) ∧ w3.cell? ⟨w.heap.size + 1, 1, none⟩ = some (.int .u64 0) ∧ C w3 := by
    intro w3 h
    have hb := h
    rw [hCd] at hb
    obtain ⟨x0, y0⟩ := agg_keep hbx.1 hb.out
    obtain ⟨x1, y1⟩ := agg_keep hbx.2 hb.out
    exact ⟨x0, y0, x1, y1, h⟩
  have hCs : ∀ w3, C w3 → C w3.drew := fun w3 h => by rw [hCd] at h ⊢; exact Lib.hid h.out.drew
  have hC2 : C w1 := by rw [hCd]; exact Lib.hid (Below.refl _ _)
  have hCb : ∀ w3, C w3 → Below w.heap.size w w3 := fun w3 h => by rw [hCd] at h; exact hb3.trans (h.out.mono hb3.size)
  have hCn : ∀ W W', C W → Below W.heap.size W W' → C W' := fun W W' h h' => by rw [hCd] at h ⊢; exact Lib.hid (h.out.trans (h'.mono h.out.size))
  have hCk : ∀ W o, C W → C (W.alloc o) := fun W o h => hCn W _ h ((Below.refl _ W).alloc (Nat.le_refl _) o)
  have HCK := Lib.hid hCk
  have hsl : ∀ W, C W → SlIn W (.slice A n c) lv ∧ SlIn W (.slice B k q) cp ∧ StrsIn W A n lv ∧ StrsIn W B k cp := fun W h => by have hb := hCb W h; exact ⟨HIN.out.2.2.1.below hb, HIN.out.2.2.2.below hb, HIN.out.1.below hb, HIN.out.2.1.below hb⟩
  have HSL := Lib.hid hsl
  clear hsl
  have HCB := Lib.hid hCb
  have HCN := Lib.hid hCn
  have HCS := Lib.hid hCs
  have HKY := Lib.hid key2
  have hrb : ∀ W, C W → W.heap[w.heap.size + 1]? = some (.cells #[.int .i64 0, .int .u64 0] 27 (0, 0)) := fun W h => by rw [hCd] at h; exact (h.out.block _ (lt_of_block hbx.2)).trans hbx.2
  have hst : ∀ W g i v, C W → w1.heap.size ≤ g → C (W.setCell ⟨g, i, none⟩ v) := fun W g i v h hg => by rw [hCd] at h ⊢; exact Lib.hid (h.out.setCell (p := ⟨g, i, none⟩) hg v)
  have hsz : ∀ W, C W → w1.heap.size ≤ W.heap.size := fun W h => by rw [hCd] at h; exact h.out.size
  have HRB := Lib.hid hrb
  have HST := Lib.hid hst
  have HSZ := Lib.hid hsz
  clear hrb hst hsz
  clear hCb hCn hCs hCk key2 hbx hb3 hCd
  have cR := fun W (h : C W) => (rright_any (.slice A n c) (.slice B k q) lv cp W (HSL.out W h).1 (HSL.out W h).2.1 (by rw [HNK.out.1, HNK.out.2]; exact HML.out) HZ.out).mono fun e w3 ⟨he, hb⟩ => (⟨he, HCN.out W w3 h hb⟩ : _ ∧ C w3)
  have cP := fun (z : ByteArray) (hz : z.size ≤ 100000) W (h : C W) => (rparse_any (.slice A n c) (.slice B k q) lv cp z W (HSL.out W h).1 (HSL.out W h).2.1 (by rw [HNK.out.1, HNK.out.2]; exact HML.out) HZ.out hz).mono fun e w3 ⟨he, hb⟩ => (⟨he, hb, HCN.out W w3 h hb⟩ : _ ∧ Below W.heap.size W w3 ∧ C w3)
  unfold lpP at cP
  have hs0 : (0 : Int) ≤ (s.size : Int) := by omega
  generalize latR (nms lv) (nms cp) = L at *
  have HR := Lib.hid hR
  clear hR
  refine (cR _ hC2).mono ?_
  rintro e wa ⟨rfl, hCa⟩
  clear cR hC2
  obtain ⟨a0, a1, a2, a3, aC⟩ := HKY.out _ hCa
  cases L with
  | false =>
    obtain rfl : R = (0, 0, [], 2) := HR.out
    have z0 : wa.frozen? ⟨w.heap.size + 1, 0, none⟩ = false := frozen_of_row _ _ _ _ _ (HRB.out _ hCa)
    have z1 : wa.frozen? ⟨w.heap.size + 1, 1, none⟩ = false := frozen_of_row _ _ _ _ _ (HRB.out _ hCa)
    clear cP
    go_wp2
    have hst := store_lab (HRB.out _ hCa) (.int .i64 0) (.int .u64 0)
    exact ret_lab3 rfl rfl rfl rfl hst.1 rfl ⟨rfl, Eff.below (HCB.out _ hCa) hst.2 (HCB.out _ hCa).size (fun k hk => by have : k = w.heap.size + 1 := hk; omega)⟩
  | true =>
    have HSS := Lib.hid (bsize s)
    go_upto_block 0 with fail
    clear a0 a1 a2 a3 aC
    go_cut [7, 8] (fun vl vr wx => vl = .string ⟨(mLine s.data.toList).toArray⟩ ∧ vr = .string ⟨(mRest s.data.toList).toArray⟩ ∧ C wx)
    case first =>
      go_wp2_with fail
      go_loopw [7, 8, 9] (fun vl vr i wr => ∃ j : Nat, j ≤ s.size ∧ i = .int .i64 j ∧ vl = .string s ∧ vr = .string ⟨#[]⟩ ∧ Hid (NoEnd s.data.toList j) ∧ C wr) (fun _ _ i _ => s.size - (intOf i).toNat)
      case atStart => exact ⟨0, Nat.zero_le _, rfl, rfl, rfl, Lib.hid (NoEnd.zero _), hCa⟩
      case round =>
        clear hCa
        obtain ⟨j, hj, rfl, rfl, rfl, hno, hCr⟩ := hrel
        have hj0 : (0 : Int) ≤ (j : Int) := by omega
        by_cases hlt : j + 1 < s.size
        · have hji : (j : Int) + 1 < (s.size : Int) := by omega
          have hji2 : (j : Int) < (s.size : Int) := by omega
          have hj1 : j < s.size := by omega
          have hl : j + 1 < s.data.toList.length := by rw [HSS.out]; exact hlt
          have e0 : s.data.toList[j] = s[j]'hj1 := rfl
          have e1 : s.data.toList[j + 1] = s[j + 1]'hlt := rfl
          by_cases h1 : s[j]'hj1 = 13
          · have b1 : (((s[j]'hj1).toNat : Int) == 13) = true := by rw [h1]; rfl
            by_cases h2 : s[j + 1]'hlt = 10
            · have b2 : (((s[j + 1]'hlt).toNat : Int) == 10) = true := by rw [h2]; rfl
              obtain ⟨q1, q2⟩ := hno.out.hit hl (e0.trans h1) (e1.trans h2)
              have q1' : s.extract 0 j = ⟨(mLine s.data.toList).toArray⟩ := ba_of (by rw [ext0, q1])
              have q2' : s.extract (j + 2) s.size = ⟨(mRest s.data.toList).toArray⟩ := ba_of (by rw [ext_end, q2])
              have HQ := Lib.hid (And.intro q1' q2')
              clear q1 q2 q1' q2' h1 h2 e0 e1 hl hno
              go_wp2
              go_meet
              exact ⟨by rw [← HQ.out.1], by rw [← HQ.out.2], hCr⟩
            · have b2 : (((s[j + 1]'hlt).toNat : Int) == 10) = false := by
                rw [beq_eq_false_iff_ne]; intro e
                exact h2 (UInt8.toNat_inj.1 (by have : (10 : UInt8).toNat = 10 := rfl; omega))
              have HN := Lib.hid (hno.out.next hl (fun h => h2 (e1.symm.trans h.2)))
              clear h1 h2 e0 e1 hl hno
              go_wp2
              go_roundw
              case rel => exact ⟨j + 1, by omega, by go_num, rfl, rfl, HN.out, hCr⟩
              case measure => simp [intOf]; omega
          · have b1 : (((s[j]'hj1).toNat : Int) == 13) = false := by
              rw [beq_eq_false_iff_ne]; intro e
              exact h1 (UInt8.toNat_inj.1 (by have : (13 : UInt8).toNat = 13 := rfl; omega))
            have HN := Lib.hid (hno.out.next hl (fun h => h1 (e0.symm.trans h.1)))
            clear h1 e0 e1 hl hno
            go_wp2
            go_roundw
            case rel => exact ⟨j + 1, by omega, by go_num, rfl, rfl, HN.out, hCr⟩
            case measure => simp [intOf]; omega
        · have hji : ¬ (j : Int) + 1 < (s.size : Int) := by omega
          obtain ⟨q1, q2⟩ := hno.out.none (by rw [HSS.out]; omega)
          have q1' : s = ⟨(mLine s.data.toList).toArray⟩ := ba_of q1.symm
          have HQ := Lib.hid (And.intro q1' q2)
          clear q1 q2 q1' hno
          go_wp2
          go_meet
          exact ⟨by rw [← HQ.out.1], by rw [HQ.out.2], hCr⟩
    case rest =>
      obtain ⟨rfl, rfl, hCx⟩ := hcut
      clear hCa
      have hlen := mCut_len s.data.toList
      rw [HSS.out] at hlen
      have hpw := pre_word (mLine s.data.toList)
      have hLz := lsize (mLine s.data.toList)
      have hLd : (⟨(mLine s.data.toList).toArray⟩ : ByteArray).data.toList = mLine s.data.toList := by simp
      generalize mLine s.data.toList = Lb at *
      generalize mRest s.data.toList = Rb at *
      have he0 := ext0 (⟨Lb.toArray⟩ : ByteArray) 6
      have hee := ext_end (⟨Lb.toArray⟩ : ByteArray) 6
      rw [hLd] at he0 hee
      generalize (⟨Lb.toArray⟩ : ByteArray) = LB at *
      have hRt := HR.out
      simp only [if_true] at hRt
      have hLs : LB.size ≤ 100000 := by omega
      have hL0 : (0 : Int) ≤ (LB.size : Int) := by omega
      obtain ⟨a0, a1, a2, a3, aC⟩ := HKY.out _ hCx
      have z0 : wc.frozen? ⟨w.heap.size + 1, 0, none⟩ = false := frozen_of_row _ _ _ _ _ (HRB.out _ hCx)
      have z1 : wc.frozen? ⟨w.heap.size + 1, 1, none⟩ = false := frozen_of_row _ _ _ _ _ (HRB.out _ hCx)
      by_cases h6 : (LB.size : Int) < 6
      · obtain rfl : R = (0, 0, [], 11) := hRt.trans (by rw [hpw, decide_eq_false (by omega)]; rfl)
        clear hRt hpw he0 hee hLd hLz
        go_wp2
        have hst := store_lab (HRB.out _ hCx) (.int .i64 0) (.int .u64 0)
        exact ret_lab3 rfl rfl rfl rfl hst.1 rfl ⟨rfl, Eff.below (HCB.out _ hCx) hst.2 (HCB.out _ hCx).size (fun k hk => by have : k = w.heap.size + 1 := hk; omega)⟩
      · have h6' : (6 : Int) ≤ (LB.size : Int) := by omega
        have hws : ((LB.extract 0 6).toList == [77, 65, 82, 75, 58, 32]) = (Lb.take 6 == mword) := by rw [Lib.toList_data, he0]; rfl
        cases hw : (Lb.take 6 == mword) with
        | false =>
          have q5 : ((LB.extract 0 6).toList != [77, 65, 82, 75, 58, 32]) = true := by rw [bne, hws, hw]; rfl
          have q6 := hws.trans hw
          obtain rfl : R = (0, 0, [], 11) := hRt.trans (by rw [hpw, hw, Bool.and_false]; rfl)
          clear hRt hpw he0 hee hLd hLz hws hw
          go_wp2
          have hst := store_lab (HRB.out _ hCx) (.int .i64 0) (.int .u64 0)
          exact ret_lab3 rfl rfl rfl rfl hst.1 rfl ⟨rfl, Eff.below (HCB.out _ hCx) hst.2 (HCB.out _ hCx).size (fun k hk => by have : k = w.heap.size + 1 := hk; omega)⟩
        | true =>
          have q5 : ((LB.extract 0 6).toList != [77, 65, 82, 75, 58, 32]) = false := by rw [bne, hws, hw]; rfl
          have q6 := hws.trans hw
          have hRt2 := hRt.trans (if_pos (by rw [hpw, hw, decide_eq_true (show 6 ≤ Lb.length by omega)]; rfl))
          have hz6 : (LB.extract 6 LB.size).size ≤ 100000 := by rw [← bsize, hee, List.length_drop]; omega
          have c1 := fun W (h : W.cell? ⟨w.heap.size, 0, none⟩ = some (.slice A n c) ∧ W.cell? ⟨w.heap.size, 1, none⟩ = some (.slice B k q) ∧ C W) => cP _ hz6 W h.2.2
          simp only [hee, if_true] at c1
          generalize lpF (nms lv) (nms cp) (Lb.drop 6) = P at *
          obtain ⟨px, py, pz⟩ := P
          unfold labV at c1
          dsimp only at c1 hRt2
          have HRT := Lib.hid hRt2
          have HC1 := Lib.hid c1
          have hKP : ∀ W, C W → W.cell? ⟨w.heap.size, 0, none⟩ = some (.slice A n c) ∧ W.cell? ⟨w.heap.size, 1, none⟩ = some (.slice B k q) ∧ C W := fun W h => by
            obtain ⟨x0, x1, _, _, xC⟩ := HKY.out _ h
            exact ⟨x0, x1, xC⟩
          have HKP := Lib.hid hKP
          clear hRt hRt2 hpw he0 hee hLd hLz hws hw c1 hKP cP
          go_upto_region 12 with fail
          go_cut [10, 11] (fun s10 s11 wx => ∃ p : Nat, s10 = .pointer (some ⟨p, 0, none⟩) ∧ s11 = .int .i64 pz ∧ wx.cell? ⟨p, 0, none⟩ = some (.int .i64 (px : Int)) ∧ wx.cell? ⟨p, 1, none⟩ = some (.int .u64 (py : Int)) ∧ C wx)
          case first =>
            clear a0 a1 a2 a3 aC z0 z1
            have hsC := HSZ.out _ hCx
            go_region_held3 (fun w3 => w3.cell? ⟨w.heap.size, 0, none⟩ = some (.slice A n c) ∧ w3.cell? ⟨w.heap.size, 1, none⟩ = some (.slice B k q) ∧ C w3)
              ((refine HKP.out _ ?_; repeat (first | assumption | refine HCS.out _ ?_ | refine HCK.out _ _ ?_ | refine HST.out _ _ _ _ ?_ hsC | refine HST.out _ _ _ _ ?_ (HSZ.out _ (by assumption)))))
              (first | (go_at_call 27; (with_reducible refine (HC1.out _ (by assumption)).mono ?_); rintro e w7 ⟨rfl, hb7, hC7⟩; (have hh7 := (hb7.block wc.heap.size (show _ < (wc.alloc (.cells #[.int .i64 0, .int .u64 0] 27 (0, 0))).heap.size from lt_of_block (heap_alloc_new wc _))).trans (heap_alloc_new wc (.cells #[.int .i64 0, .int .u64 0] 27 (0, 0))); have p0 : w7.cell? ⟨wc.heap.size, 0, none⟩ = some (.int .i64 0) := (by rw [cell_of_row _ _ _ _ _ _ hh7]; rfl); have p1 : w7.cell? ⟨wc.heap.size, 1, none⟩ = some (.int .u64 0) := (by rw [cell_of_row _ _ _ _ _ _ hh7]; rfl); have f0 : w7.frozen? ⟨wc.heap.size, 0, none⟩ = false := frozen_of_row _ _ _ _ _ hh7; have f1 : w7.frozen? ⟨wc.heap.size, 1, none⟩ = false := frozen_of_row _ _ _ _ _ hh7; have HH7 := Lib.hid hh7; clear hh7)) | (go_at_call 27; (with_reducible refine (HC1.out _ (by assumption)).mono ?_); rintro e w7 ⟨rfl, hb7, hC7⟩))
            all_goals (go_wp2_with fail; go_meet)
            all_goals first
              | exact ⟨_, rfl, rfl, (agg_keep (heap_alloc_new w7 _) (Below.refl _ _)).1, (agg_keep (heap_alloc_new w7 _) (Below.refl _ _)).2, HCK.out _ _ hC7⟩
              | (have hs := store_lab HH7.out (.int .i64 (px : Int)) (.int .u64 (py : Int)); exact ⟨_, rfl, rfl, by rw [cell_of_row _ _ _ _ _ _ hs.1]; rfl, by rw [cell_of_row _ _ _ _ _ _ hs.1]; rfl, HST.out _ _ _ _ (HST.out _ _ _ _ hC7 hsC) hsC⟩)
          case rest =>
            clear a0 a1 a2 a3 aC z0 z1
            obtain ⟨p, rfl, rfl, p0, p1, hCy⟩ := hcut
            obtain ⟨y0, y1, y2, y3, yC⟩ := HKY.out _ hCy
            have z0 : wc.frozen? ⟨w.heap.size + 1, 0, none⟩ = false := frozen_of_row _ _ _ _ _ (HRB.out _ hCy)
            have z1 : wc.frozen? ⟨w.heap.size + 1, 1, none⟩ = false := frozen_of_row _ _ _ _ _ (HRB.out _ hCy)
            by_cases hz : pz = 0
            · obtain rfl : R = (px, py, Rb, 0) := HRT.out.trans (if_pos hz)
              subst hz
              go_wp2
              have hst := store_lab (HRB.out _ hCy) (.int .i64 (px : Int)) (.int .u64 (py : Int))
              exact ret_lab3 rfl rfl rfl rfl hst.1 rfl ⟨rfl, Eff.below (HCB.out _ hCy) hst.2 (HCB.out _ hCy).size (fun k hk => by have : k = w.heap.size + 1 := hk; omega)⟩
            · obtain rfl : R = (0, 0, [], 11) := HRT.out.trans (if_neg hz)
              have zt : (pz != 0) = true := by simpa using hz
              have zf : (pz == 0) = false := by simpa using hz
              clear hz
              go_wp2
              have hst := store_lab (HRB.out _ hCy) (.int .i64 0) (.int .u64 0)
              exact ret_lab3 rfl rfl rfl rfl hst.1 rfl ⟨rfl, Eff.below (HCB.out _ hCy) hst.2 (HCB.out _ hCy).size (fun k hk => by have : k = w.heap.size + 1 := hk; omega)⟩
end Go.Proofs.YtkmcifimhbmgnaaGreatDoor
