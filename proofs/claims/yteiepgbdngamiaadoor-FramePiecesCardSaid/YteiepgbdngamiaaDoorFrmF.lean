/- The document's frame: Unstuff. -/
import Derived.Test.YteiepgbdngamiaaDoorFrmE
set_option linter.unusedVariables false
set_option linter.unusedSimpArgs false
namespace Go.Proofs.YteiepgbdngamiaaDoor
open Go.RowKit
def UI (s o : List UInt8) (f i : Nat) : Prop := f ≤ i ∧ i ≤ s.length ∧ unst o (pre ((s.drop f).take (i - f)) (lns (s.drop i))) = unst [] (lns s) ∧ o.length ≤ f
def UJ (s o : List UInt8) (f i : Nat) : Prop := UI s o f i ∨ (f = i + 1 ∧ (∃ h : i < s.length, s[i] = 10) ∧ UI s o f f)
theorem UJ.start (s : List UInt8) : UJ s [] 0 0 := .inl ⟨Nat.le_refl _, Nat.zero_le _, by simp [pre_nil (lns_ne s)], Nat.le_refl _⟩
theorem UI.miss {s o : List UInt8} {f i : Nat} (h : UI s o f i) (hi : i + 1 < s.length) (h1 : ¬ (s[i] = 13 ∧ s[i + 1] = 10)) : UI s o f (i + 1) := by
  obtain ⟨a, b, c, d⟩ := h
  refine ⟨by omega, by omega, ?_, d⟩
  have hd : s.drop i = s[i] :: s.drop (i + 1) := List.drop_eq_getElem_cons (by omega)
  have hd2 : s.drop (i + 1) = s[i + 1] :: s.drop (i + 1 + 1) := List.drop_eq_getElem_cons hi
  rw [hd, lns_cons (by rw [hd2]; intro t e; injection e with e1 e2; injection e2 with e2 _; exact h1 ⟨e1, e2⟩), pre_cons (lns_ne _)] at c
  rw [← c]
  congr 2
  rw [show i + 1 - f = (i - f) + 1 by omega, List.take_succ_eq_append_getElem (by rw [List.length_drop]; omega)]
  congr 1
  rw [List.getElem_drop]
  congr 2
  omega
theorem UJ.fle {s o : List UInt8} {f i : Nat} (h : UJ s o f i) : f ≤ s.length ∧ i ≤ s.length ∧ o.length ≤ f := by
  rcases h with h | ⟨e, ⟨hi, _⟩, h⟩
  · exact ⟨Nat.le_trans h.1 h.2.1, h.2.1, h.2.2.2⟩
  · exact ⟨h.2.1, by omega, h.2.2.2⟩
theorem UJ.at13 {s o : List UInt8} {f i : Nat} (h : UJ s o f i) (hi : i < s.length) (h1 : s[i] = 13) : UI s o f i := by
  rcases h with h | ⟨e, ⟨hi', h2⟩, h⟩
  · exact h
  · rw [h1] at h2; exact absurd h2 (by decide)
theorem UJ.miss {s o : List UInt8} {f i : Nat} (h : UJ s o f i) (hi : i + 1 < s.length) (h1 : ¬ (s[i] = 13 ∧ s[i + 1] = 10)) : UJ s o f (i + 1) := by
  rcases h with h | ⟨e, _, h⟩
  · exact .inl (h.miss hi h1)
  · subst e; exact .inl h
theorem UI.line {s o : List UInt8} {f i : Nat} (h : UI s o f i) (hi : i + 1 < s.length) (h1 : s[i] = 13) (h2 : s[i + 1] = 10) : unst [] (lns s) = unst o ((s.drop f).take (i - f) :: lns (s.drop (i + 2))) := by
  obtain ⟨a, b, c, d⟩ := h
  rw [← c, drop_two hi, h1, h2, lns]
  simp [pre]
theorem UI.next {s o : List UInt8} {f i : Nat} (h : UI s o f i) (hi : i + 1 < s.length) (h1 : s[i] = 13) (h2 : s[i + 1] = 10) (h3 : (s.drop f).take (i - f) ≠ [46]) (h4 : ¬ (((s.drop f).take (i - f)).head? = some 46 ∧ ((s.drop f).take (i - f))[1]? ≠ some 46)) :
    UJ s (o ++ undot ((s.drop f).take (i - f)) ++ [13, 10]) (i + 2) (i + 1) := by
  have hl := h.line hi h1 h2
  rw [unst_go _ _ _ h3 h4] at hl
  refine .inr ⟨rfl, ⟨hi, h2⟩, Nat.le_refl _, by omega, ?_, ?_⟩
  · rw [Nat.sub_self, List.take_zero, pre_nil (lns_ne _)]; exact hl.symm
  · have := undot_len ((s.drop f).take (i - f))
    have h5 : ((s.drop f).take (i - f)).length ≤ i - f := List.length_take_le _ _
    have := h.2.2.2
    have := h.1
    simp only [List.length_append, List.length_cons, List.length_nil]; omega
theorem UJ.last {s o : List UInt8} {f i : Nat} (h : UJ s o f i) (hi : s.length ≤ i + 1) : unst [] (lns s) = none := by
  have key : ∀ j, UI s o f j → s.length ≤ j + 1 → unst [] (lns s) = none := fun j hj hl => by
    obtain ⟨a, b, c, d⟩ := hj
    rw [← c]
    have h1 : (s.drop j).length ≤ 1 := by rw [List.length_drop]; omega
    have hln : lns (s.drop j) = [s.drop j] := by
      generalize s.drop j = t at *
      match t, h1 with
      | [], _ => rfl
      | [c], _ => simp [lns_cons (r := []) (c := c) (by intro t e; cases e), lns, consH]
    rw [hln]; rfl
  rcases h with h | ⟨e, _, h⟩
  · exact key i h hi
  · exact key f h (by omega)
theorem un_line (x : ByteArray) : x.data.toList = [46] ∨ (x.data.toList ≠ [46] ∧ ((x.size = 0 ∨ ∃ h : 0 < x.size, x[0] ≠ 46) ∧ x.data.toList.head? ≠ some 46 ∧ undot x.data.toList = x.data.toList)) ∨
    (x.data.toList ≠ [46] ∧ ∃ h : 1 < x.size, x[0] = 46 ∧ x.data.toList.head? = some 46 ∧ x.data.toList[1]? = some x[1] ∧ undot x.data.toList = (x.extract 1 x.size).data.toList) := by
  have hsz := bsize x
  by_cases h1 : x.data.toList = [46]
  · exact .inl h1
  · right
    rcases undot_cases x.data.toList with ⟨hh, hu⟩ | ⟨hh, hu⟩
    · left
      refine ⟨h1, ?_, hh, hu⟩
      rcases Nat.eq_zero_or_pos x.size with h0 | h0
      · exact .inl h0
      · exact .inr ⟨h0, fun e => hh ((head_46 x).2 ⟨h0, e⟩)⟩
    · right
      obtain ⟨h0, e0⟩ := (head_46 x).1 hh
      have h2 : 1 < x.size := by
        rcases Nat.lt_or_ge 1 x.size with h | h
        · exact h
        · exfalso
          have hl := congrArg List.length hu
          rw [hsz, List.length_cons] at hl
          have : undot x.data.toList = [] := List.eq_nil_of_length_eq_zero (by omega)
          rw [this] at hu
          exact h1 hu
      refine ⟨h1, h2, e0, hh, by rw [List.getElem?_eq_getElem (by omega)]; rfl, ?_⟩
      rw [ext_list, List.take_of_length_le (by rw [List.length_drop]; omega)]
      unfold undot
      rw [if_pos hh]
set_option maxRecDepth 100000 in
set_option maxHeartbeats 4000000 in
theorem refunstuff_any (s : ByteArray) (w : World) (hs : s.size ≤ 1000000) :
    Calls Tryd.prog 22 #[.string s] w (UnPost s.data.toList w) := by
  have hsz := bsize s
  go_enter Tryd.func22, Tryd.ntmps22
  go_wp2
  go_loopw [5, 6, 7] (fun v f i wr => ∃ (o : List UInt8) (fr k : Nat), f = .int .i64 fr ∧ i = .int .i64 k ∧ RS w wr v o ∧ UJ s.data.toList o fr k) (fun _ _ i _ => s.size - (intOf i).toNat)
  case atStart => exact ⟨[], 0, 0, rfl, rfl, ⟨BS.nil _ _, Below.refl _ _⟩, UJ.start _⟩
  case round =>
    obtain ⟨o, fr, k, rfl, rfl, hrs, hI⟩ := hrel
    obtain ⟨hI1, hI2, hI3⟩ := hI.fle
    have HRS := Lib.hid hrs
    have HI := Lib.hid hI
    have HSZ := Lib.hid hsz
    have hwsz := hrs.low.size
    rw [hsz] at hI1 hI2
    have hk0 : (0 : Int) ≤ k := by omega
    have hfr0 : (0 : Int) ≤ fr := by omega
    have hks : (k : Int) ≤ s.size := by omega
    have hfs : (fr : Int) ≤ s.size := by omega
    have hcv := fun n => (hrs.own.drewN n).conv
    clear hrs hI
    by_cases hlt : k + 1 < s.size
    · have hkl : k + 1 < s.data.toList.length := by omega
      have hkk : k < s.size := by omega
      have hk1 : (k : Int) + 1 < s.size := by omega
      by_cases h13 : s[k] = 13
      · obtain ⟨-, t1⟩ := u8T (n := 13) h13 rfl
        by_cases h10 : s[k + 1] = 10
        · obtain ⟨-, t2⟩ := u8T (n := 10) h10 rfl
          have hI4 := HI.out.at13 (by omega) h13
          have hfrk : (fr : Int) ≤ k := by have := hI4.1; omega
          have hline := hI4.line hkl h13 h10
          have hnext := hI4.next hkl h13 h10
          have hex : (s.data.toList.drop fr).take (k - fr) = (s.extract fr k).data.toList := (ext_list s fr k).symm
          rw [hex] at hline hnext
          have hxk : (s.extract fr k).size ≤ s.size := by
            have := bsize (s.extract fr k)
            rw [← this, ← hex]
            refine Nat.le_trans (List.length_take_le _ _) (by omega)
          have hJ := joinC_lns (s.data.toList.drop (k + 2))
          have hdr : s.data.toList.drop (k + 2) = (s.extract (k + 2) s.size).data.toList := by rw [ext_list, List.take_of_length_le]; rw [List.length_drop, HSZ.out]; omega
          have HLINE := Lib.hid hline
          have HNEXT := Lib.hid hnext
          have HJ : Hid (joinC (lns (s.data.toList.drop (k + 2))) = (s.extract (k + 2) s.size).data.toList) := by unfold Hid; rw [hJ, hdr]
          clear h13 h10 hI4 hline hnext hex hJ hdr
          generalize hxx : s.extract fr k = x at *
          have hul := un_line x
          rcases hul with hx | ⟨hx, hd, hh, hu⟩ | ⟨hx, h2, e0, hh, e1, hu⟩
          · have heq : (x.toList == [46]) = true := by rw [Lib.toList_data, hx]; rfl
            have HN : Hid (unT s.data.toList = o ∧ unR s.data.toList = (s.extract (k + 2) s.size).data.toList ∧ unC s.data.toList = 0) := by
              have h := HLINE.out
              rw [hx, unst_end] at h
              have h2 := un_some h
              rw [HJ.out] at h2; exact h2
            have wa : IntKind.i64.wrap ((k : Int) + 2) = (k : Int) + 2 := IntWalk.i64_in _ (by omega)
            have pa : 0 ≤ (k : Int) + 2 := by omega
            have pb : (k : Int) + 2 ≤ s.size := by omega
            have na : ((k : Int) + 2).toNat = k + 2 := by omega
            clear hx
            go_wp2
            go_quiet (fail)
            go_wp2
            go_ret3
            exact ⟨ret_un HN.out, Below.drewN' HRS.out.low _⟩
          · have heq : (x.toList == [46]) = false := by rw [Lib.toList_data]; exact beq_false_of_ne hx
            have HG := Lib.hid (HNEXT.out hx (fun e => hh e.1))
            have HU := Lib.hid hu
            have HXL := Lib.hid (bsize x)
            rcases (show ((x.size : Int) ≤ 0) ∨ ∃ h0 : 0 < x.size, (0 : Int) < x.size ∧ ((x[0].toNat : Int) == 46) = false by
                rcases hd with h | ⟨h, e⟩
                · exact .inl (by omega)
                · exact .inr ⟨h, by omega, (u8F (d := 46) e rfl).1⟩) with hx0 | ⟨h0, hx0, t3⟩
            all_goals
              clear hx hd hh hu
              go_wp2_with (at_builtin; refine wp_apps rfl (.tmp 53) (.tmp 54) rfl w.heap.size _ o rfl HRS.out.own x rfl (by omega) hwsz ?_)
              intro v3 w3 hown3 hc3
              have HRS3 := Lib.hid (HRS.out.app hown3 hc3)
              have hwsz3 := HRS3.out.low.size
              clear hown3 hc3 HRS hcv
              go_wp2_with (at_builtin; refine wp_app rfl (.tmp 56) (.tmp 57) rfl w.heap.size _ _ rfl (HRS3.out.own.alloc _) ⟨w3.heap.size, 0, none⟩ 2 2 [13, 10] rfl rfl (fun i hi => new2 w3 _ _ i hi) (by have := HXL.out; simp; omega) (by simp; omega) ?_)
              intro v4 w4 hown4 hc4
              have HRS4 : Hid (RS w w4 v4 (o ++ undot x.data.toList ++ [13, 10])) := by
                have h := HRS3.out.app hown4 (((Chg.refl _ _ _).alloc hwsz3 _).trans hc4)
                unfold Hid
                rw [HU.out]
                simpa using h
              clear hown4 hc4 HRS3
              go_wp2
              go_roundw
              case rel => exact ⟨_, k + 2, k + 1, by go_num, by go_num, HRS4.out, HG.out⟩
              case measure => simp [intOf]; omega
          · have heq : (x.toList == [46]) = false := by rw [Lib.toList_data]; exact beq_false_of_ne hx
            obtain ⟨t3, -⟩ := u8T (n := 46) e0 rfl
            have hx0 : (0 : Int) < x.size := by omega
            have hx1 : (1 : Int) < x.size := by omega
            have hxe : (x.extract 1 x.size).size ≤ x.size := by rw [ByteArray.size_extract]; omega
            by_cases hd : x[1] = 46
            · obtain ⟨-, t4⟩ := u8T (n := 46) hd rfl
              have HG := Lib.hid (HNEXT.out hx (fun e => e.2 (by rw [e1, hd])))
              have HU := Lib.hid hu
              have HXL := Lib.hid (bsize (x.extract 1 x.size))
              clear hx hd hh hu e0 e1
              go_wp2_with (at_builtin; refine wp_apps rfl (.tmp 53) (.tmp 54) rfl w.heap.size _ o rfl HRS.out.own (x.extract 1 x.size) rfl (by omega) hwsz ?_)
              intro v3 w3 hown3 hc3
              have HRS3 := Lib.hid (HRS.out.app hown3 hc3)
              have hwsz3 := HRS3.out.low.size
              clear hown3 hc3 HRS hcv
              go_wp2_with (at_builtin; refine wp_app rfl (.tmp 56) (.tmp 57) rfl w.heap.size _ _ rfl (HRS3.out.own.alloc _) ⟨w3.heap.size, 0, none⟩ 2 2 [13, 10] rfl rfl (fun i hi => new2 w3 _ _ i hi) (by have := HXL.out; simp; omega) (by simp; omega) ?_)
              intro v4 w4 hown4 hc4
              have HRS4 : Hid (RS w w4 v4 (o ++ undot x.data.toList ++ [13, 10])) := by
                have h := HRS3.out.app hown4 (((Chg.refl _ _ _).alloc hwsz3 _).trans hc4)
                unfold Hid
                rw [HU.out]
                simpa using h
              clear hown4 hc4 HRS3
              go_wp2
              go_roundw
              case rel => exact ⟨_, k + 2, k + 1, by go_num, by go_num, HRS4.out, HG.out⟩
              case measure => simp [intOf]; omega
            · obtain ⟨-, t4⟩ := u8F (n := 46) hd rfl
              have HN : Hid (unT s.data.toList = [] ∧ unR s.data.toList = [] ∧ unC s.data.toList = 2) := un_none (by rw [HLINE.out]; exact unst_bad _ _ _ hx ⟨hh, by rw [e1]; intro e; exact hd (Option.some.inj e)⟩)
              clear hx hd hh hu e0 e1
              go_wp2
              go_ret3
              exact ⟨ret_un HN.out, HRS.out.low⟩
        · obtain ⟨-, t2⟩ := u8F (n := 10) h10 rfl
          have HN := Lib.hid (HI.out.miss hkl (fun h => h10 h.2))
          clear h13 h10
          go_wp2
          go_roundw
          case rel => exact ⟨o, fr, k + 1, rfl, by go_num, HRS.out, HN.out⟩
          case measure => simp [intOf]; omega
      · obtain ⟨-, t1⟩ := u8F (n := 13) h13 rfl
        have HN := Lib.hid (HI.out.miss hkl (fun h => h13 h.1))
        clear h13
        go_wp2
        go_roundw
        case rel => exact ⟨o, fr, k + 1, rfl, by go_num, HRS.out, HN.out⟩
        case measure => simp [intOf]; omega
    · have hk1 : (s.size : Int) ≤ k + 1 := by omega
      have HN := Lib.hid (un_none (HI.out.last (by omega)))
      go_wp2
      go_ret3
      exact ⟨ret_un HN.out, HRS.out.low⟩
end Go.Proofs.YteiepgbdngamiaaDoor
