/- Package header: Parse. -/
import Derived.Test.YtdaekoapkclliaaDoorHdrK
set_option linter.unusedVariables false
set_option linter.unusedSimpArgs false
namespace Go.Proofs.YtdaekoapkclliaaDoor
open Go.RowKit
theorem SSo.cellAt {w : World} {base n cap : Nat} {ao : Option Addr} {l : List ByteArray} (h : SSo w base (.slice ao n cap) l) {j : Nat} (hj : j < l.length) : ∃ g, ao = some ⟨g, 0, none⟩ ∧ w.cell? ⟨g, j, none⟩ = some (.string l[j]) := by
  obtain ⟨g, cap', hv, _, hs⟩ := SSo.strs h (by omega)
  obtain ⟨rfl, rfl, rfl⟩ := Value.slice.inj hv
  exact ⟨g, rfl, hs.cell j hj⟩
theorem bss_at {l : List ByteArray} {j : Nat} (h : j < l.length) : (bss l)[j]'(by rw [bss_len]; exact h) = l[j].data.toList := by simp [bss]
theorem head_any (l : ByteArray) (h : l.data.toList ≠ []) : (l.extract 0 1).data.toList.any isBl = isBl (l.data.toList.headD 0) := by
  rw [ext_list]
  cases hl : l.data.toList with
  | nil => exact absurd hl h
  | cons a b => simp
def ParseP (s : Bs) (w : World) (e : Ending) (w' : World) : Prop :=
  ∃ (fs : List Fld) (A : Option Addr) (n c : Nat), fds fs = (paF s).1 ∧ FldsIn w' A n fs ∧ Small fs ∧ fs.length ≤ 64 ∧ e = .returned (.tuple #[.slice A n c, .string ⟨(paF s).2.1.toArray⟩, .int .i64 (paF s).2.2]) ∧ Below w.heap.size w w'
theorem ParseP.bad {s : Bs} {w w' : World} {k : Int} (h : paF s = ([], [], k)) (hb : Below w.heap.size w w') : ParseP s w (.returned (.tuple #[.slice none 0 0, .string ⟨#[]⟩, .int .i64 k])) w' :=
  ⟨[], none, 0, 0, by rw [h]; rfl, ⟨rfl, by omega, fun h => absurd h (by omega)⟩, fun f hf => (by cases hf), by simp, by rw [h], hb⟩
theorem mem_len {x : Bs} {l : List Bs} (h : x ∈ l) : x.length ≤ l.flatten.length := (List.sublist_flatten_of_mem h).length_le
theorem trB_len (b : Bs) : (trB b).length ≤ b.length := by
  unfold trB Lib.trimS Lib.trimLeftS Lib.trimRightS
  refine Nat.le_trans (List.dropWhile_suffix _).length_le ?_
  rw [List.length_reverse]
  refine Nat.le_trans (List.dropWhile_suffix _).length_le ?_
  rw [List.length_reverse]; exact Nat.le_refl _
theorem fieldOf_no {w : Bs} (h : (Lib.cut w [58]).2.2 = false) : fieldOf w = none := by unfold fieldOf; rw [h, if_neg (by simp)]
theorem fieldOf_bad {w : Bs} (h : rtF (Lib.cut w [58]).1 (trB (Lib.cut w [58]).2.1) = false) : fieldOf w = none := by unfold fieldOf; rw [h, if_neg (by simp)]
theorem fieldOf_ok {w : Bs} (h : (Lib.cut w [58]).2.2 = true) (h2 : rtF (Lib.cut w [58]).1 (trB (Lib.cut w [58]).2.1) = true) : fieldOf w = some ((Lib.cut w [58]).1, trB (Lib.cut w [58]).2.1) := by unfold fieldOf; rw [if_pos ⟨h, h2⟩]
theorem cut58_len (w : Bs) : (Lib.cut w [58]).1.length ≤ w.length ∧ (Lib.cut w [58]).2.1.length ≤ w.length := by
  unfold Lib.cut; split <;> simp
  omega
set_option maxRecDepth 100000 in
set_option maxHeartbeats 16000000 in
theorem parse_any (s : ByteArray) (w : World) (hs : s.size ≤ 100000) (hm : MaxAt w) :
    Calls Tryd.prog 13 #[.string s] w (ParseP s.data.toList w) := by
  have c1 := cut_any s w (by omega) hm
  have HM := Lib.hid hm
  clear hm
  go_enter Tryd.func13, Tryd.ntmps13
  go_wp2_with fail
  refine c1.mono ?_
  rintro e w1 (⟨hn, rfl, hb1⟩ | ⟨ls, rest, v, hcu, hsz, rfl, hown, hb1⟩)
  · have HF := Lib.hid (ParseP.bad (pa_none hn) hb1)
    clear c1 hn hb1
    go_wp2
    go_ret3
    exact HF.out
  · obtain ⟨ao, cap, rfl⟩ := hown.shape
    have hll := ctL_len (bss ls)
    rw [bss_len] at hll
    rw [bsize] at hsz
    obtain ⟨N, hN⟩ : ∃ N, N = ls.length := ⟨_, rfl⟩
    rw [← hN] at hown ⊢
    have hNm : N ≤ 100000 := by omega
    have hN0 : (0 : Int) ≤ (N : Int) := by omega
    have HC := Lib.hid (And.intro hcu (And.intro hN (And.intro hown (And.intro hb1 (And.intro (show (bss ls).flatten.length ≤ 100000 by omega) (show rest.length ≤ 100000 by omega))))))
    have HMX := Lib.hid (HM.out.below hb1)
    clear c1 hcu hN hown hb1 hsz hll
    go_wp2
    go_loopw [31] (fun i wr => ∃ m : Nat, m ≤ N ∧ i = .int .i64 m ∧ Hid (Fine ((bss ls).take m)) ∧ Below w1.heap.size w1 wr) (fun i _ => N - (intOf i).toNat)
    case atStart => exact ⟨0, Nat.zero_le _, rfl, Lib.hid (fun x hx => by cases hx), Below.refl _ _⟩
    case round =>
      obtain ⟨m, hm, rfl, hfi, hbl⟩ := hrel
      have hm0 : (0 : Int) ≤ (m : Int) := by omega
      by_cases hlt : m < N
      · have hmi : (m : Int) < (N : Int) := by omega
        have hml : m < ls.length := by rw [← HC.out.2.1]; exact hlt
        obtain ⟨g, rfl, ec⟩ := (HC.out.2.2.1.below hbl).cellAt hml
        have hxin : ls[m].data.toList ∈ bss ls := List.mem_map.2 ⟨_, List.getElem_mem hml, rfl⟩
        have htk : (bss ls).take (m + 1) = (bss ls).take m ++ [ls[m].data.toList] := by
          rw [List.take_succ_eq_append_getElem (by rw [bss_len]; exact hml), bss_at hml]
        generalize ls[m] = x at *
        have hx0 : (0 : Int) ≤ (x.size : Int) := by omega
        by_cases hbig : 998 < x.size
        · have hbi : (998 : Int) < (x.size : Int) := by omega
          have HF := Lib.hid (ParseP.bad (pa_long HC.out.1 hxin (by rw [bsize]; exact hbig)) (HC.out.2.2.2.1.trans (hbl.mono HC.out.2.2.2.1.size)))
          clear hfi hbl hxin htk hbig hml
          go_wp2
          go_ret3
          exact HF.out
        · have hbi : ¬ (998 : Int) < (x.size : Int) := by omega
          have hf2 : Fine ((bss ls).take (m + 1)) := by
            rw [htk]
            exact hfi.out.app (fun y hy => by rw [List.mem_singleton.1 hy, bsize]; omega)
          have HF := Lib.hid (And.intro hf2 hbl)
          clear hfi hbl hxin htk hbig hml hf2
          go_wp2
          go_roundw
          case rel => exact ⟨m + 1, by omega, by go_num, Lib.hid HF.out.1, HF.out.2⟩
          case measure => simp [intOf]; omega
      · obtain rfl : m = N := by omega
        have hjE : ¬ (m : Int) < (m : Int) := by omega
        have hfine : Fine (bss ls) := by
          have := hfi.out
          rw [HC.out.2.1, ← bss_len, List.take_length] at this
          exact this
        have HFI := Lib.hid hfine
        have HB := Lib.hid hbl
        clear hfi hbl hfine
        obtain ⟨wa, rfl⟩ : ∃ wa : World, wa = wr := ⟨_, rfl⟩
        go_wp2
        go_loopw [8, 41] (fun x i wr => ∃ (k : Nat) (W : List ByteArray), k ≤ m ∧ i = .int .i64 k ∧ SSo wr wa.heap.size x W ∧ Hid (UnI (bss ls) k (bss W)) ∧ Below wa.heap.size wa wr) (fun _ i _ => m - (intOf i).toNat)
        case atStart => exact ⟨0, [], Nat.zero_le _, rfl, SSo.nil _ _, Lib.hid (UnI.zero _), Below.refl _ _⟩
        case round =>
          obtain ⟨k, W, hk, rfl, hw8, hun, hbl⟩ := hrel
          have hk0 : (0 : Int) ≤ (k : Int) := by omega
          by_cases hlt2 : k < m
          · have hki : (k : Int) < (m : Int) := by omega
            have hkl : k < ls.length := by rw [← HC.out.2.1]; exact hlt2
            have hkb : k < (bss ls).length := by rw [bss_len]; exact hkl
            obtain ⟨g, rfl, ec⟩ := ((HC.out.2.2.1.below HB.out).below hbl).cellAt hkl
            have hba := bss_at hkl
            have hxne : ls[k].data.toList ≠ [] := cutG_ne _ _ _ _ HC.out.1 _ (List.mem_map.2 ⟨_, List.getElem_mem hkl, rfl⟩)
            have hxl : ls[k].size ≤ 100000 := by
              have h1 := mem_len (x := ls[k].data.toList) (l := bss ls) (List.mem_map.2 ⟨_, List.getElem_mem hkl, rfl⟩)
              have h2 := HC.out.2.2.2.2.1
              rw [bsize] at h1; omega
            have hWl : (bss W).flatten.length ≤ 100000 := by
              have h1 := hun.out.1
              have h2 := HC.out.2.2.2.2.1
              have h3 : (bss ls).flatten.length = ((bss ls).take k).flatten.length + ((bss ls).drop k).flatten.length := by
                rw [← List.length_append, ← List.flatten_append, List.take_append_drop]
              rw [h1]; omega
            have hWn : W.length ≤ 100000 := by have := hun.out.2.1; rw [bss_len] at this; omega
            generalize ls[k] = x at *
            have hx1 : 1 ≤ x.size := by
              rw [← bsize]
              exact List.length_pos_iff.2 hxne
            have hx1i : (1 : Int) ≤ (x.size : Int) := by omega
            have hhd := head_any x hxne
            have c2 := fun W' => cbl_any (x.extract 0 1) W' (by rw [ByteArray.size_extract]; omega)
            rw [hhd] at c2
            have hbw := hbl.size
            cases hbq : isBl (x.data.toList.headD 0) with
            | false =>
              rw [hbq] at c2
              have hnew := hun.out.new hkb (by rw [hba]; exact hbq)
              rw [hba] at hnew
              have HN := Lib.hid (And.intro hnew (And.intro hw8 hbl))
              clear hba hxne hWl hhd hbq hnew hw8 hbl hun hkl hkb
              go_wp2_with fail
              refine (c2 _).mono ?_
              rintro e w3 ⟨rfl, hb3⟩
              have hown3 := HN.out.2.1.below hb3
              have hw3 : wa.heap.size ≤ w3.heap.size := Nat.le_trans hbw hb3.size
              have HB3 := Lib.hid (HN.out.2.2.trans (hb3.mono hbw))
              have HOWN := Lib.hid hown3
              clear c2 hb3 hown3
              go_wp2_with (at_builtin; refine wp_appstr rfl (.tmp 49) (.tmp 51) rfl wa.heap.size _ W rfl x HOWN.out rfl (by omega) hw3 ?_)
              intro v' w4 hown4 hb4
              have HF := Lib.hid (And.intro hown4 (HB3.out.trans hb4))
              clear hown4 hb4
              go_wp2
              go_roundw
              case rel => exact ⟨k + 1, W ++ [x], by omega, by go_num, HF.out.1, Lib.hid (by rw [bss_app]; exact HN.out.1), HF.out.2⟩
              case measure => simp [intOf]; omega
            | true =>
              rw [hbq] at c2
              by_cases hz : k = 0
              · subst hz
                have hbad := hun.out.bad hkb (by rw [hba]; exact hbq)
                have HF := Lib.hid (And.intro (pa_unf HC.out.1 HFI.out hbad) (HC.out.2.2.2.1.trans ((HB.out.trans (hbl.mono HB.out.size)).mono HC.out.2.2.2.1.size)))
                clear hba hxne hWl hhd hbq hbad hw8 hbl hun hkl hkb
                go_wp2_with fail
                refine (c2 _).mono ?_
                rintro e w3 ⟨rfl, hb3⟩
                have HG := Lib.hid (ParseP.bad HF.out.1 (HF.out.2.trans (hb3.mono HF.out.2.size)))
                clear c2 hb3
                go_wp2
                go_ret3
                exact HG.out
              · have hkz : ((k : Int) == 0) = false := by rw [Bool.eq_false_iff]; intro e; have := beq_iff_eq.1 e; omega
                obtain ⟨D, cur, hDc⟩ := hun.out.ne (by omega)
                rcases List.eq_nil_or_concat W with rfl | ⟨D', y, hWe⟩
                · simp [bss] at hDc
                rw [List.concat_eq_append] at hWe
                subst hWe
                obtain ⟨g2, cap2, hv8, hg2b, hst8⟩ := SSo.strs hw8 (by simp)
                subst hv8
                rw [show (D' ++ [y]).length = D'.length + 1 by simp] at hw8 ⊢
                have hmore := UnI.more (D := bss D') (cur := y.data.toList) (by have := hun.out; rw [bss_app] at this; exact this) hkb (by rw [hba]; exact hbq)
                rw [hba] at hmore
                have hyl : y.size ≤ 100000 := by
                  have h1 := mem_len (x := y.data.toList) (l := bss (D' ++ [y])) (by rw [bss_app]; exact List.mem_append_right _ (by simp [bss]))
                  rw [bsize] at h1; omega
                have hns : ¬ (9223372036854775807 < y.size + x.size) := by omega
                have hD0 : (0 : Int) ≤ (D'.length : Int) := by omega
                have hDn : D'.length ≤ 100000 := by rw [List.length_append] at hWn; simp at hWn; omega
                have HN := Lib.hid (And.intro hmore (And.intro hw8 (And.intro hbl hg2b)))
                clear hba hxne hWl hhd hbq hmore hw8 hbl hun hkl hkb hDc hst8 hWn hz
                go_wp2_with fail
                refine (c2 _).mono ?_
                rintro e w3 ⟨rfl, hb3⟩
                have hown3 := HN.out.2.1.below hb3
                have hdl : D'.length < (D' ++ [y]).length := by simp
                obtain ⟨q0, q1⟩ := hown3.at_ hdl
                rw [show (D' ++ [y])[D'.length]'hdl = y by simp] at q0
                have hput := SSo.put hown3 hdl (y ++ x)
                rw [List.set_append_right _ _ (by simp)] at hput
                have hput2 : SSo (w3.setCell ⟨g2, D'.length, none⟩ (.string (y ++ x))) wa.heap.size (.slice (some ⟨g2, 0, none⟩) (D'.length + 1) cap2) (D' ++ [y ++ x]) := by simpa using hput
                have hB3 : Below wa.heap.size wa (w3.setCell ⟨g2, D'.length, none⟩ (.string (y ++ x))) := (HN.out.2.2.1.trans (hb3.mono hbw)).setCell (p := ⟨g2, D'.length, none⟩) HN.out.2.2.2 _
                have HF := Lib.hid (And.intro hput2 hB3)
                clear c2 hb3 hown3 hput hput2 hB3 hdl
                go_wp2
                go_roundw
                case rel => exact ⟨k + 1, D' ++ [y ++ x], by omega, by go_num, HF.out.1, Lib.hid (by rw [bss_app]; have := HN.out.1; simpa [bss] using this), HF.out.2⟩
                case measure => simp [intOf]; omega
          · obtain rfl : k = m := by omega
            have hjE2 : ¬ (k : Int) < (k : Int) := by omega
            have hun2 : unf (bss ls) = some (bss W) := by
              have := hun.out
              rw [HC.out.2.1, ← bss_len] at this
              exact this.done
            obtain ⟨ao2, cap2, rfl⟩ := hw8.shape
            obtain ⟨N2, hN2⟩ : ∃ N2, N2 = W.length := ⟨_, rfl⟩
            have hWf : (bss W).flatten.length ≤ 100000 := by
              have h1 := hun.out.1
              rw [HC.out.2.1, ← bss_len, List.take_length] at h1
              rw [h1]; exact HC.out.2.2.2.2.1
            have hN2m : N2 ≤ 100000 := by have := hun.out.2.1; rw [bss_len] at this; omega
            rw [← hN2] at hw8 ⊢
            have hN20 : (0 : Int) ≤ (N2 : Int) := by omega
            have hbw : Below w.heap.size w wr := HC.out.2.2.2.1.trans ((HB.out.trans (hbl.mono HB.out.size)).mono HC.out.2.2.2.1.size)
            have hmx := HMX.out.below (HB.out.trans (hbl.mono HB.out.size))
            have HW := Lib.hid (And.intro hun2 (And.intro hN2 (And.intro hw8 (And.intro hWf (And.intro hbw hmx)))))
            clear hun2 hN2 hw8 hWf hbw hmx hun hbl
            obtain ⟨wb, rfl⟩ : ∃ wb : World, wb = wr := ⟨_, rfl⟩
            go_wp2
            go_loopw [14, 73] (fun x i wr => ∃ (j : Nat) (F : List Fld), j ≤ N2 ∧ i = .int .i64 j ∧ FSo wr wb.heap.size x F ∧ Hid (FdI (bss W) j F ∧ Small F) ∧ Below wb.heap.size wb wr) (fun _ i _ => N2 - (intOf i).toNat)
            case atStart => exact ⟨0, [], Nat.zero_le _, rfl, FSo.nil _ _, Lib.hid ⟨FdI.zero _, fun f hf => by cases hf⟩, Below.refl _ _⟩
            case round =>
              obtain ⟨j, F, hj, rfl, hF, hfd, hbl⟩ := hrel
              have hj0 : (0 : Int) ≤ (j : Int) := by omega
              by_cases hlt3 : j < N2
              · have hji : (j : Int) < (N2 : Int) := by omega
                have hjl : j < W.length := by rw [← HW.out.2.1]; exact hlt3
                have hjb : j < (bss W).length := by rw [bss_len]; exact hjl
                obtain ⟨g3, rfl, ec⟩ := (HW.out.2.2.1.below hbl).cellAt hjl
                have hba := bss_at hjl
                have hyl : W[j].size ≤ 100000 := by
                  have h1 := mem_len (x := W[j].data.toList) (l := bss W) (List.mem_map.2 ⟨_, List.getElem_mem hjl, rfl⟩)
                  have h2 := HW.out.2.2.2.1
                  rw [bsize] at h1; omega
                generalize W[j] = y at *
                obtain ⟨mx, hmx⟩ := HW.out.2.2.2.2.2.below hbl
                have c2 := Tryd.strings_Cut y ⟨#[58]⟩ mx wr (by omega) hmx
                rw [show (⟨#[58]⟩ : ByteArray).data.toList = [58] from rfl] at c2
                have hcl := cut58_len y.data.toList
                rw [bsize] at hcl
                have hno := fieldOf_no (w := y.data.toList)
                have hbd := fieldOf_bad (w := y.data.toList)
                have hok := fieldOf_ok (w := y.data.toList)
                have hwb := hbl.size
                generalize (Lib.cut y.data.toList [58]).1 = a at *
                generalize (Lib.cut y.data.toList [58]).2.1 = b at *
                generalize (Lib.cut y.data.toList [58]).2.2 = fd at *
                have htl := trB_len b
                have c3 := fun W' => trbl_any ⟨b.toArray⟩ W' (by rw [lsize]; omega)
                rw [show (⟨b.toArray⟩ : ByteArray).data.toList = b by simp] at c3
                obtain ⟨nm, hnm⟩ : ∃ nm : ByteArray, nm = ⟨a.toArray⟩ := ⟨_, rfl⟩
                obtain ⟨bd, hbdq⟩ : ∃ bd : ByteArray, bd = ⟨(trB b).toArray⟩ := ⟨_, rfl⟩
                have hnd : nm.data.toList = a := by rw [hnm]
                have hbdd : bd.data.toList = trB b := by rw [hbdq]
                have hns1 : nm.size ≤ 100000 := by rw [← bsize, hnd]; omega
                have hbs1 : bd.size ≤ 100000 := by rw [← bsize, hbdd]; omega
                rw [← hnm] at c2
                rw [← hbdq] at c3
                have c4 := fun W' => right_any nm bd W' (by omega) (by omega)
                rw [hnd, hbdd] at c4
                clear hnm hbdq
                have hFn : F.length ≤ 100000 := by have := hfd.out.1.2; omega
                cases fd with
                | false =>
                  have hbad := hfd.out.1.bad hjb (by rw [hba]; exact hno rfl)
                  have HF := Lib.hid (And.intro (pa_fds HC.out.1 HFI.out HW.out.1 hbad) (HW.out.2.2.2.2.1.trans (hbl.mono HW.out.2.2.2.2.1.size)))
                  clear hno hbd hok hbad hba hjl hjb hF hfd hbl htl hcl hmx hnd hbdd c4 hyl
                  generalize (⟨b.toArray⟩ : ByteArray) = bb at *
                  go_wp2_with fail
                  refine c2.mono ?_
                  rintro e w3 ⟨rfl, n, rfl⟩
                  have hb4 := Below.drewN' HF.out.2 n
                  generalize wr.drewN n = w3 at *
                  clear c2
                  go_wp2_with fail
                  refine (c3 _).mono ?_
                  rintro e w5 ⟨rfl, hb5⟩
                  have hb6 := hb4.trans (hb5.mono hb4.size)
                  have HG := Lib.hid (ParseP.bad HF.out.1 (hb6.alloc hb6.size (.cells #[.string nm, .string bd] 38 (0, 0))))
                  clear c3 hb4 hb5 hb6
                  go_wp2
                  go_ret3
                  exact HG.out
                | true =>
                  cases hr : rtF a (trB b) with
                  | false =>
                    rw [hr] at c4
                    have hbad := hfd.out.1.bad hjb (by rw [hba]; exact hbd hr)
                    have HF := Lib.hid (And.intro (pa_fds HC.out.1 HFI.out HW.out.1 hbad) (HW.out.2.2.2.2.1.trans (hbl.mono HW.out.2.2.2.2.1.size)))
                    clear hno hbd hok hbad hba hjl hjb hF hfd hbl htl hcl hmx hnd hbdd hyl hr
                    generalize (⟨b.toArray⟩ : ByteArray) = bb at *
                    go_wp2_with fail
                    refine c2.mono ?_
                    rintro e w3 ⟨rfl, n, rfl⟩
                    have hb4 := Below.drewN' HF.out.2 n
                    generalize wr.drewN n = w3 at *
                    clear c2
                    go_wp2_with fail
                    refine (c3 _).mono ?_
                    rintro e w5 ⟨rfl, hb5⟩
                    have hb6 := hb4.trans (hb5.mono hb4.size)
                    have HG := Lib.hid (hb6.alloc hb6.size (.cells #[.string nm, .string bd] 38 (0, 0)))
                    clear c3 hb4 hb5 hb6
                    go_wp2_with fail
                    refine (c4 _).mono ?_
                    rintro e w6 ⟨rfl, hb6⟩
                    have HP := Lib.hid (ParseP.bad HF.out.1 (HG.out.trans (hb6.mono HG.out.size)))
                    clear c4 hb6
                    go_wp2
                    go_ret3
                    exact HP.out
                  | true =>
                    rw [hr] at c4
                    have hnx := hfd.out.1.next (f := (nm, bd)) hjb (by rw [hba, hok rfl hr]; unfold fdb; rw [hnd, hbdd])
                    have hsm2 : Small (F ++ [(nm, bd)]) := fun f hf => by
                      rcases List.mem_append.1 hf with h | h
                      · exact hfd.out.2 f h
                      · rw [List.mem_singleton.1 h]; exact ⟨hns1, hbs1⟩
                    have HF := Lib.hid (And.intro hnx (And.intro hsm2 (And.intro hF hbl)))
                    clear hno hbd hok hba hjl hjb hF hfd hbl htl hcl hmx hnd hbdd hyl hr hnx hsm2
                    generalize (⟨b.toArray⟩ : ByteArray) = bb at *
                    go_wp2_with fail
                    refine c2.mono ?_
                    rintro e w3 ⟨rfl, n, rfl⟩
                    have hF4 : FSo (wr.drewN n) wb.heap.size _ F := HF.out.2.2.1
                    have hb4 := Below.drewN' HF.out.2.2.2 n
                    generalize wr.drewN n = w3 at *
                    clear c2
                    go_wp2_with fail
                    refine (c3 _).mono ?_
                    rintro e w5 ⟨rfl, hb5⟩
                    have hF5 := hF4.below hb5
                    have hb6 := hb4.trans (hb5.mono hb4.size)
                    have hF6 : FSo (w5.alloc (.cells #[.string nm, .string bd] 38 (0, 0))) wb.heap.size _ F := World.ownsRow.alloc hF5 _
                    have hg6 := heap_alloc_new w5 (.cells #[.string nm, .string bd] 38 (0, 0))
                    have hb7 := hb6.alloc hb6.size (.cells #[.string nm, .string bd] 38 (0, 0))
                    have HG := Lib.hid (And.intro hF6 (And.intro hg6 hb7))
                    clear c3 hF4 hb4 hb5 hF5 hb6 hF6 hg6 hb7
                    go_wp2_with fail
                    refine (c4 _).mono ?_
                    rintro e w6 ⟨rfl, hb6⟩
                    have hg7 := (hb6.block _ (lt_of_block HG.out.2.1)).trans HG.out.2.1
                    have q0 : w6.cell? ⟨w5.heap.size, 0, none⟩ = some (.string nm) := by rw [cell_of_row _ _ _ _ _ _ hg7]; rfl
                    have q1 : w6.cell? ⟨w5.heap.size, 1, none⟩ = some (.string bd) := by rw [cell_of_row _ _ _ _ _ _ hg7]; rfl
                    have hF7 := HG.out.1.below hb6
                    have hb8 := HG.out.2.2.trans (hb6.mono HG.out.2.2.size)
                    have hw8 := hb8.size
                    have HH := Lib.hid (And.intro hF7 hb8)
                    clear c4 hb6 hg7 hF7 hb8
                    go_wp2_with (at_builtin; refine wp_appfld rfl (.tmp 94) (.tmp 96) rfl wb.heap.size _ F rfl nm bd HH.out.1 rfl (by omega) hw8 ?_)
                    intro v' w7 hF8 _ hb9
                    have HZ := Lib.hid (And.intro hF8 (HH.out.2.trans hb9))
                    clear hF8 hb9
                    go_wp2
                    go_roundw
                    case rel => exact ⟨j + 1, F ++ [(nm, bd)], by omega, by go_num, HZ.out.1, Lib.hid ⟨HF.out.1, HF.out.2.1⟩, HZ.out.2⟩
                    case measure => simp [intOf]; omega
              · obtain rfl : j = N2 := by omega
                have hjE3 : ¬ (j : Int) < (j : Int) := by omega
                have hdn : fdsF (bss W) = some (fds F) := by
                  have := hfd.out.1
                  rw [HW.out.2.1, ← bss_len] at this
                  exact this.done
                have hpa := pa_end HC.out.1 HFI.out HW.out.1 hdn
                have hfl : F.length = j := hfd.out.1.2
                rw [fds_len, hfl] at hpa
                obtain ⟨ao3, cap3, rfl⟩ := hF.shape
                rw [hfl] at hF ⊢
                have hbw := HW.out.2.2.2.2.1.trans (hbl.mono HW.out.2.2.2.2.1.size)
                by_cases h64 : 64 < j
                · have h64i : (64 : Int) < (j : Int) := by omega
                  rw [if_pos h64] at hpa
                  have HG := Lib.hid (ParseP.bad hpa hbw)
                  clear hdn hpa hfl hF hbw hfd hbl h64
                  go_wp2
                  go_ret3
                  exact HG.out
                · have h64i : ¬ (64 : Int) < (j : Int) := by omega
                  rw [if_neg h64] at hpa
                  have hfin : ParseP s.data.toList w (.returned (.tuple #[.slice ao3 j cap3, .string ⟨rest.toArray⟩, .int .i64 0])) wr :=
                    ⟨F, ao3, j, cap3, by rw [hpa], FSo.in_ hF, hfd.out.2, by omega, by rw [hpa], hbw⟩
                  have HG := Lib.hid hfin
                  clear hdn hpa hfl hF hbw hfd hbl h64 hfin
                  go_wp2
                  go_ret3
                  exact HG.out
end Go.Proofs.YtdaekoapkclliaaDoor
