/- Package lattice: Right. -/
import Derived.Test.YtmcianehedhfeaaGreatDoorLatF
import Derived.Shelf.Strings.SlTrimAscii
set_option linter.unusedVariables false
set_option linter.unusedSimpArgs false
namespace Go.Proofs.YtmcianehedhfeaaGreatDoor
open Go.RowKit
/-- The names of a row of texts. -/
def nms (l : List ByteArray) : List Bs := l.map (·.data.toList)
theorem nms_len (l : List ByteArray) : (nms l).length = l.length := List.length_map ..
theorem nms_app (a b : List ByteArray) : nms (a ++ b) = nms a ++ nms b := List.map_append ..
def letB : ByteArray := ⟨#[65, 66, 67, 68, 69, 70, 71, 72, 73, 74, 75, 76, 77, 78, 79, 80, 81, 82, 83, 84, 85, 86, 87, 88, 89, 90, 48, 49, 50, 51, 52, 53, 54, 55, 56, 57, 45]⟩
theorem trim_any (s : ByteArray) (w : World) (hs : s.size ≤ 1000000) :
    Calls Tryz.prog 27 #[.string s, .string letB] w fun e w' => e = .returned (.string ⟨(Lib.trimS s.data.toList nmLets).toArray⟩) ∧ Below w.heap.size w w' :=
  Any.strings_Trim_laid Tryz.lays160 (by kernel_rfl) s letB w (by omega) (by decide) (ascii_of_all (by decide))
theorem contains_take {N : List ByteArray} {k : Nat} (hk : k < N.length) : Lib.containsS (N.take k) N[k] = decide ((nms N)[k]'(by rw [nms_len]; exact hk) ∈ (nms N).take k) := by
  rw [Bool.eq_iff_iff, Lib.containsS_iff, decide_eq_true_iff]
  unfold nms
  rw [← List.map_take, List.getElem_map]
  constructor
  · exact fun h => List.mem_map.2 ⟨_, h, rfl⟩
  · intro h
    obtain ⟨y, hy, e⟩ := List.mem_map.1 h
    have : y = N[k] := by
      cases y; rename_i d
      generalize hz : N[k] = z at *
      cases z
      congr 1
      exact Array.toList_inj.1 e
    rw [← this]; exact hy
theorem contains_any (A : Option Addr) (n c : Nat) (N : List ByteArray) (k : Nat) (hk : k ≤ n) (x : ByteArray) (w : World) (h : StrsIn w A n N) :
    Calls Tryz.prog 28 #[.slice A k c, .string x] w fun e w' => e = .returned (.bool (Lib.containsS (N.take k) x)) ∧ w = w' := by
  rcases Nat.eq_zero_or_pos k with rfl | h0
  · exact (Tryz.slices_Contains_string_empty A c x w).mono fun e w' ⟨h1, h2⟩ => ⟨by rw [h1]; rfl, h2.symm⟩
  · obtain ⟨b, off, rfl, hc⟩ := h.cells (by omega)
    exact (Tryz.slices_Contains_string b off k c N x w (by have := h.len; omega) (by have := h.max; omega) (fun j hj => by rw [hc j (by have := h.len; omega)]; rfl)).mono fun e w' ⟨h1, h2⟩ => ⟨h1, h2.symm⟩
set_option maxRecDepth 100000 in
set_option maxHeartbeats 4000000 in
theorem right_any (v1 v2 : Value) (lv cp : List ByteArray) (w : World) (h1 : SlIn w v1 lv) (h2 : SlIn w v2 cp) (hm : lv.length ≤ 9223372036854775807 ∧ cp.length ≤ 9223372036854775807) :
    Calls Tryz.prog 10 #[.agg #[v1, v2]] w fun e w' => e = .returned (.bool (latR (nms lv) (nms cp))) ∧ Below w.heap.size w w' := by
  obtain ⟨A, c, rfl, hA, hA0⟩ := id h1
  obtain ⟨B, q, rfl, hB, hB0⟩ := id h2
  have HL := Lib.hid (And.intro h1 h2)
  clear hA hA0 hB hB0 h1 h2
  generalize hn : lv.length = n at *
  generalize hk : cp.length = k at *
  obtain ⟨R, hR⟩ : ∃ R, R = latR (nms lv) (nms cp) := ⟨_, rfl⟩
  rw [← hR]
  have hnm := hm.1
  have hkm := hm.2
  have HR := Lib.hid hR
  have HNK := Lib.hid (And.intro hn hk)
  have hn0 : (0 : Int) ≤ (n : Int) := by omega
  have hk0 : (0 : Int) ≤ (k : Int) := by omega
  have bx0 := below2
  clear hR hm hn hk
  by_cases hb : 1 ≤ n ∧ n ≤ 16 ∧ k ≤ 64
  · obtain ⟨g1, g2, g3⟩ := hb
    have i1 : ¬ (n : Int) < 1 := by omega
    have i2 : ¬ (16 : Int) < (n : Int) := by omega
    have i3 : ¬ (64 : Int) < (k : Int) := by omega
    clear bx0
    go_enter Tryz.func10, Tryz.ntmps10
    go_wp2_with fail
    have hb1 := below2 w (.cells #[.slice A n c, .slice B k q] 24 (0, 0)) (.cells #[.slice A n c, .slice B k q] 22 (0, 0))
    have hg2 := heap_alloc2_new w (.cells #[.slice A n c, .slice B k q] 24 (0, 0)) (.cells #[.slice A n c, .slice B k q] 22 (0, 0))
    generalize (w.alloc (.cells #[.slice A n c, .slice B k q] 24 (0, 0))).alloc (.cells #[.slice A n c, .slice B k q] 22 (0, 0)) = w1 at *
    refine (concat_any (w.heap.size + 1) (.slice A n c) (.slice B k q) lv cp w1 (by rw [cell_of_row _ _ _ _ _ _ hg2]; rfl) (by rw [cell_of_row _ _ _ _ _ _ hg2]; rfl) (HL.out.1.below hb1) (HL.out.2.below hb1) (by rw [HNK.out.1]; exact g1) (by rw [HNK.out.1]; exact g2) (by rw [HNK.out.2]; exact g3)).mono ?_
    rintro e w2 ⟨v, rfl, hown, hbel⟩
    obtain ⟨G, cap, rfl, hS, hcap, hmax⟩ := hown.in_
    have hw2 : Below w.heap.size w w2 := hb1.trans (hbel.mono hb1.size)
    have hNl : (lv ++ cp).length = n + k := by rw [List.length_append, HNK.out.1, HNK.out.2]
    obtain ⟨b, off, rfl, hcell⟩ := hS.cells (by omega)
    have hNn := nms_app lv cp
    generalize lv ++ cp = N at *
    generalize hNN : N.length = nn at *
    have HS := Lib.hid (And.intro hS (And.intro hw2 (And.intro hNl (And.intro hNn hNN))))
    have hnn : (nn : Int) ≤ 80 := by omega
    have hnn0 : (0 : Int) ≤ (nn : Int) := by omega
    have hcapi : (nn : Int) ≤ (cap : Int) := by omega
    unfold maxLen at hmax
    clear hS hw2 hNl hNn hNN hown hbel hcell hb1 hg2 HL i1 i2 i3
    go_wp2
    go_loopw [30] (fun i wr => ∃ j : Nat, j ≤ nn ∧ i = .int .i64 j ∧ NmI (nms lv ++ nms cp) j ∧ Below w2.heap.size w2 wr) (fun i _ => nn - (intOf i).toNat)
    case atStart => exact ⟨0, Nat.zero_le _, rfl, NmI.zero _, Below.refl _ _⟩
    case round =>
      obtain ⟨j, hj, rfl, hI, hbl⟩ := hrel
      obtain ⟨hS, hw2, hNl, hNn, hNN⟩ := HS.out
      have hj0 : (0 : Int) ≤ (j : Int) := by omega
      have HI := Lib.hid (And.intro hI hbl)
      by_cases hjn : j < nn
      · have hji : (j : Int) < (nn : Int) := by omega
        have hjc : (j : Int) ≤ (cap : Int) := by omega
        have hSr := hS.below hbl
        have hcell : wr.cell? ⟨b, off + j, none⟩ = some (.string (str N j)) := by
          obtain ⟨b', off', e, hc⟩ := hSr.cells (by omega)
          cases e; exact hc j hjn
        have hjN : j < N.length := by omega
        have hx : str N j = N[j] := by unfold str; rw [List.getD_eq_getElem?_getD, List.getElem?_eq_getElem hjN]; rfl
        have hjM : j < (nms lv ++ nms cp).length := by rw [← hNn, nms_len]; omega
        have hget : (nms lv ++ nms cp)[j]'hjM = (str N j).data.toList := by
          rw [hx]; simp only [← hNn]; unfold nms; rw [List.getElem_map]
        have hct := contains_take hjN
        rw [← hx] at hct
        have hct2 : Lib.containsS (N.take j) (str N j) = decide ((nms lv ++ nms cp)[j]'hjM ∈ (nms lv ++ nms cp).take j) := by
          rw [hct]; simp only [hNn]
        have c6 := fun W h => contains_any (some ⟨b, off, none⟩) nn cap N j (by omega) (str N j) W h
        have hxz := bsize (str N j)
        obtain ⟨okv, hokv⟩ : ∃ okv, okv = nmOk ((nms lv ++ nms cp)[j]'hjM) := ⟨_, rfl⟩
        obtain ⟨cv, hcv⟩ : ∃ cv, cv = Lib.containsS (N.take j) (str N j) := ⟨_, rfl⟩
        have hok : okv = (decide (1 ≤ (str N j).size) && decide ((str N j).size ≤ 16) && (Lib.trimS (str N j).data.toList nmLets).isEmpty) := by
          rw [hokv, hget, nmOk_of, hxz]
        have hbad : okv = false → R = false := fun h => HR.out.trans (latR_bad hjM (.inl (hokv.symm.trans h)))
        have hbad2 : cv = true → R = false := fun h => HR.out.trans (latR_bad hjM (.inr (of_decide_eq_true (hct2.symm.trans (hcv.symm.trans h)))))
        have hnext : okv = true → cv = false → NmI (nms lv ++ nms cp) (j + 1) := fun h h' => hI.next hjM (hokv.symm.trans h) (of_decide_eq_false (hct2.symm.trans (hcv.symm.trans h')))
        rw [← hcv] at c6
        generalize str N j = x at *
        obtain ⟨T, hT⟩ : ∃ T : ByteArray, T = ⟨(Lib.trimS x.data.toList nmLets).toArray⟩ := ⟨_, rfl⟩
        have c7 := fun W h => trim_any x W h
        rw [← hT] at c7
        have hTe : (T.toList == []) = (Lib.trimS x.data.toList nmLets).isEmpty := by
          rw [Lib.toList_data, hT]
          generalize Lib.trimS x.data.toList nmLets = t
          cases t <;> rfl
        rw [← hTe] at hok
        have HBD := Lib.hid (And.intro hbad (And.intro hbad2 hnext))
        have HOK := Lib.hid hok
        have HSR := Lib.hid hSr
        have HW := Lib.hid (hw2.trans (hbl.mono hw2.size))
        have HC6 := Lib.hid c6
        have HC7 := Lib.hid c7
        clear hI hbl hS hw2 hNl hNn hNN hx hct hct2 hbad hbad2 hnext hSr HS hget hok hokv hcv hTe hT c6 c7 hjM hjN
        by_cases hz : x.size = 0
        · have hR0 := HBD.out.1 (by rw [HOK.out, hz]; rfl)
          have hre : (x.toList == []) = true := by
            rw [Lib.toList_data, List.eq_nil_of_length_eq_zero (hxz.trans hz)]; rfl
          subst hR0
          clear hz hxz
          go_wp2
          go_ret
          exact ⟨rfl, HW.out⟩
        · have hre : (x.toList == []) = false := by
            rw [Lib.toList_data]
            exact beq_false_of_ne fun e => hz (by rw [← hxz, e]; rfl)
          by_cases hz2 : 16 < x.size
          · have hR0 := HBD.out.1 (by rw [HOK.out, decide_eq_false (show ¬ x.size ≤ 16 by omega)]; simp)
            have hzi : (16 : Int) < (x.size : Int) := by omega
            subst hR0
            clear hz hxz hz2
            go_wp2
            go_ret
            exact ⟨rfl, HW.out⟩
          · have hzi : ¬ (16 : Int) < (x.size : Int) := by omega
            have c7 := HC7.out wr (by omega)
            have hok2 : okv = (T.toList == []) := by
              rw [HOK.out, decide_eq_true (show 1 ≤ x.size by omega), decide_eq_true (show x.size ≤ 16 by omega)]; rfl
            unfold letB at c7
            cases hTv : (T.toList == []) with
            | false =>
              have hR0 := HBD.out.1 (hok2.trans hTv)
              subst hR0
              clear hz hxz hz2 hok2
              go_wp2_with fail
              refine c7.mono ?_
              rintro e w3 ⟨rfl, hb3⟩
              have H3 := Lib.hid (HW.out.trans (hb3.mono HW.out.size))
              clear c7 hb3 hcell
              go_wp2
              go_ret
              exact ⟨rfl, H3.out⟩
            | true =>
              have hokt := hok2.trans hTv
              cases cv with
              | true =>
                have hR0 := HBD.out.2.1 rfl
                subst hR0
                clear hz hxz hz2 hok2 hokt
                go_wp2_with fail
                refine c7.mono ?_
                rintro e w3 ⟨rfl, hb3⟩
                have H3 := Lib.hid (HW.out.trans (hb3.mono HW.out.size))
                have c6 := HC6.out w3 (HSR.out.below hb3)
                clear c7 hb3 hcell
                go_wp2_with fail
                refine c6.mono ?_
                rintro e w3 ⟨rfl, rfl⟩
                go_wp2
                go_ret
                exact ⟨rfl, H3.out⟩
              | false =>
                have HN := Lib.hid (HBD.out.2.2 hokt rfl)
                clear hz hxz hz2 hok2 hokt
                go_wp2_with fail
                refine c7.mono ?_
                rintro e w3 ⟨rfl, hb3⟩
                have H3 := Lib.hid (HI.out.2.trans (hb3.mono HI.out.2.size))
                have c6 := HC6.out w3 (HSR.out.below hb3)
                clear c7 hb3 hcell
                go_wp2_with fail
                refine c6.mono ?_
                rintro e w3 ⟨rfl, rfl⟩
                clear c6
                go_wp2
                go_roundw
                case rel => exact ⟨j + 1, by omega, by go_num, HN.out, H3.out⟩
                case measure => simp [intOf]; omega
      · have hjE : ¬ (j : Int) < (nn : Int) := by omega
        have hR1 : R = true := HR.out.trans (hI.done (by rw [← hNn, nms_len, hNN]; omega) (by rw [nms_len, HNK.out.1]; omega) (by rw [nms_len, HNK.out.1]; omega) (by rw [nms_len, HNK.out.2]; omega))
        subst hR1
        have HW := Lib.hid (hw2.trans (hbl.mono hw2.size))
        clear hI hbl hS hw2 hNl hNn hNN
        go_wp2
        go_ret
        exact ⟨rfl, HW.out⟩
  · have hb2 : R = false := HR.out.trans (latR_len (by rw [nms_len, nms_len, HNK.out.1, HNK.out.2]; exact hb))
    subst hb2
    rcases (show (n : Int) < 1 ∨ (¬ (n : Int) < 1 ∧ (16 : Int) < (n : Int)) ∨ (¬ (n : Int) < 1 ∧ ¬ (16 : Int) < (n : Int) ∧ (64 : Int) < (k : Int)) by omega) with h | ⟨h, h'⟩ | ⟨h, h', h''⟩
    all_goals
      clear hb bx0
      go_enter Tryz.func10, Tryz.ntmps10
      go_wp2
      go_ret
      exact ⟨rfl, (Below.refl _ w).alloc (Nat.le_refl _) _⟩
end Go.Proofs.YtmcianehedhfeaaGreatDoor
