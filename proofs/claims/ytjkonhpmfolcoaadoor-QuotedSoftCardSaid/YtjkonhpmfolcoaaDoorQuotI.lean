/- The document's quoted: Decode's walk. -/
import Derived.Test.YtjkonhpmfolcoaaDoorQuotH
set_option linter.unusedVariables false
set_option linter.unusedSimpArgs false
namespace Go.Proofs.YtjkonhpmfolcoaaDoor
open Go.RowKit
theorem mul_digs {a b : Nat} (ha : a < 16) (hb : b < 16) : (16 * (a : Int) + (b : Int)) = ((UInt8.ofNat (16 * a + b)).toNat : Int) := by
  rw [UInt8.toNat_ofNat']
  omega
set_option maxRecDepth 100000 in
set_option maxHeartbeats 4000000 in
theorem refdecode_any (s : ByteArray) (w : World) (hs : s.size ≤ 1000000) :
    Calls Tryd.prog 11 #[.string s] w fun e w' => e = .returned (.tuple #[.string (decS s.data.toList), .int .i64 (decC s.data.toList)]) ∧ Below w.heap.size w w' := by
  have hsz := bsize s
  go_enter Tryd.func11, Tryd.ntmps11
  go_wp2
  go_loopw [4, 5] (fun v i wr => ∃ (o : List UInt8) (k : Nat), i = .int .i64 k ∧ BS wr w.heap.size v o ∧ Below w.heap.size w wr ∧ DcI s.data.toList o k) (fun _ i _ => s.size - (intOf i).toNat)
  case atStart => exact ⟨[], 0, rfl, BS.nil _ _, Below.refl _ _, DcI.start _⟩
  case round =>
    obtain ⟨o, k, rfl, hown, hbl, hI⟩ := hrel
    have hI1 := hI.1
    have hI2 := hI.2.2
    have HOWN := Lib.hid hown
    have HBL := Lib.hid hbl
    have HI := Lib.hid hI
    have HSZ := Lib.hid hsz
    have hwsz := hbl.size
    rw [hsz] at hI1
    have hk0 : (0 : Int) ≤ k := by omega
    have hks : (k : Int) ≤ s.size := by omega
    clear hown hbl hI
    by_cases hlt : k < s.size
    · have hkl : k < s.data.toList.length := by omega
      have hk1 : (k : Int) < s.size := by omega
      have hol : o.length + 1 ≤ 70368744177664 := by omega
      by_cases hc : s[k] = 61
      · obtain ⟨t2, t1⟩ := u8T (n := 61) hc rfl
        have HC : Hid (s.data.toList[k] = 61) := hc
        clear hc
        by_cases h2 : k + 2 < s.size
        · have h2l : k + 2 < s.data.toList.length := by omega
          have hk2 : (k : Int) + 2 < s.size := by omega
          have hk3 : (k : Int) + 1 < s.size := by omega
          by_cases h13 : s[k + 1] = 13
          · obtain ⟨t3, -⟩ := u8T (n := 13) h13 rfl
            by_cases h10 : s[k + 2] = 10
            · obtain ⟨t4, -⟩ := u8T (n := 10) h10 rfl
              have HN := Lib.hid (HI.out.soft h2l HC.out h13 h10)
              clear h13 h10
              go_wp2
              go_roundw
              case rel => exact ⟨o, k + 3, by go_num, HOWN.out, HBL.out, HN.out⟩
              case measure => simp [intOf]; omega
            · obtain ⟨t4, -⟩ := u8F (n := 10) h10 rfl
              have HNO : Hid (∀ h2 : k + 2 < s.data.toList.length, ¬ (s.data.toList[k + 1] = 13 ∧ s.data.toList[k + 2] = 10)) := fun _ h => h10 h.2
              clear h13 h10
              by_cases hv : valL s[k + 1] < 16 ∧ valL s[k + 2] < 16
              · obtain ⟨hva, hvb⟩ := hv
                obtain ⟨cc, hcc⟩ : ∃ cc, cc = UInt8.ofNat (16 * valL s[k + 1] + valL s[k + 2]) := ⟨_, rfl⟩
                have HN : Hid (DcI s.data.toList (o ++ [cc]) (k + 3)) := by unfold Hid; rw [hcc]; exact HI.out.code h2l HC.out (HNO.out h2l) hva hvb
                have HCC := Lib.hid hcc
                clear hcc
                have ca := fun W => value_any s[k + 1] W
                have cb := fun W => value_any s[k + 2] W
                have hA1 : (0 : Int) ≤ (valL s[k + 1] : Int) := by omega
                have hB1 : (0 : Int) ≤ (valL s[k + 2] : Int) := by omega
                have hA2 : (valL s[k + 1] : Int) < 16 := by omega
                have hB2 : (valL s[k + 2] : Int) < 16 := by omega
                have wa : IntKind.i64.wrap ((k : Int) + 1) = (k : Int) + 1 := IntWalk.i64_in _ (by omega)
                have wb : IntKind.i64.wrap ((k : Int) + 2) = (k : Int) + 2 := IntWalk.i64_in _ (by omega)
                have na : ((k : Int) + 1).toNat = k + 1 := by omega
                have nb : ((k : Int) + 2).toNat = k + 2 := by omega
                have pa : 0 ≤ (k : Int) + 1 := by omega
                have pb : 0 ≤ (k : Int) + 2 := by omega
                generalize valL s[k + 1] = va at *
                generalize valL s[k + 2] = vb at *
                go_wp2
                go_quiet ((first | (go_at_call 18; with_reducible exact quietly (ca _)) | (go_at_call 18; with_reducible exact quietly (cb _))))
                clear ca cb wa wb
                go_wp2_with (at_builtin; refine wp_app1 rfl (.tmp 59) (.tmp 65) rfl w.heap.size _ o rfl cc _ (by rw [HCC.out]; exact mul_digs hva hvb) (HOWN.out.drewN nq) rfl hol hwsz ?_)
                intro v' w'' hown' hc'
                have HF := Lib.hid (And.intro hown' (HBL.out.trans (Below.undrewN' hc'.below)))
                clear hown' hc' HOWN HBL
                go_wp2
                go_roundw
                case rel => exact ⟨_, k + 3, by go_num, HF.out.1, HF.out.2, HN.out⟩
                case measure => simp [intOf]; omega
              · have HN := Lib.hid (HI.out.bad h2l HC.out (HNO.out h2l) hv)
                have wa : IntKind.i64.wrap ((k : Int) + 1) = (k : Int) + 1 := IntWalk.i64_in _ (by omega)
                have wb : IntKind.i64.wrap ((k : Int) + 2) = (k : Int) + 2 := IntWalk.i64_in _ (by omega)
                have na : ((k : Int) + 1).toNat = k + 1 := by omega
                have nb : ((k : Int) + 2).toNat = k + 2 := by omega
                have pa : 0 ≤ (k : Int) + 1 := by omega
                have pb : 0 ≤ (k : Int) + 2 := by omega
                have ca := fun W => value_any s[k + 1] W
                have cb := fun W => value_any s[k + 2] W
                have hA3 := valL_le s[k + 1]
                have hB3 := valL_le s[k + 2]
                have hA1 : (0 : Int) ≤ (valL s[k + 1] : Int) := by omega
                have hB1 : (0 : Int) ≤ (valL s[k + 2] : Int) := by omega
                rcases (show (15 : Int) < (valL s[k + 1] : Int) ∨ ((valL s[k + 1] : Int) ≤ 15 ∧ (15 : Int) < (valL s[k + 2] : Int)) by omega) with hx | ⟨hx, hy⟩
                all_goals
                  clear hv hA3 hB3
                  generalize valL s[k + 1] = va at *
                  generalize valL s[k + 2] = vb at *
                  go_wp2
                  go_quiet ((first | (go_at_call 18; with_reducible exact quietly (ca _)) | (go_at_call 18; with_reducible exact quietly (cb _))))
                  clear ca cb wa wb
                  go_wp2
                  go_ret2
                  exact ⟨ret_si HN.out.1.symm HN.out.2.symm, Below.drewN' HBL.out _⟩
          · obtain ⟨t3, -⟩ := u8F (n := 13) h13 rfl
            have HNO : Hid (∀ h2 : k + 2 < s.data.toList.length, ¬ (s.data.toList[k + 1] = 13 ∧ s.data.toList[k + 2] = 10)) := fun _ h => h13 h.1
            clear h13
            by_cases hv : valL s[k + 1] < 16 ∧ valL s[k + 2] < 16
            · obtain ⟨hva, hvb⟩ := hv
              obtain ⟨cc, hcc⟩ : ∃ cc, cc = UInt8.ofNat (16 * valL s[k + 1] + valL s[k + 2]) := ⟨_, rfl⟩
              have HN : Hid (DcI s.data.toList (o ++ [cc]) (k + 3)) := by unfold Hid; rw [hcc]; exact HI.out.code h2l HC.out (HNO.out h2l) hva hvb
              have HCC := Lib.hid hcc
              clear hcc
              have ca := fun W => value_any s[k + 1] W
              have cb := fun W => value_any s[k + 2] W
              have hA1 : (0 : Int) ≤ (valL s[k + 1] : Int) := by omega
              have hB1 : (0 : Int) ≤ (valL s[k + 2] : Int) := by omega
              have hA2 : (valL s[k + 1] : Int) < 16 := by omega
              have hB2 : (valL s[k + 2] : Int) < 16 := by omega
              have wa : IntKind.i64.wrap ((k : Int) + 1) = (k : Int) + 1 := IntWalk.i64_in _ (by omega)
              have wb : IntKind.i64.wrap ((k : Int) + 2) = (k : Int) + 2 := IntWalk.i64_in _ (by omega)
              have na : ((k : Int) + 1).toNat = k + 1 := by omega
              have nb : ((k : Int) + 2).toNat = k + 2 := by omega
              have pa : 0 ≤ (k : Int) + 1 := by omega
              have pb : 0 ≤ (k : Int) + 2 := by omega
              generalize valL s[k + 1] = va at *
              generalize valL s[k + 2] = vb at *
              go_wp2
              go_quiet ((first | (go_at_call 18; with_reducible exact quietly (ca _)) | (go_at_call 18; with_reducible exact quietly (cb _))))
              clear ca cb wa wb
              go_wp2_with (at_builtin; refine wp_app1 rfl (.tmp 59) (.tmp 65) rfl w.heap.size _ o rfl cc _ (by rw [HCC.out]; exact mul_digs hva hvb) (HOWN.out.drewN nq) rfl hol hwsz ?_)
              intro v' w'' hown' hc'
              have HF := Lib.hid (And.intro hown' (HBL.out.trans (Below.undrewN' hc'.below)))
              clear hown' hc' HOWN HBL
              go_wp2
              go_roundw
              case rel => exact ⟨_, k + 3, by go_num, HF.out.1, HF.out.2, HN.out⟩
              case measure => simp [intOf]; omega
            · have HN := Lib.hid (HI.out.bad h2l HC.out (HNO.out h2l) hv)
              have wa : IntKind.i64.wrap ((k : Int) + 1) = (k : Int) + 1 := IntWalk.i64_in _ (by omega)
              have wb : IntKind.i64.wrap ((k : Int) + 2) = (k : Int) + 2 := IntWalk.i64_in _ (by omega)
              have na : ((k : Int) + 1).toNat = k + 1 := by omega
              have nb : ((k : Int) + 2).toNat = k + 2 := by omega
              have pa : 0 ≤ (k : Int) + 1 := by omega
              have pb : 0 ≤ (k : Int) + 2 := by omega
              have ca := fun W => value_any s[k + 1] W
              have cb := fun W => value_any s[k + 2] W
              have hA3 := valL_le s[k + 1]
              have hB3 := valL_le s[k + 2]
              have hA1 : (0 : Int) ≤ (valL s[k + 1] : Int) := by omega
              have hB1 : (0 : Int) ≤ (valL s[k + 2] : Int) := by omega
              rcases (show (15 : Int) < (valL s[k + 1] : Int) ∨ ((valL s[k + 1] : Int) ≤ 15 ∧ (15 : Int) < (valL s[k + 2] : Int)) by omega) with hx | ⟨hx, hy⟩
              all_goals
                clear hv hA3 hB3
                generalize valL s[k + 1] = va at *
                generalize valL s[k + 2] = vb at *
                go_wp2
                go_quiet ((first | (go_at_call 18; with_reducible exact quietly (ca _)) | (go_at_call 18; with_reducible exact quietly (cb _))))
                clear ca cb wa wb
                go_wp2
                go_ret2
                exact ⟨ret_si HN.out.1.symm HN.out.2.symm, Below.drewN' HBL.out _⟩
        · have HB := Lib.hid (HI.out.short hkl HC.out (by omega))
          have hk2 : (s.size : Int) ≤ (k : Int) + 2 := by omega
          clear h2
          go_wp2
          go_ret2
          exact ⟨ret_si HB.out.1.symm HB.out.2.symm, HBL.out⟩
      · obtain ⟨t2, t1⟩ := u8F (n := 61) hc rfl
        have HN := Lib.hid (HI.out.plain hkl hc)
        clear hc
        go_wp2_with (at_builtin; refine wp_app1 rfl (.tmp 16) (.tmp 20) rfl w.heap.size _ o rfl s[k] _ rfl HOWN.out rfl hol hwsz ?_)
        intro v' w' hown' hc'
        have HF := Lib.hid (And.intro hown' (HBL.out.trans hc'.below))
        clear hown' hc' HOWN HBL
        go_wp2
        go_roundw
        case rel => exact ⟨_, k + 1, by go_num, HF.out.1, HF.out.2, HN.out⟩
        case measure => simp [intOf]; omega
    · obtain rfl : k = s.size := by omega
      have hr := HI.out.done (by omega)
      have hcv := HOWN.out.conv
      have c1 := refencode_any ⟨o.toArray⟩ wr (by rw [lsize]; omega)
      rw [show (⟨o.toArray⟩ : ByteArray).data.toList = o from rfl] at c1
      by_cases he : enc o = s.data.toList
      · have HB := Lib.hid (dec_yes hr he)
        have hs2 : (⟨(enc o).toArray⟩ : ByteArray) = s := by rw [he]
        rw [hs2] at c1
        clear he hr hs2
        go_wp2_with fail
        refine c1.mono ?_
        rintro e w2 ⟨rfl, hb2⟩
        have hcv2 := (HOWN.out.below hb2).conv
        clear hcv c1
        go_wp2
        go_ret2
        exact ⟨ret_si HB.out.1.symm HB.out.2.symm, HBL.out.trans (hb2.mono hwsz)⟩
      · have HB := Lib.hid (dec_no hr he)
        have hne : (enc o == s.toList) = false := by
          rw [Lib.toList_data]; exact beq_false_of_ne he
        clear he hr
        go_wp2_with fail
        refine c1.mono ?_
        rintro e w2 ⟨rfl, hb2⟩
        clear c1 hcv
        go_wp2
        go_ret2
        exact ⟨ret_si HB.out.1.symm HB.out.2.symm, HBL.out.trans (hb2.mono hwsz)⟩
end Go.Proofs.YtjkonhpmfolcoaaDoor
