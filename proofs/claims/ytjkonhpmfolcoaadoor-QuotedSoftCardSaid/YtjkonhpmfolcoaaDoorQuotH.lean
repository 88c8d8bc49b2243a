/- Package quoted: Decode's walk. -/
import Derived.Test.YtjkonhpmfolcoaaDoorQuotG
import Derived.IntWalk
set_option linter.unusedVariables false
set_option linter.unusedSimpArgs false
namespace Go.Proofs.YtjkonhpmfolcoaaDoor
open Go.RowKit
theorem idx_yes (c : UInt8) (h : valL c < 16) (w : World) : Calls Tryd.prog 17 #[.string ⟨#[48, 49, 50, 51, 52, 53, 54, 55, 56, 57, 65, 66, 67, 68, 69, 70]⟩, .int .u8 c.toNat] w fun e w' => e = .returned (.int .i64 (valL c)) ∧ w' = w := by
  have h1 := Tryd.strings_IndexByte ⟨#[48, 49, 50, 51, 52, 53, 54, 55, 56, 57, 65, 66, 67, 68, 69, 70]⟩ c.toNat w
  have e : ((c.toNat : Int).toNat.toUInt8) = c := by simp
  rw [e, show (⟨#[48, 49, 50, 51, 52, 53, 54, 55, 56, 57, 65, 66, 67, 68, 69, 70]⟩ : ByteArray).data.toList = [48, 49, 50, 51, 52, 53, 54, 55, 56, 57, 65, 66, 67, 68, 69, 70] from rfl, index_of, if_pos h] at h1
  exact h1
theorem idx_no (c : UInt8) (h : ¬ valL c < 16) (w : World) : Calls Tryd.prog 17 #[.string ⟨#[48, 49, 50, 51, 52, 53, 54, 55, 56, 57, 65, 66, 67, 68, 69, 70]⟩, .int .u8 c.toNat] w fun e w' => e = .returned (.int .i64 (-1)) ∧ w' = w := by
  have h1 := Tryd.strings_IndexByte ⟨#[48, 49, 50, 51, 52, 53, 54, 55, 56, 57, 65, 66, 67, 68, 69, 70]⟩ c.toNat w
  have e : ((c.toNat : Int).toNat.toUInt8) = c := by simp
  rw [e, show (⟨#[48, 49, 50, 51, 52, 53, 54, 55, 56, 57, 65, 66, 67, 68, 69, 70]⟩ : ByteArray).data.toList = [48, 49, 50, 51, 52, 53, 54, 55, 56, 57, 65, 66, 67, 68, 69, 70] from rfl, index_of, if_neg h] at h1
  exact h1
theorem or_fin64 : ∀ a b : Fin 16, bits BinOp.or IntKind.i64 (((a.val : Nat) : Int) * 16) ((b.val : Nat) : Int) = ((16 * a.val + b.val : Nat) : Int) := by decide +kernel
theorem or_digs {a b : Nat} (ha : a < 16) (hb : b < 16) : bits BinOp.or IntKind.i64 ((a : Int) * 16) (b : Int) % 256 = ((UInt8.ofNat (16 * a + b)).toNat : Int) := by
  have h := or_fin64 ⟨a, ha⟩ ⟨b, hb⟩
  simp only at h
  rw [h, UInt8.toNat_ofNat']
  omega
theorem Below.undrewN' {B n : Nat} {w w' : World} (h : Below B (w.drewN n) w') : Below B w w' := ⟨h.os, h.tape, h.output, h.size, h.block⟩
theorem prefix_crlf (s : ByteArray) (k : Nat) (hk : k ≤ s.size) : Lib.hasPrefix (s.extract k s.size).data.toList [13, 10] = true ↔ ∃ h : k + 1 < s.data.toList.length, s.data.toList[k] = 13 ∧ s.data.toList[k + 1] = 10 := by
  have hsz := bsize s
  rw [ext_list, List.take_of_length_le (by rw [List.length_drop]; omega)]
  unfold Lib.hasPrefix
  constructor
  · intro h
    have hl := (List.isPrefixOf_iff_prefix.1 h).length_le
    simp only [List.length_cons, List.length_nil, List.length_drop] at hl
    refine ⟨by omega, ?_⟩
    rw [drop_two (by omega)] at h
    simp [List.isPrefixOf] at h
    exact ⟨h.1.symm, h.2.symm⟩
  · rintro ⟨h, h1, h2⟩
    rw [drop_two h, h1, h2]
    simp [List.isPrefixOf]
set_option maxRecDepth 100000 in
set_option maxHeartbeats 4000000 in
theorem decode_any (s : ByteArray) (w : World) (hs : s.size ≤ 1000000) (hm : MaxAt w) :
    Calls Tryd.prog 10 #[.string s] w fun e w' => e = .returned (.tuple #[.string (decS s.data.toList), .int .i64 (decC s.data.toList)]) ∧ Below w.heap.size w w' := by
  have hsz := bsize s
  have HM := Lib.hid hm
  clear hm
  go_enter Tryd.func10, Tryd.ntmps10
  go_wp2
  go_loopw [4, 5] (fun v i wr => ∃ (o : List UInt8) (k : Nat), i = .int .i64 k ∧ BS wr w.heap.size v o ∧ Below w.heap.size w wr ∧ DcI s.data.toList o k) (fun _ i _ => s.size - (intOf i).toNat)
  case atStart => exact ⟨[], 0, rfl, BS.nil _ _, Below.refl _ _, DcI.start _⟩
  case round =>
    obtain ⟨o, k, rfl, hown, hbl, hI⟩ := hrel
    have hI1 := hI.1
    have hI2 := hI.2.2
    have HOWN := Lib.hid hown
    have HBL := Lib.hid hbl
    have HI := Lib.hid hI
    have HSZ := Lib.hid hsz
    have hwsz := hbl.size
    rw [hsz] at hI1
    have hk0 : (0 : Int) ≤ k := by omega
    have hks : (k : Int) ≤ s.size := by omega
    clear hown hbl hI
    by_cases hlt : k < s.size
    · have hkl : k < s.data.toList.length := by omega
      have hk1 : (k : Int) < s.size := by omega
      have hol : o.length + 1 ≤ 70368744177664 := by omega
      by_cases hc : s[k] = 61
      · obtain ⟨t2, t1⟩ := u8T (n := 61) hc rfl
        have HC : Hid (s.data.toList[k] = 61) := hc
        clear hc
        have c1 := Tryd.strings_HasPrefix (s.extract (k + 1) s.size) ⟨#[13, 10]⟩ wr
        by_cases hp : Lib.hasPrefix (s.extract (k + 1) s.size).data.toList [13, 10] = true
        · obtain ⟨h2, h13, h10⟩ := (prefix_crlf s (k + 1) (by omega)).1 hp
          have HN := Lib.hid (HI.out.soft h2 HC.out h13 h10)
          have hk2 : (k : Int) + 2 < s.size := by omega
          rw [show (⟨#[13, 10]⟩ : ByteArray).data.toList = [13, 10] from rfl, hp] at c1
          clear hp h2 h13 h10
          go_wp2_with (go_at_call 16; refine c1.mono ?_; rintro e w' ⟨rfl, rfl⟩)
          go_roundw
          case rel => exact ⟨o, k + 3, by go_num, HOWN.out, HBL.out, HN.out⟩
          case measure => simp [intOf]; omega
        · have hno : ∀ h2 : k + 2 < s.data.toList.length, ¬ (s.data.toList[k + 1] = 13 ∧ s.data.toList[k + 2] = 10) := fun h2 h => hp ((prefix_crlf s (k + 1) (by omega)).2 ⟨h2, h⟩)
          rw [show (⟨#[13, 10]⟩ : ByteArray).data.toList = [13, 10] from rfl, Bool.eq_false_iff.2 hp] at c1
          have HNO := Lib.hid hno
          clear hp hno
          by_cases h2 : k + 2 < s.size
          · have h2l : k + 2 < s.data.toList.length := by omega
            have hk2 : (k : Int) + 2 < s.size := by omega
            have hk3 : (k : Int) + 1 < s.size := by omega
            by_cases hv : valL s[k + 1] < 16 ∧ valL s[k + 2] < 16
            · obtain ⟨hva, hvb⟩ := hv
              obtain ⟨cc, hcc⟩ : ∃ cc, cc = UInt8.ofNat (16 * valL s[k + 1] + valL s[k + 2]) := ⟨_, rfl⟩
              have HN : Hid (DcI s.data.toList (o ++ [cc]) (k + 3)) := by unfold Hid; rw [hcc]; exact HI.out.code h2l HC.out (HNO.out h2l) hva hvb
              have HCC := Lib.hid hcc
              clear hcc
              have ca := idx_yes s[k + 1] hva
              have cb := idx_yes s[k + 2] hvb
              have hA1 : (0 : Int) ≤ (valL s[k + 1] : Int) := by omega
              have hB1 : (0 : Int) ≤ (valL s[k + 2] : Int) := by omega
              have hA2 : (valL s[k + 1] : Int) < 16 := by omega
              have hB2 : (valL s[k + 2] : Int) < 16 := by omega
              have wa : IntKind.i64.wrap ((k : Int) + 1) = (k : Int) + 1 := IntWalk.i64_in _ (by omega)
              have wb : IntKind.i64.wrap ((k : Int) + 2) = (k : Int) + 2 := IntWalk.i64_in _ (by omega)
              have na : ((k : Int) + 1).toNat = k + 1 := by omega
              have nb : ((k : Int) + 2).toNat = k + 2 := by omega
              have pa : 0 ≤ (k : Int) + 1 := by omega
              have pb : 0 ≤ (k : Int) + 2 := by omega
              generalize valL s[k + 1] = va at *
              generalize valL s[k + 2] = vb at *
              go_wp2_with (go_at_call 16; refine c1.mono ?_; rintro e w' ⟨rfl, rfl⟩)
              go_quiet ((first | (go_at_call 17; with_reducible exact Calls.quiet_of_same (ca _)) | (go_at_call 17; with_reducible exact Calls.quiet_of_same (cb _))))
              clear ca cb c1 wa wb
              go_wp2_with (at_builtin; refine wp_app1 rfl (.tmp 58) (.tmp 64) rfl w.heap.size _ o rfl cc _ (by rw [HCC.out]; exact or_digs hva hvb) (HOWN.out.drewN nq) rfl hol hwsz ?_)
              intro v' w'' hown' hc'
              have HF := Lib.hid (And.intro hown' (HBL.out.trans (Below.undrewN' hc'.below)))
              clear hown' hc' HOWN HBL
              go_wp2
              go_roundw
              case rel => exact ⟨_, k + 3, by go_num, HF.out.1, HF.out.2, HN.out⟩
              case measure => simp [intOf]; omega
            · have HN := Lib.hid (HI.out.bad h2l HC.out (HNO.out h2l) hv)
              have wa : IntKind.i64.wrap ((k : Int) + 1) = (k : Int) + 1 := IntWalk.i64_in _ (by omega)
              have wb : IntKind.i64.wrap ((k : Int) + 2) = (k : Int) + 2 := IntWalk.i64_in _ (by omega)
              have na : ((k : Int) + 1).toNat = k + 1 := by omega
              have nb : ((k : Int) + 2).toNat = k + 2 := by omega
              have pa : 0 ≤ (k : Int) + 1 := by omega
              have pb : 0 ≤ (k : Int) + 2 := by omega
              by_cases hva : valL s[k + 1] < 16
              · have hvb : ¬ valL s[k + 2] < 16 := fun h => hv ⟨hva, h⟩
                have ca := idx_yes s[k + 1] hva
                have cb := idx_no s[k + 2] hvb
                have hA1 : (0 : Int) ≤ (valL s[k + 1] : Int) := by omega
                clear hv hvb
                generalize valL s[k + 1] = va at *
                go_wp2_with (go_at_call 16; refine c1.mono ?_; rintro e w' ⟨rfl, rfl⟩)
                go_quiet ((first | (go_at_call 17; with_reducible exact Calls.quiet_of_same (ca _)) | (go_at_call 17; with_reducible exact Calls.quiet_of_same (cb _))))
                clear ca cb c1 wa wb
                go_wp2
                go_ret2
                exact ⟨ret_si HN.out.1.symm HN.out.2.symm, Below.drewN' HBL.out _⟩
              · have ca := idx_no s[k + 1] hva
                by_cases hvb : valL s[k + 2] < 16
                · have cb := idx_yes s[k + 2] hvb
                  clear hv hva
                  generalize valL s[k + 2] = vb at *
                  go_wp2_with (go_at_call 16; refine c1.mono ?_; rintro e w' ⟨rfl, rfl⟩)
                  go_quiet ((first | (go_at_call 17; with_reducible exact Calls.quiet_of_same (ca _)) | (go_at_call 17; with_reducible exact Calls.quiet_of_same (cb _))))
                  clear ca cb c1 wa wb
                  go_wp2
                  go_ret2
                  exact ⟨ret_si HN.out.1.symm HN.out.2.symm, Below.drewN' HBL.out _⟩
                · have cb := idx_no s[k + 2] hvb
                  clear hv hva hvb
                  go_wp2_with (go_at_call 16; refine c1.mono ?_; rintro e w' ⟨rfl, rfl⟩)
                  go_quiet ((first | (go_at_call 17; with_reducible exact Calls.quiet_of_same (ca _)) | (go_at_call 17; with_reducible exact Calls.quiet_of_same (cb _))))
                  clear ca cb c1 wa wb
                  go_wp2
                  go_ret2
                  exact ⟨ret_si HN.out.1.symm HN.out.2.symm, Below.drewN' HBL.out _⟩
          · have HB := Lib.hid (HI.out.short hkl HC.out (by omega))
            have hk2 : (s.size : Int) ≤ (k : Int) + 2 := by omega
            clear h2
            go_wp2_with (go_at_call 16; refine c1.mono ?_; rintro e w' ⟨rfl, rfl⟩)
            go_ret2
            exact ⟨ret_si HB.out.1.symm HB.out.2.symm, HBL.out⟩
      · obtain ⟨t2, t1⟩ := u8F (n := 61) hc rfl
        have HN := Lib.hid (HI.out.plain hkl hc)
        clear hc
        go_wp2_with (at_builtin; refine wp_app1 rfl (.tmp 31) (.tmp 35) rfl w.heap.size _ o rfl s[k] _ rfl HOWN.out rfl hol hwsz ?_)
        intro v' w' hown' hc'
        have HF := Lib.hid (And.intro hown' (HBL.out.trans hc'.below))
        clear hown' hc' HOWN HBL
        go_wp2
        go_roundw
        case rel => exact ⟨_, k + 1, by go_num, HF.out.1, HF.out.2, HN.out⟩
        case measure => simp [intOf]; omega
    · obtain rfl : k = s.size := by omega
      have hr := HI.out.done (by omega)
      have hcv := HOWN.out.conv
      have c1 := encode_any ⟨o.toArray⟩ wr (by rw [lsize]; omega) (HM.out.up HBL.out)
      rw [show (⟨o.toArray⟩ : ByteArray).data.toList = o from rfl] at c1
      by_cases he : enc o = s.data.toList
      · have HB := Lib.hid (dec_yes hr he)
        have hs2 : (⟨(enc o).toArray⟩ : ByteArray) = s := by rw [he]
        rw [hs2] at c1
        clear he hr hs2
        go_wp2_with fail
        refine c1.mono ?_
        rintro e w2 ⟨rfl, hb2⟩
        have hcv2 := (HOWN.out.below hb2).conv
        clear hcv c1
        go_wp2
        go_ret2
        exact ⟨ret_si HB.out.1.symm HB.out.2.symm, HBL.out.trans (hb2.mono hwsz)⟩
      · have HB := Lib.hid (dec_no hr he)
        have hne : (enc o == s.toList) = false := by
          rw [Lib.toList_data]; exact beq_false_of_ne he
        clear he hr
        go_wp2_with fail
        refine c1.mono ?_
        rintro e w2 ⟨rfl, hb2⟩
        clear c1 hcv
        go_wp2
        go_ret2
        exact ⟨ret_si HB.out.1.symm HB.out.2.symm, HBL.out.trans (hb2.mono hwsz)⟩
end Go.Proofs.YtjkonhpmfolcoaaDoor
