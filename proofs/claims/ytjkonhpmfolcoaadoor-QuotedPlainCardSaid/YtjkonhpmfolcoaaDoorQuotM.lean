/- Package quoted's law folder: QuotedPlain. -/
import Derived.Test.YtjkonhpmfolcoaaDoorQuotL
set_option linter.unusedVariables false
set_option linter.unusedSimpArgs false
namespace Go.Proofs.YtjkonhpmfolcoaaDoor
open Go.RowKit
theorem cnt_drop {l : List UInt8} {k : Nat} (h : k < l.length) : cntP (l.drop k) = (if asIs l[k] (decide (k + 1 = l.length)) then 1 else 3) + cntP (l.drop (k + 1)) := by
  have hd : l.drop k = l[k] :: l.drop (k + 1) := List.drop_eq_getElem_cons h
  have he : (l.drop (k + 1)).isEmpty = decide (k + 1 = l.length) := by rw [Bool.eq_iff_iff]; simp [List.isEmpty_iff]; omega
  rw [hd, cntP, he]
set_option maxRecDepth 100000 in
set_option maxHeartbeats 4000000 in
theorem plain_all (s : ByteArray) (w : World) (hm : MaxAt w) (ws : s.size ≤ maxLen) :
    Calls Tryd.prog 7 #[.string s] w fun e w' => e = .returned (.bool true) ∧ Below w.heap.size w w' := by
  unfold maxLen at ws
  have HM := Lib.hid hm
  have c1 := awake_any w hm
  clear hm
  by_cases h1 : s.size ≤ 24
  · have c2 := fun W (h : MaxAt W) => encode_any s W (by omega) h
    have hsz := bsize s
    go_enter Tryd.func7, Tryd.ntmps7
    go_wp2_with fail
    refine c1.mono ?_
    rintro e w1 ⟨rfl, hb1⟩
    have HB1 := Lib.hid hb1
    have HSZ := Lib.hid hsz
    clear hb1 c1 hsz
    go_wp2
    go_loop [3, 4] (fun n i => ∃ k m : Nat, k ≤ s.size ∧ i = .int .i64 k ∧ n = .int .i64 m ∧ m ≤ 3 * k ∧ m + cntP (s.data.toList.drop k) = cntP s.data.toList ∧ ∀ c ∈ s.data.toList.take k, c ≠ 13) (fun _ i => s.size - (intOf i).toNat)
    case atStart => exact ⟨0, 0, Nat.zero_le _, rfl, rfl, Nat.le_refl _, by simp, by simp⟩
    case round =>
      obtain ⟨k, m, hk, rfl, rfl, hm3, hmk, hno⟩ := hrel
      have HMK := Lib.hid hmk
      have HNO := Lib.hid hno
      clear hmk hno
      have hk0 : (0 : Int) ≤ k := by omega
      have hm0 : (0 : Int) ≤ m := by omega
      have hm4 : (m : Int) ≤ 72 := by omega
      by_cases hlt : k < s.size
      · have hkl : k < s.data.toList.length := by rw [HSZ.out]; exact hlt
        have hks : (k : Int) < s.size := by omega
        by_cases h13 : s[k] = 13
        · obtain ⟨t1, -⟩ := u8T (n := 13) h13 rfl
          clear h13
          go_wp2
          go_ret
          exact ⟨rfl, HB1.out⟩
        · by_cases h10 : s[k] = 10
          · obtain ⟨t1, -⟩ := u8F (n := 13) h13 rfl
            obtain ⟨t2, -⟩ := u8T (n := 10) h10 rfl
            clear h13 h10
            go_wp2
            go_ret
            exact ⟨rfl, HB1.out⟩
          · obtain ⟨t1, -⟩ := u8F (n := 13) h13 rfl
            obtain ⟨t2, -⟩ := u8F (n := 10) h10 rfl
            have HN : Hid (∀ c ∈ s.data.toList.take (k + 1), c ≠ 13) := fun c hc => by
              rw [List.take_succ_eq_append_getElem hkl] at hc
              rcases List.mem_append.1 hc with h | h
              · exact HNO.out c h
              · have : c = s[k] := List.mem_singleton.1 h
                rw [this]; exact h13
            clear h13 h10
            have hcd := cnt_drop hkl
            have hcm := HMK.out
            cases ha : asIs s.data.toList[k] (decide (k + 1 = s.data.toList.length))
            · have hno := asIs_no ha
              rw [ha] at hcd
              have HC : Hid ((m + 3) + cntP (s.data.toList.drop (k + 1)) = cntP s.data.toList) := by unfold Hid; simp at hcd; omega
              have hn2 : s[k].toNat < 9 ∨ (9 < s[k].toNat ∧ s[k].toNat < 32) ∨ s[k].toNat = 61 ∨ 127 ≤ s[k].toNat ∨ (k + 1 = s.data.toList.length ∧ s[k].toNat = 32) ∨ (k + 1 = s.data.toList.length ∧ s[k].toNat = 9) := by
                rcases hno with h | h | h | h | ⟨h, h'⟩ | ⟨h, h'⟩
                · exact .inl h
                · exact .inr (.inl h)
                · exact .inr (.inr (.inl h))
                · exact .inr (.inr (.inr (.inl h)))
                · exact .inr (.inr (.inr (.inr (.inl ⟨of_decide_eq_true h, h'⟩))))
                · exact .inr (.inr (.inr (.inr (.inr ⟨of_decide_eq_true h, h'⟩))))
              clear hcd hcm ha hno
              have hsz := HSZ.out
              rcases (show (s[k].toNat : Int) < 9 ∨ (9 < (s[k].toNat : Int) ∧ (s[k].toNat : Int) < 32) ∨ (((s[k].toNat : Int) != 61) = false ∧ 33 ≤ (s[k].toNat : Int) ∧ (s[k].toNat : Int) ≤ 126) ∨ 127 ≤ (s[k].toNat : Int) ∨ ((s.size : Int) ≤ (k : Int) + 1 ∧ ((s[k].toNat : Int) == 32) = true ∧ (s[k].toNat : Int) < 33) ∨ ((s.size : Int) ≤ (k : Int) + 1 ∧ ((s[k].toNat : Int) == 32) = false ∧ ((s[k].toNat : Int) == 9) = true ∧ (s[k].toNat : Int) < 33) by
                  rcases hn2 with h | h | h | h | ⟨h, h'⟩ | ⟨h, h'⟩
                  · exact .inl (by omega)
                  · exact .inr (.inl (by omega))
                  · exact .inr (.inr (.inl ⟨by simp; omega, by omega, by omega⟩))
                  · exact .inr (.inr (.inr (.inl (by omega))))
                  · exact .inr (.inr (.inr (.inr (.inl ⟨by omega, by simp; omega, by omega⟩))))
                  · exact .inr (.inr (.inr (.inr (.inr ⟨by omega, by simp; omega, by simp; omega, by omega⟩))))) with g1 | ⟨g1, g2⟩ | ⟨g1, g2, g3⟩ | g1 | ⟨g1, g2, g3⟩ | ⟨g1, g2, g3, g4⟩
              all_goals
                clear hn2 hsz
                go_wp2
                go_round
                case rel => exact ⟨k + 1, m + 3, by omega, by go_num, by go_num, by omega, HC.out, HN.out⟩
                case measure => simp [intOf]; omega
            · have hyes := asIs_yes ha
              rw [ha] at hcd
              have HC : Hid ((m + 1) + cntP (s.data.toList.drop (k + 1)) = cntP s.data.toList) := by unfold Hid; simp at hcd; omega
              have hn2 : (33 ≤ s[k].toNat ∧ s[k].toNat < 61) ∨ (61 < s[k].toNat ∧ s[k].toNat ≤ 126) ∨ (k + 1 ≠ s.data.toList.length ∧ s[k].toNat = 32) ∨ (k + 1 ≠ s.data.toList.length ∧ s[k].toNat = 9) := by
                rcases hyes with h | h | ⟨h, h'⟩ | ⟨h, h'⟩
                · exact .inl h
                · exact .inr (.inl h)
                · exact .inr (.inr (.inl ⟨of_decide_eq_false h, h'⟩))
                · exact .inr (.inr (.inr ⟨of_decide_eq_false h, h'⟩))
              clear hcd hcm ha hyes
              have hsz := HSZ.out
              rcases (show (33 ≤ (s[k].toNat : Int) ∧ (s[k].toNat : Int) < 61) ∨ (61 < (s[k].toNat : Int) ∧ (s[k].toNat : Int) ≤ 126) ∨ ((k : Int) + 1 < (s.size : Int) ∧ ((s[k].toNat : Int) == 32) = true ∧ (s[k].toNat : Int) < 33) ∨ ((k : Int) + 1 < (s.size : Int) ∧ ((s[k].toNat : Int) == 32) = false ∧ ((s[k].toNat : Int) == 9) = true ∧ (s[k].toNat : Int) < 33) by
                  rcases hn2 with h | h | ⟨h, h'⟩ | ⟨h, h'⟩
                  · exact .inl (by omega)
                  · exact .inr (.inl (by omega))
                  · exact .inr (.inr (.inl ⟨by omega, by simp; omega, by omega⟩))
                  · exact .inr (.inr (.inr ⟨by omega, by simp; omega, by simp; omega, by omega⟩))) with ⟨g1, g2⟩ | ⟨g1, g2⟩ | ⟨g1, g2, g3⟩ | ⟨g1, g2, g3, g4⟩
              all_goals
                clear hn2 hsz
                go_wp2
                go_round
                case rel => exact ⟨k + 1, m + 1, by omega, by go_num, by go_num, by omega, HC.out, HN.out⟩
                case measure => simp [intOf]; omega
      · obtain rfl : k = s.size := by omega
        have hpl := enc_plain s.data.toList (by have h := HNO.out; rw [List.take_of_length_le (by rw [HSZ.out]; omega)] at h; exact h) (by rw [HSZ.out]; omega)
        have hcm := HMK.out
        rw [List.drop_eq_nil_of_le (by rw [HSZ.out]; omega)] at hcm
        obtain rfl : m = cntP s.data.toList := by simpa [cntP] using hcm
        have hel : (⟨(enc s.data.toList).toArray⟩ : ByteArray).size = cntP s.data.toList := by rw [lsize]; exact hpl.1
        have hge : s.size ≤ cntP s.data.toList := by rw [← HSZ.out]; exact (sgP_len s.data.toList).2.1
        by_cases hgt : s.size < cntP s.data.toList
        · have hgi : (s.size : Int) < (cntP s.data.toList : Int) := by omega
          clear hpl hcm hgt hge HMK
          generalize cntP s.data.toList = m at *
          generalize (⟨(enc s.data.toList).toArray⟩ : ByteArray) = es at *
          have HEL := Lib.hid hel
          have heq : ((es.size : Int) == (m : Int)) = true := by rw [hel]; simp
          clear hel
          go_wp2_with fail
          refine (c2 w1 (HM.out.up HB1.out)).mono ?_
          rintro e w2 ⟨rfl, hb2⟩
          replace hb2 := HB1.out.trans (hb2.mono HB1.out.size)
          go_wp2
          go_ret
          exact ⟨rfl, hb2⟩
        · have hes : (⟨(enc s.data.toList).toArray⟩ : ByteArray) = s := by rw [hpl.2 (by rw [HSZ.out]; omega)]
          have hgi : (cntP s.data.toList : Int) ≤ (s.size : Int) := by omega
          have heq : ((s.size : Int) == (cntP s.data.toList : Int)) = true := by simp; omega
          rw [hes] at c2
          clear hpl hcm hgt hge HMK hel hes
          generalize cntP s.data.toList = m at *
          go_wp2_with fail
          refine (c2 w1 (HM.out.up HB1.out)).mono ?_
          rintro e w2 ⟨rfl, hb2⟩
          replace hb2 := HB1.out.trans (hb2.mono HB1.out.size)
          go_wp2
          go_ret
          exact ⟨rfl, hb2⟩
  · have h : (24 : Int) < s.size := by omega
    clear h1
    go_enter Tryd.func7, Tryd.ntmps7
    go_wp2_with fail
    refine c1.mono ?_
    rintro e w1 ⟨rfl, hb1⟩
    go_wp2
    go_ret
    exact ⟨rfl, hb1⟩
end Go.Proofs.YtjkonhpmfolcoaaDoor
