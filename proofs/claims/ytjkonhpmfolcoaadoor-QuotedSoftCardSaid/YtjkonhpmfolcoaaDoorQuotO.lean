/- Package quoted's law folder: QuotedSoft. -/
import Derived.Test.YtjkonhpmfolcoaaDoorQuotL
set_option linter.unusedVariables false
set_option linter.unusedSimpArgs false
namespace Go.Proofs.YtjkonhpmfolcoaaDoor
open Go.RowKit
theorem ba_app (a b : List UInt8) : (⟨a.toArray⟩ : ByteArray) ++ (⟨b.toArray⟩ : ByteArray) = ⟨(a ++ b).toArray⟩ := by
  apply ByteArray.ext
  apply Array.ext'
  simp
theorem signs_end {s : List UInt8} {k : Nat} (h : k + 1 < s.length) (h1 : s[k] = 13) (h2 : s[k + 1] = 10) : signs (s.drop k) = [13, 10] ++ signs (s.drop (k + 2)) := by
  rw [drop_two h, h1, h2, signs]; rfl
theorem endsB_cond (s : ByteArray) (k : Nat) (hk : k < s.size) : endsB (s.data.toList.drop (k + 1)) = true ↔ (k + 1 = s.size ∨ ∃ h : k + 2 < s.size, s[k + 1]'(by omega) = 13 ∧ s[k + 2] = 10) := by
  have hsz := bsize s
  by_cases h2 : k + 2 < s.size
  · have hd := drop_two (l := s.data.toList) (i := k + 1) (by omega)
    rw [hd]
    constructor
    · intro h
      right
      refine ⟨h2, ?_⟩
      unfold endsB at h
      split at h
      · rename_i e; cases e
      · rename_i e
        injection e with e1 e2
        injection e2 with e2 _
        exact ⟨e1, e2⟩
      · cases h
    · rintro (h | ⟨_, h13, h10⟩)
      · omega
      · have e1 : s.data.toList[k + 1]'(by omega) = 13 := h13
        have e2 : s.data.toList[k + 1 + 1]'(by omega) = 10 := h10
        rw [e1, e2]; rfl
  · constructor
    · intro h
      left
      rcases Nat.lt_or_ge (k + 1) s.size with h' | h'
      · have hd : s.data.toList.drop (k + 1) = s.data.toList[k + 1]'(by omega) :: s.data.toList.drop (k + 1 + 1) := List.drop_eq_getElem_cons (by omega)
        rw [hd, List.drop_eq_nil_of_le (show s.data.toList.length ≤ k + 1 + 1 by omega)] at h
        unfold endsB at h
        split at h
        · rename_i e; cases e
        · rename_i e; simp at e
        · cases h
      · omega
    · rintro (h | ⟨h', _⟩)
      · rw [List.drop_eq_nil_of_le (by omega)]; rfl
      · exact absurd h' h2
theorem signs_next {s : List UInt8} {k : Nat} (h : k < s.length) (h1 : ∀ h2 : k + 1 < s.length, ¬ (s[k] = 13 ∧ s[k + 1] = 10)) : signs (s.drop k) = signL s[k] (endsB (s.drop (k + 1))) ++ signs (s.drop (k + 1)) := by
  have hd : s.drop k = s[k] :: s.drop (k + 1) := List.drop_eq_getElem_cons h
  rw [hd, signs_cons (fun u e => by
    injection e with e1 e2
    have h3 : k + 1 < s.length := by
      rcases Nat.lt_or_ge (k + 1) s.length with h' | h'
      · exact h'
      · rw [List.drop_eq_nil_of_le h'] at e2; cases e2
    have hd2 : s.drop (k + 1) = s[k + 1] :: s.drop (k + 1 + 1) := List.drop_eq_getElem_cons h3
    rw [hd2] at e2
    injection e2 with e2 _
    exact h1 h3 ⟨e1, e2⟩)]
theorem strip_soft {s : List UInt8} {k : Nat} (h : k + 2 < s.length) (h0 : s[k] = 61) (h1 : s[k + 1] = 13) (h2 : s[k + 2] = 10) : strip (s.drop k) = strip (s.drop (k + 3)) := by
  rw [List.drop_eq_getElem_cons (by omega), List.drop_eq_getElem_cons (show k + 1 < s.length by omega), List.drop_eq_getElem_cons (show k + 1 + 1 < s.length by omega), h0, h1, h2, strip]
theorem strip_next {s : List UInt8} {k : Nat} (h : k < s.length) (h1 : ∀ h2 : k + 2 < s.length, ¬ (s[k] = 61 ∧ s[k + 1] = 13 ∧ s[k + 2] = 10)) : strip (s.drop k) = [s[k]] ++ strip (s.drop (k + 1)) := by
  have hd : s.drop k = s[k] :: s.drop (k + 1) := List.drop_eq_getElem_cons h
  rw [hd, strip_cons (fun u e => by
    injection e with e1 e2
    have hl : (s.drop (k + 1)).length = u.length + 2 := by rw [e2]; simp
    rw [List.length_drop] at hl
    have h3 : k + 2 < s.length := by omega
    rw [drop_two (show k + 1 + 1 < s.length by omega)] at e2
    injection e2 with e2 e3
    injection e3 with e3 _
    exact h1 h3 ⟨e1, e2, e3⟩)]
  rfl
/-- A text that grows: with what is still to come it is all. -/
def Grow (o rest all : List UInt8) : Prop := o ++ rest = all
set_option maxRecDepth 100000 in
set_option maxHeartbeats 8000000 in
theorem soft_all (s : ByteArray) (w : World) (hm : MaxAt w) (ws : s.size ≤ maxLen) :
    Calls Tryd.prog 8 #[.string s] w fun e w' => e = .returned (.bool true) ∧ Below w.heap.size w w' := by
  unfold maxLen at ws
  have HM := Lib.hid hm
  have c1 := awake_any w hm
  clear hm
  by_cases h1 : s.size ≤ 2000
  · have c2 := fun W (h : MaxAt W) => encode_any s W (by omega) h
    have hto : (⟨(enc s.data.toList).toArray⟩ : ByteArray).size ≤ 12000 := by have := enc_len s.data.toList; have := bsize s; rw [lsize]; omega
    have hst : strip (⟨(enc s.data.toList).toArray⟩ : ByteArray).data.toList = signs s.data.toList := strip_enc s.data.toList
    generalize (⟨(enc s.data.toList).toArray⟩ : ByteArray) = t at *
    have HST := Lib.hid hst
    have hsl := signs_len s.data.toList
    have hsz := bsize s
    have htz := bsize t
    have HZ := Lib.hid (And.intro hsz htz)
    rw [hsz] at hsl
    have HSL := Lib.hid hsl
    clear hst hsl hsz htz
    go_enter Tryd.func8, Tryd.ntmps8
    go_wp2_with fail
    refine c1.mono ?_
    rintro e w1 ⟨rfl, hb1⟩
    have HB1 := Lib.hid hb1
    clear hb1 c1
    go_wp2
    go_loopw [3, 4] (fun v i wr => ∃ (k : Nat) (o : List UInt8), k ≤ s.size ∧ i = .int .i64 k ∧ v = .string ⟨o.toArray⟩ ∧ Below w.heap.size w wr ∧ Grow o (signs (s.data.toList.drop k)) (signs s.data.toList)) (fun _ i _ => s.size - (intOf i).toNat)
    case atStart => exact ⟨0, [], Nat.zero_le _, rfl, rfl, HB1.out, by simp [Grow]⟩
    case round =>
      clear HB1
      obtain ⟨k, o, hk, rfl, rfl, hbl, hg⟩ := hrel
      have hol : o.length ≤ 3 * s.size := by
        have h := HSL.out
        rw [← show o ++ _ = _ from hg, List.length_append] at h
        omega
      have hos : (⟨o.toArray⟩ : ByteArray).size ≤ 6000 := by rw [lsize]; omega
      have HBL := Lib.hid hbl
      have HG := Lib.hid hg
      obtain ⟨wo, rfl⟩ : ∃ wo : World, wo = wr := ⟨_, rfl⟩
      have hk0 : (0 : Int) ≤ k := by omega
      clear hbl hg
      by_cases hlt : k < s.size
      · have hkl : k < s.data.toList.length := by rw [HZ.out.1]; exact hlt
        have hks : (k : Int) < s.size := by omega
        by_cases hend : ∃ h2 : k + 1 < s.data.toList.length, s.data.toList[k] = 13 ∧ s.data.toList[k + 1] = 10
        · obtain ⟨h2, h13, h10⟩ := hend
          have HN : Hid (Grow (o ++ [13, 10]) (signs (s.data.toList.drop (k + 2))) (signs s.data.toList)) := by
            have h := HG.out
            unfold Grow at h
            rw [signs_end h2 h13 h10] at h
            unfold Hid Grow
            rw [List.append_assoc]; exact h
          have h3 : k + 1 < s.size := by rw [← HZ.out.1]; exact h2
          have hk2 : (k : Int) + 1 < s.size := by omega
          obtain ⟨t1, -⟩ := u8T (c := s[k]) (d := 13) (n := 13) h13 rfl
          obtain ⟨t2, -⟩ := u8T (c := s[k + 1]) (d := 10) (n := 10) h10 rfl
          have ho2 : (⟨o.toArray⟩ : ByteArray) ++ (⟨#[13, 10]⟩ : ByteArray) = ⟨(o ++ [13, 10]).toArray⟩ := ba_app o [13, 10]
          have HO2 := Lib.hid ho2
          clear h13 h10 ho2
          generalize (⟨o.toArray⟩ : ByteArray) = ob at *
          go_wp2
          go_roundw
          case rel => exact ⟨k + 2, o ++ [13, 10], by omega, by go_num, by rw [HO2.out], HBL.out, HN.out⟩
          case measure => simp [intOf]; omega
        · have HN : Hid (Grow (o ++ signL s[k] (endsB (s.data.toList.drop (k + 1)))) (signs (s.data.toList.drop (k + 1))) (signs s.data.toList)) := by
            have h := HG.out
            unfold Grow at h
            rw [signs_next hkl (fun h2 h => hend ⟨h2, h⟩)] at h
            unfold Hid Grow
            rw [List.append_assoc]; exact h
          have hec := endsB_cond s k hlt
          have hsl := signL_len s[k] (endsB (s.data.toList.drop (k + 1)))
          have hways : (((s[k].toNat : Int) == 13) = false) ∨ (((s[k].toNat : Int) == 13) = true ∧ (s.size : Int) ≤ (k : Int) + 1) ∨ (∃ h2 : k + 1 < s.size, ((s[k].toNat : Int) == 13) = true ∧ (k : Int) + 1 < (s.size : Int) ∧ ((s[k + 1].toNat : Int) == 10) = false) := by
            by_cases h13 : s[k] = 13
            · right
              by_cases h2 : k + 1 < s.size
              · right
                refine ⟨h2, (u8T (d := 13) h13 rfl).1, by omega, (u8F (d := 10) (fun h10 => hend ⟨by rw [HZ.out.1]; exact h2, h13, h10⟩) rfl).1⟩
              · left
                exact ⟨(u8T (d := 13) h13 rfl).1, by omega⟩
            · left
              exact (u8F (d := 13) h13 rfl).1
          have hlast : ((endsB (s.data.toList.drop (k + 1)) = true ∧ (((k : Int) + 1 == (s.size : Int)) = true)) ∨
              (endsB (s.data.toList.drop (k + 1)) = true ∧ (((k : Int) + 1 == (s.size : Int)) = false) ∧ ∃ h2 : k + 2 < s.size, (k : Int) + 2 < s.size ∧ (((s[k + 1]'(by omega)).toNat : Int) == 13) = true ∧ ((s[k + 2].toNat : Int) == 10) = true) ∨
              (endsB (s.data.toList.drop (k + 1)) = false ∧ (((k : Int) + 1 == (s.size : Int)) = false) ∧ (s.size : Int) ≤ (k : Int) + 2) ∨
              (endsB (s.data.toList.drop (k + 1)) = false ∧ (((k : Int) + 1 == (s.size : Int)) = false) ∧ ∃ h2 : k + 2 < s.size, (k : Int) + 2 < s.size ∧ (((s[k + 1]'(by omega)).toNat : Int) == 13) = false) ∨
              (endsB (s.data.toList.drop (k + 1)) = false ∧ (((k : Int) + 1 == (s.size : Int)) = false) ∧ ∃ h2 : k + 2 < s.size, (k : Int) + 2 < s.size ∧ (((s[k + 1]'(by omega)).toNat : Int) == 13) = true ∧ ((s[k + 2].toNat : Int) == 10) = false)) := by
            by_cases hE : k + 1 = s.size
            · left; exact ⟨hec.2 (.inl hE), beq_iff_eq.2 (by omega)⟩
            · have hEf : ((k : Int) + 1 == (s.size : Int)) = false := by rw [beq_eq_false_iff_ne]; omega
              right
              by_cases h2 : k + 2 < s.size
              · by_cases h13 : s[k + 1]'(by omega) = 13
                · by_cases h10 : s[k + 2] = 10
                  · left; exact ⟨hec.2 (.inr ⟨h2, h13, h10⟩), hEf, h2, by omega, (u8T (d := 13) h13 rfl).1, (u8T (d := 10) h10 rfl).1⟩
                  · right; right; right
                    exact ⟨by rw [Bool.eq_false_iff]; intro h; rcases hec.1 h with h | ⟨_, _, h⟩; exact hE h; exact h10 h, hEf, h2, by omega, (u8T (d := 13) h13 rfl).1, (u8F (d := 10) h10 rfl).1⟩
                · right; right; left
                  exact ⟨by rw [Bool.eq_false_iff]; intro h; rcases hec.1 h with h | ⟨_, h, _⟩; exact hE h; exact h13 h, hEf, h2, by omega, (u8F (d := 13) h13 rfl).1⟩
              · right; left
                exact ⟨by rw [Bool.eq_false_iff]; intro h; rcases hec.1 h with h | ⟨h, _⟩; exact hE h; exact h2 h, hEf, by omega⟩
          clear hec hend
          generalize hlb : endsB (s.data.toList.drop (k + 1)) = lb at *
          have c3 := sign_any s[k] lb wo
          have hso : (⟨(signL s[k] lb).toArray⟩ : ByteArray).size ≤ 3 := by rw [lsize]; omega
          have ho2 : (⟨o.toArray⟩ : ByteArray) ++ (⟨(signL s[k] lb).toArray⟩ : ByteArray) = ⟨(o ++ signL s[k] lb).toArray⟩ := ba_app _ _
          have HO2 := Lib.hid ho2
          clear hlb ho2 hsl
          generalize (⟨o.toArray⟩ : ByteArray) = ob at *
          generalize (⟨(signL s[k] lb).toArray⟩ : ByteArray) = sg at *
          rcases hways with t1 | ⟨t1, t2⟩ | ⟨h2', t1, t2, t3⟩
          all_goals
            rcases hlast with ⟨rfl, g1⟩ | ⟨rfl, g1, h2, g2, g3, g4⟩ | ⟨rfl, g1, g2⟩ | ⟨rfl, g1, h2, g2, g3⟩ | ⟨rfl, g1, h2, g2, g3, g4⟩
            all_goals try (exfalso; omega)
            all_goals
              go_wp2_with fail
              refine c3.mono ?_
              rintro e w3 ⟨rfl, hb3⟩
              have HB3 := Lib.hid (HBL.out.trans (hb3.mono HBL.out.size))
              clear hb3 c3
              go_wp2
              go_roundw
              case rel => exact ⟨k + 1, _, by omega, by go_num, by rw [HO2.out], HB3.out, HN.out⟩
              case measure => simp [intOf]; omega
      · obtain rfl : k = s.size := by omega
        have ho : o = signs s.data.toList := by
          have h := HG.out
          unfold Grow at h
          rw [List.drop_eq_nil_of_le (by rw [HZ.out.1]; omega)] at h
          simpa [signs] using h
        have hob : (⟨o.toArray⟩ : ByteArray) = ⟨(signs s.data.toList).toArray⟩ := by rw [ho]
        have HOB := Lib.hid hob
        clear ho hob
        generalize (⟨o.toArray⟩ : ByteArray) = ob at *
        go_wp2_with fail
        refine (c2 wo (HM.out.up HBL.out)).mono ?_
        rintro e w2 ⟨rfl, hb2⟩
        have HB2 := Lib.hid (HBL.out.trans (hb2.mono HBL.out.size))
        clear hb2 c2
        have HT : Hid (Grow [] (strip (t.data.toList.drop 0)) (signs s.data.toList)) := by unfold Hid Grow; rw [List.drop_zero, HST.out]; rfl
        go_wp2
        go_loop [7, 8] (fun v i => ∃ (j : Nat) (p : List UInt8), j ≤ t.size ∧ i = .int .i64 j ∧ v = .string ⟨p.toArray⟩ ∧ p.length ≤ j ∧ Grow p (strip (t.data.toList.drop j)) (signs s.data.toList)) (fun _ i => t.size - (intOf i).toNat)
        case atStart => exact ⟨0, [], Nat.zero_le _, rfl, rfl, Nat.le_refl _, HT.out⟩
        case round =>
          clear HT
          obtain ⟨j, p, hj, rfl, rfl, hpl, hg⟩ := hrel
          have HG2 := Lib.hid hg
          have hos2 : (⟨p.toArray⟩ : ByteArray).size ≤ 12000 := by rw [lsize]; omega
          have hj0 : (0 : Int) ≤ j := by omega
          clear hg
          by_cases hlt2 : j < t.size
          · have hjl : j < t.data.toList.length := by rw [HZ.out.2]; exact hlt2
            have hjs : (j : Int) < t.size := by omega
            by_cases hend : ∃ h2 : j + 2 < t.data.toList.length, t.data.toList[j] = 61 ∧ t.data.toList[j + 1] = 13 ∧ t.data.toList[j + 2] = 10
            · obtain ⟨h2, h61, h13, h10⟩ := hend
              have HN : Hid (Grow p (strip (t.data.toList.drop (j + 3))) (signs s.data.toList)) := by
                have h := HG2.out
                rw [strip_soft h2 h61 h13 h10] at h
                exact h
              have h3 : j + 2 < t.size := by rw [← HZ.out.2]; exact h2
              have hj2 : (j : Int) + 2 < t.size := by omega
              obtain ⟨t0, -⟩ := u8T (c := t[j]) (d := 61) (n := 61) h61 rfl
              obtain ⟨t1, -⟩ := u8T (c := t[j + 1]) (d := 13) (n := 13) h13 rfl
              obtain ⟨t2, -⟩ := u8T (c := t[j + 2]) (d := 10) (n := 10) h10 rfl
              clear h61 h13 h10
              go_wp2
              go_round
              case rel => exact ⟨j + 3, p, by omega, by go_num, rfl, by omega, HN.out⟩
              case measure => simp [intOf]; omega
            · have HN : Hid (Grow (p ++ [t[j]]) (strip (t.data.toList.drop (j + 1))) (signs s.data.toList)) := by
                have h := HG2.out
                unfold Grow at h
                rw [strip_next hjl (fun h2 h => hend ⟨h2, h⟩)] at h
                unfold Hid Grow
                rw [List.append_assoc]; exact h
              have hways : (((t[j].toNat : Int) == 61) = false) ∨ (((t[j].toNat : Int) == 61) = true ∧ (t.size : Int) ≤ (j : Int) + 2) ∨ (∃ h2 : j + 2 < t.size, ((t[j].toNat : Int) == 61) = true ∧ (j : Int) + 2 < (t.size : Int) ∧ (((t[j + 1]'(by omega)).toNat : Int) == 13) = false) ∨
                  (∃ h2 : j + 2 < t.size, ((t[j].toNat : Int) == 61) = true ∧ (j : Int) + 2 < (t.size : Int) ∧ (((t[j + 1]'(by omega)).toNat : Int) == 13) = true ∧ ((t[j + 2].toNat : Int) == 10) = false) := by
                by_cases h61 : t[j] = 61
                · right
                  by_cases h2 : j + 2 < t.size
                  · right
                    by_cases h13 : t[j + 1]'(by omega) = 13
                    · right
                      exact ⟨h2, (u8T (d := 61) h61 rfl).1, by omega, (u8T (d := 13) h13 rfl).1, (u8F (d := 10) (fun h10 => hend ⟨by rw [HZ.out.2]; exact h2, h61, h13, h10⟩) rfl).1⟩
                    · left
                      exact ⟨h2, (u8T (d := 61) h61 rfl).1, by omega, (u8F (d := 13) h13 rfl).1⟩
                  · left
                    exact ⟨(u8T (d := 61) h61 rfl).1, by omega⟩
                · left
                  exact (u8F (d := 61) h61 rfl).1
              have hex : t.extract j (j + 1) = ⟨[t[j]].toArray⟩ := by
                apply ByteArray.ext
                apply Array.ext'
                rw [ext_list, List.drop_eq_getElem_cons hjl, Nat.add_sub_cancel_left]
                rfl
              have ho2 : (⟨p.toArray⟩ : ByteArray) ++ t.extract j (j + 1) = ⟨(p ++ [t[j]]).toArray⟩ := by rw [hex]; exact ba_app _ _
              have HO2 := Lib.hid ho2
              have hex2 : (t.extract j (j + 1)).size = 1 := by rw [hex]; rfl
              clear hend hex ho2
              generalize hpp : (⟨p.toArray⟩ : ByteArray) = pb at *
              clear hpp
              rcases hways with t0 | ⟨t0, t1⟩ | ⟨h2, t0, t1, t2⟩ | ⟨h2, t0, t1, t2, t3⟩
              all_goals
                go_wp2
                go_round
                case rel => exact ⟨j + 1, p ++ [t[j]], by omega, by go_num, by rw [HO2.out], by simp; omega, HN.out⟩
                case measure => simp [intOf]; omega
          · obtain rfl : j = t.size := by omega
            have ho2 : p = signs s.data.toList := by
              have h := HG2.out
              unfold Grow at h
              rw [List.drop_eq_nil_of_le (by rw [HZ.out.2]; omega)] at h
              simpa [strip] using h
            subst ho2
            have heq : (signs s.data.toList == ob.toList) = true := by rw [HOB.out, Lib.toList_data]; exact beq_self_eq_true _
            go_wp2
            go_ret
            exact ⟨rfl, HB2.out⟩
  · have h : (2000 : Int) < s.size := by omega
    clear h1
    go_enter Tryd.func8, Tryd.ntmps8
    go_wp2_with fail
    refine c1.mono ?_
    rintro e w1 ⟨rfl, hb1⟩
    go_wp2
    go_ret
    exact ⟨rfl, hb1⟩
end Go.Proofs.YtjkonhpmfolcoaaDoor
