/- Package quoted's law folder: QuotedParts, QuotedPlain. -/
import Derived.Test.YtjkonhpmfolcoaaDoorQuotK
import Derived.Lib.SmallJoins
set_option linter.unusedVariables false
set_option linter.unusedSimpArgs false
namespace Go.Proofs.YtjkonhpmfolcoaaDoor
open Go.RowKit
theorem last_ne (s : ByteArray) (h : 0 < s.size) (hl : s[s.size - 1]'(by omega) ≠ 13) : s.data.toList.getLast? ≠ some 13 := by
  have hsz := bsize s
  rw [List.getLast?_eq_getElem?, List.getElem?_eq_getElem (by omega)]
  intro e
  apply hl
  have e2 := Option.some.inj e
  have : s.data.toList[s.data.toList.length - 1]'(by omega) = s[s.size - 1]'(by omega) := by
    simp only [hsz]
    rfl
  rw [← this]; exact e2
set_option maxRecDepth 100000 in
set_option maxHeartbeats 1000000 in
theorem parts_all (s t : ByteArray) (w : World) (hm : MaxAt w) (ws : s.size ≤ maxLen) (wt : t.size ≤ maxLen) :
    Calls Tryd.prog 6 #[.string s, .string t] w fun e w' => e = .returned (.bool true) ∧ Below w.heap.size w w' := by
  unfold maxLen at ws wt
  have HM := Lib.hid hm
  have c1 := awake_any w hm
  clear hm
  by_cases h1 : s.size ≤ 2000 ∧ t.size ≤ 2000
  · obtain ⟨hs, ht⟩ := h1
    have key : s.data.toList.getLast? ≠ some 13 → (⟨(enc (s ++ ⟨#[13, 10]⟩ ++ t).data.toList).toArray⟩ : ByteArray) = ⟨(enc s.data.toList).toArray⟩ ++ ⟨#[13, 10]⟩ ++ ⟨(enc t.data.toList).toArray⟩ := fun h => by
      have e : (s ++ (⟨#[13, 10]⟩ : ByteArray) ++ t).data.toList = s.data.toList ++ ([13, 10] ++ t.data.toList) := by simp
      rw [e, show ([13, 10] ++ t.data.toList : List UInt8) = 13 :: 10 :: t.data.toList from rfl, enc_parts _ _ h]
      apply ByteArray.ext
      apply Array.ext'
      simp
    have hsz3 : (s ++ ⟨#[13, 10]⟩ ++ t).size ≤ 1000000 := by
      rw [ByteArray.size_append, ByteArray.size_append]
      show s.size + 2 + t.size ≤ _
      omega
    have c2 := fun W (h : MaxAt W) => encode_any (s ++ ⟨#[13, 10]⟩ ++ t) W hsz3 h
    have c3 := fun W (h : MaxAt W) => encode_any s W (by omega) h
    have c4 := fun W (h : MaxAt W) => encode_any t W (by omega) h
    have hes : (⟨(enc s.data.toList).toArray⟩ : ByteArray).size ≤ 12000 := by have := enc_len s.data.toList; have := bsize s; rw [lsize]; omega
    have het : (⟨(enc t.data.toList).toArray⟩ : ByteArray).size ≤ 12000 := by have := enc_len t.data.toList; have := bsize t; rw [lsize]; omega
    have MAIN : ∀ (hlast : s.data.toList.getLast? ≠ some 13) (hcase : s.size = 0 ∨ ∃ h : 0 < s.size, s[s.size - 1]'(by omega) ≠ 13), Calls Tryd.prog 6 #[.string s, .string t] w fun e w' => e = .returned (.bool true) ∧ Below w.heap.size w w' := by
      intro hlast hcase
      have hk := key hlast
      rw [hk] at c2
      clear hlast key hk hsz3
      generalize (⟨(enc s.data.toList).toArray⟩ : ByteArray) = es at *
      generalize (⟨(enc t.data.toList).toArray⟩ : ByteArray) = et at *
      rcases hcase with h0 | ⟨h0, hl⟩
      · have hz : (s.size : Int) ≤ 0 := by omega
        clear h0
        go_enter Tryd.func6, Tryd.ntmps6
        go_wp2_with fail
        refine c1.mono ?_
        rintro e w1 ⟨rfl, hb1⟩
        go_wp2_with fail
        refine (c2 w1 (HM.out.up hb1)).mono ?_
        rintro e w2 ⟨rfl, hb2⟩
        replace hb2 := hb1.trans (hb2.mono hb1.size)
        clear hb1 c2 c1
        go_wp2_with fail
        refine (c3 w2 (HM.out.up hb2)).mono ?_
        rintro e w3 ⟨rfl, hb3⟩
        replace hb3 := hb2.trans (hb3.mono hb2.size)
        clear hb2 c3
        go_wp2_with fail
        refine (c4 w3 (HM.out.up hb3)).mono ?_
        rintro e w4 ⟨rfl, hb4⟩
        replace hb4 := hb3.trans (hb4.mono hb3.size)
        clear hb3 c4
        go_wp2
        go_ret
        exact ⟨rfl, hb4⟩
      · obtain ⟨t1, -⟩ := u8F (n := 13) hl rfl
        have hz : 0 < (s.size : Int) := by omega
        clear hl
        go_enter Tryd.func6, Tryd.ntmps6
        go_wp2_with fail
        refine c1.mono ?_
        rintro e w1 ⟨rfl, hb1⟩
        go_wp2_with fail
        refine (c2 w1 (HM.out.up hb1)).mono ?_
        rintro e w2 ⟨rfl, hb2⟩
        replace hb2 := hb1.trans (hb2.mono hb1.size)
        clear hb1 c2 c1
        go_wp2_with fail
        refine (c3 w2 (HM.out.up hb2)).mono ?_
        rintro e w3 ⟨rfl, hb3⟩
        replace hb3 := hb2.trans (hb3.mono hb2.size)
        clear hb2 c3
        go_wp2_with fail
        refine (c4 w3 (HM.out.up hb3)).mono ?_
        rintro e w4 ⟨rfl, hb4⟩
        replace hb4 := hb3.trans (hb4.mono hb3.size)
        clear hb3 c4
        go_wp2
        go_ret
        exact ⟨rfl, hb4⟩
    rcases Nat.eq_zero_or_pos s.size with h0 | h0
    · refine MAIN ?_ (.inl h0)
      have hsz := bsize s
      have : s.data.toList = [] := List.eq_nil_of_length_eq_zero (by omega)
      rw [this]; simp
    · by_cases hl : s[s.size - 1]'(by omega) = 13
      · obtain ⟨t1, -⟩ := u8T (n := 13) hl rfl
        have hz : 0 < (s.size : Int) := by omega
        clear hl MAIN key c2 c3 c4 hsz3 hes het
        go_enter Tryd.func6, Tryd.ntmps6
        go_wp2_with fail
        refine c1.mono ?_
        rintro e w1 ⟨rfl, hb1⟩
        go_wp2
        go_ret
        exact ⟨rfl, hb1⟩
      · exact MAIN (last_ne s h0 hl) (.inr ⟨h0, hl⟩)
  · rcases (show (2000 : Int) < s.size ∨ ((s.size : Int) ≤ 2000 ∧ (2000 : Int) < t.size) by omega) with h | ⟨h, h'⟩
    all_goals
      clear h1
      go_enter Tryd.func6, Tryd.ntmps6
      go_wp2_with fail
      refine c1.mono ?_
      rintro e w1 ⟨rfl, hb1⟩
      go_wp2
      go_ret
      exact ⟨rfl, hb1⟩
end Go.Proofs.YtjkonhpmfolcoaaDoor
