/- Package quoted's law folder: QuotedLines. -/
import Derived.Test.YtjkonhpmfolcoaaDoorQuotL
set_option linter.unusedVariables false
set_option linter.unusedSimpArgs false
namespace Go.Proofs.YtjkonhpmfolcoaaDoor
open Go.RowKit
def prevO (t : List UInt8) (k : Nat) : Option UInt8 := if k = 0 then none else t[k - 1]?
theorem prevO_succ {t : List UInt8} {k : Nat} (h : k < t.length) : prevO t (k + 1) = some t[k] := by
  unfold prevO
  rw [if_neg (by omega), Nat.add_sub_cancel, List.getElem?_eq_getElem h]
theorem okLn_end {t : List UInt8} {k n : Nat} (h : k + 1 < t.length) (h1 : t[k] = 13) (h2 : t[k + 1] = 10) (hok : okLn (prevO t k) n (t.drop k) = true) : blkO (prevO t k) = false ∧ okLn (prevO t (k + 2)) 0 (t.drop (k + 2)) = true := by
  rw [drop_two h, h1, h2, okLn] at hok
  have hp := prevO_succ (t := t) (k := k + 1) h
  rw [h2] at hp
  rw [hp]
  simpa using hok
theorem okLn_next {t : List UInt8} {k n : Nat} (h : k < t.length) (h1 : ∀ h2 : k + 1 < t.length, ¬ (t[k] = 13 ∧ t[k + 1] = 10)) (hok : okLn (prevO t k) n (t.drop k) = true) : n + 1 ≤ 76 ∧ okc t[k] = true ∧ okLn (prevO t (k + 1)) (n + 1) (t.drop (k + 1)) = true := by
  have hd : t.drop k = t[k] :: t.drop (k + 1) := List.drop_eq_getElem_cons h
  rw [hd, okLn_cons (fun u e => by
    injection e with e1 e2
    have h3 : k + 1 < t.length := by
      rcases Nat.lt_or_ge (k + 1) t.length with h' | h'
      · exact h'
      · rw [List.drop_eq_nil_of_le h'] at e2; cases e2
    have hd2 : t.drop (k + 1) = t[k + 1] :: t.drop (k + 1 + 1) := List.drop_eq_getElem_cons h3
    rw [hd2] at e2
    injection e2 with e2 _
    exact h1 h3 ⟨e1, e2⟩)] at hok
  rw [prevO_succ h]
  simp at hok
  exact ⟨by omega, hok.1.2, hok.2⟩
theorem blk_no {t : ByteArray} {k : Nat} (hk : k < t.size) (h0 : 0 < k) (h : blkO (prevO t.data.toList k) = false) : ((((t[k - 1]'(by omega)).toNat : Int) == 32) = false) ∧ ((((t[k - 1]'(by omega)).toNat : Int) == 9) = false) := by
  have hsz := bsize t
  unfold prevO at h
  rw [if_neg (by omega), List.getElem?_eq_getElem (by omega)] at h
  unfold blkO blk at h
  simp only [Bool.or_eq_false_iff, beq_eq_false_iff_ne] at h
  exact ⟨(u8F (d := 32) h.1 rfl).1, (u8F (d := 9) h.2 rfl).1⟩
theorem blk_end {t : ByteArray} (h0 : 0 < t.size) (h : blkO (prevO t.data.toList t.size) = false) : ((((t[t.size - 1]'(by omega)).toNat : Int) != 32) = true) ∧ ((((t[t.size - 1]'(by omega)).toNat : Int) != 9) = true) := by
  have hsz := bsize t
  unfold prevO at h
  rw [if_neg (by omega), List.getElem?_eq_getElem (by omega)] at h
  unfold blkO blk at h
  simp only [Bool.or_eq_false_iff, beq_eq_false_iff_ne] at h
  exact ⟨(u8F (d := 32) h.1 rfl).2, (u8F (d := 9) h.2 rfl).2⟩
set_option maxRecDepth 100000 in
set_option maxHeartbeats 4000000 in
theorem lines_all (s : ByteArray) (w : World) (hm : MaxAt w) (ws : s.size ≤ maxLen) :
    Calls Tryd.prog 5 #[.string s] w fun e w' => e = .returned (.bool true) ∧ Below w.heap.size w w' := by
  unfold maxLen at ws
  have HM := Lib.hid hm
  have c1 := awake_any w hm
  clear hm
  by_cases h1 : s.size ≤ 3000
  · have c2 := fun W (h : MaxAt W) => encode_any s W (by omega) h
    have hto : (⟨(enc s.data.toList).toArray⟩ : ByteArray).size ≤ 18000 := by have := enc_len s.data.toList; have := bsize s; rw [lsize]; omega
    have hok0 : okLn none 0 (⟨(enc s.data.toList).toArray⟩ : ByteArray).data.toList = true := okLn_enc s.data.toList
    generalize (⟨(enc s.data.toList).toArray⟩ : ByteArray) = t at *
    have HOK0 := Lib.hid hok0
    have htz := bsize t
    have HTZ := Lib.hid htz
    clear hok0 htz
    go_enter Tryd.func5, Tryd.ntmps5
    go_wp2_with fail
    refine c1.mono ?_
    rintro e w1 ⟨rfl, hb1⟩
    go_wp2_with fail
    refine (c2 w1 (HM.out.up hb1)).mono ?_
    rintro e w2 ⟨rfl, hb2⟩
    have HB := Lib.hid (hb1.trans (hb2.mono hb1.size))
    clear hb1 hb2 c1 c2
    go_wp2
    go_loop [4, 5] (fun n i => ∃ k m : Nat, k ≤ t.size ∧ i = .int .i64 k ∧ n = .int .i64 m ∧ m ≤ 76 ∧ okLn (prevO t.data.toList k) m (t.data.toList.drop k) = true) (fun _ i => t.size - (intOf i).toNat)
    case atStart => exact ⟨0, 0, Nat.zero_le _, rfl, rfl, by omega, HOK0.out⟩
    case round =>
      clear HOK0
      obtain ⟨k, m, hk, rfl, rfl, hm, hok⟩ := hrel
      have HOK := Lib.hid hok
      clear hok
      have hk0 : (0 : Int) ≤ k := by omega
      have hm0 : (0 : Int) ≤ m := by omega
      have hm76 : (m : Int) ≤ 76 := by omega
      by_cases hlt : k < t.size
      · have hkl : k < t.data.toList.length := by rw [HTZ.out]; exact hlt
        have hks : (k : Int) < t.size := by omega
        by_cases hend : ∃ h2 : k + 1 < t.data.toList.length, t.data.toList[k] = 13 ∧ t.data.toList[k + 1] = 10
        · obtain ⟨h2, h13, h10⟩ := hend
          obtain ⟨hbl, hok2⟩ := okLn_end h2 h13 h10 HOK.out
          have HN := Lib.hid hok2
          have h3 : k + 1 < t.size := by rw [← HTZ.out]; exact h2
          have hk2 : (k : Int) + 1 < t.size := by omega
          obtain ⟨t1, -⟩ := u8T (c := t[k]) (d := 13) (n := 13) h13 rfl
          obtain ⟨t2, -⟩ := u8T (c := t[k + 1]) (d := 10) (n := 10) h10 rfl
          clear hok2 h13 h10
          rcases Nat.eq_zero_or_pos k with hz | hz
          · have hkz : (k : Int) ≤ 0 := by omega
            clear hz hbl
            go_wp2
            go_round
            case rel => exact ⟨k + 2, 0, by omega, by go_num, rfl, by omega, HN.out⟩
            case measure => simp [intOf]; omega
          · have hkz : 0 < (k : Int) := by omega
            obtain ⟨t3, t4⟩ := blk_no hlt hz hbl
            clear hbl
            go_wp2
            go_round
            case rel => exact ⟨k + 2, 0, by omega, by go_num, rfl, by omega, HN.out⟩
            case measure => simp [intOf]; omega
        · obtain ⟨hm75, hc, hok2⟩ := okLn_next hkl (fun h2 h => hend ⟨h2, h⟩) HOK.out
          have HN := Lib.hid hok2
          have hm75' : (m : Int) + 1 ≤ 76 := by omega
          have hcc : (32 ≤ (t[k].toNat : Int) ∧ (t[k].toNat : Int) ≤ 126) ∨ ((t[k].toNat : Int) < 32 ∧ ((t[k].toNat : Int) == 9) = true) := by
            unfold okc at hc
            simp only [Bool.or_eq_true, Bool.and_eq_true, decide_eq_true_eq, beq_iff_eq] at hc
            rcases hc with ⟨h, h'⟩ | h
            · left
              have e1 : 32 ≤ t[k].toNat := h
              have e2 : t[k].toNat ≤ 126 := h'
              omega
            · right
              have e : t[k] = 9 := h
              rw [e]; decide
          have hways : (((t[k].toNat : Int) == 13) = false) ∨ (((t[k].toNat : Int) == 13) = true ∧ (t.size : Int) ≤ (k : Int) + 1) ∨ (∃ h2 : k + 1 < t.size, ((t[k].toNat : Int) == 13) = true ∧ (k : Int) + 1 < (t.size : Int) ∧ ((t[k + 1].toNat : Int) == 10) = false) := by
            by_cases h13 : t[k] = 13
            · right
              by_cases h2 : k + 1 < t.size
              · right
                refine ⟨h2, (u8T (d := 13) h13 rfl).1, by omega, (u8F (d := 10) (fun h10 => hend ⟨by rw [HTZ.out]; exact h2, h13, h10⟩) rfl).1⟩
              · left
                exact ⟨(u8T (d := 13) h13 rfl).1, by omega⟩
            · left
              exact (u8F (d := 13) h13 rfl).1
          clear hok2 hc hend
          rcases hways with t1 | ⟨t1, t2⟩ | ⟨h2, t1, t2, t3⟩
          all_goals
            rcases hcc with ⟨g1, g2⟩ | ⟨g1, g2⟩
            all_goals
              go_wp2
              go_round
              case rel => exact ⟨k + 1, m + 1, by omega, by go_num, by go_num, by omega, HN.out⟩
              case measure => simp [intOf]; omega
      · obtain rfl : k = t.size := by omega
        have hok := HOK.out
        rw [List.drop_eq_nil_of_le (by rw [HTZ.out]; omega)] at hok
        simp only [okLn, Bool.not_eq_true'] at hok
        rcases Nat.eq_zero_or_pos t.size with hz | hz
        · have hkz : ((t.size : Int) == 0) = true := beq_iff_eq.2 (by omega)
          have hle : (t.size : Int) ≤ 0 := by omega
          clear hz hok
          go_wp2
          go_ret
          exact ⟨rfl, HB.out⟩
        · obtain ⟨t3, t4⟩ := blk_end hz hok
          have hkz : ((t.size : Int) == 0) = false := by rw [beq_eq_false_iff_ne]; omega
          have hpos : 0 < (t.size : Int) := by omega
          clear hok
          go_wp2
          go_ret
          exact ⟨rfl, HB.out⟩
  · have h : (3000 : Int) < s.size := by omega
    clear h1
    go_enter Tryd.func5, Tryd.ntmps5
    go_wp2_with fail
    refine c1.mono ?_
    rintro e w1 ⟨rfl, hb1⟩
    go_wp2
    go_ret
    exact ⟨rfl, hb1⟩
end Go.Proofs.YtjkonhpmfolcoaaDoor
