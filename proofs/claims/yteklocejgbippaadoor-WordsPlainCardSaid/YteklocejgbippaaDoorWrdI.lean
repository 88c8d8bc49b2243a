/- Package words' law folder: WordsBack, WordsPlain. -/
import Derived.Test.YteklocejgbippaaDoorWrdG
set_option linter.unusedVariables false
set_option linter.unusedSimpArgs false
namespace Go.Proofs.YteklocejgbippaaDoor
open Go.RowKit
set_option maxRecDepth 100000 in
set_option maxHeartbeats 4000000 in
theorem back_all (s t : ByteArray) (w : World) (hm : MaxAt w) (ws : s.size ≤ maxLen) (wt : t.size ≤ maxLen) :
    Calls Tryd.prog 4 #[.string s, .string t] w fun e w' => e = .returned (.bool true) ∧ Below w.heap.size w w' := by
  unfold maxLen at ws wt
  have c1 := awake_any w hm
  by_cases h1 : s.size ≤ 1000 ∧ t.size ≤ 2000
  · obtain ⟨hs, ht⟩ := h1
    have hsz := bsize s
    have c2 := fun W hM => wencode_any s W hM (by omega)
    obtain ⟨L, hL⟩ : ∃ L : ByteArray, L = ⟨(wEnc s.data.toList).toArray⟩ := ⟨_, rfl⟩
    have hLd : L.data.toList = wEnc s.data.toList := by rw [hL]
    have hLb := wEnc_bytes s.data.toList
    rw [← hLd] at hLb
    have hLl := wEnc_len s.data.toList
    have hLz : L.size ≤ 50000 := by rw [hL, lsize]; omega
    have hLs := bsize L
    rw [← hL] at c2
    have c3 := fun W hM => wdecode_any L W hM hLz
    have hds := wd_some (show wDec L.data.toList = some s.data.toList by rw [hLd]; exact wDec_enc _)
    rw [hds.1, hds.2, show (⟨s.data.toList.toArray⟩ : ByteArray) = s from rfl] at c3
    have c4 := fun W hM => wdecode_any t W hM (by omega)
    have hd : (∃ o : ByteArray, wDec t.data.toList = some o.data.toList ∧ o.size ≤ 50000) ∨ wDec t.data.toList = none := by
      cases hd : wDec t.data.toList with
      | none => exact .inr rfl
      | some o =>
        left
        have h1 := wDec_len hd
        rw [bsize] at h1
        exact ⟨⟨o.toArray⟩, rfl, by rw [lsize]; omega⟩
    have hsi : (s.size : Int) ≤ 1000 := by omega
    have hti : (t.size : Int) ≤ 2000 := by omega
    have hLi : (L.size : Int) ≤ 50000 := by omega
    have HD := Lib.hid hd
    have HM := Lib.hid hm
    have HLB := Lib.hid (And.intro hLb hLs)
    clear hm hd hL hLd hLb hLl hLz hds hLs
    go_enter Tryd.func4, Tryd.ntmps4
    go_wp2_with fail
    refine c1.mono ?_
    rintro e w1 ⟨rfl, hb1⟩
    have H1 := Lib.hid hb1
    clear c1 hb1
    go_wp2_with fail
    refine (c2 w1 (HM.out.below (H1.out.mono (Nat.le_refl _)))).mono ?_
    rintro e w2 ⟨rfl, hb2⟩
    have H2 := Lib.hid (H1.out.trans (hb2.mono H1.out.size))
    clear c2 hb2
    go_wp2
    go_loop [6] (fun i => ∃ k : Nat, k ≤ L.size ∧ i = .int .i64 k) (fun i => L.size - (intOf i).toNat)
    case atStart => exact ⟨0, Nat.zero_le _, rfl⟩
    case round =>
      obtain ⟨k, hk, rfl⟩ := hrel
      have hk0 : (0 : Int) ≤ (k : Int) := by omega
      by_cases hkb : k < L.size
      · have hki : (k : Int) < L.size := by omega
        have hkl : k < L.data.toList.length := by have := HLB.out.2; omega
        obtain ⟨c, hc⟩ : ∃ c, c = L.data.toList[k]'hkl := ⟨_, rfl⟩
        have hbt : ∀ h, (L[k]'h) = c := fun h => by rw [hc]; simp; rfl
        have hok := HLB.out.1 _ (List.getElem_mem hkl)
        rw [← hc] at hok
        unfold okB at hok
        rw [decide_eq_true_iff] at hok
        have z1 : (32 : Int) ≤ (c.toNat : Int) := by omega
        have z2 : (c.toNat : Int) ≤ 126 := by omega
        clear hc hok
        go_wp2
        go_round
        case rel => exact ⟨k + 1, by omega, by go_num⟩
        case measure => simp [intOf]; omega
      · have hki : ¬ (k : Int) < L.size := by omega
        go_wp2_with fail
        refine (c3 _ (HM.out.below (H2.out.mono (Nat.le_refl _)))).mono ?_
        rintro e w3 ⟨rfl, hb3⟩
        have H3 := Lib.hid (H2.out.trans (hb3.mono H2.out.size))
        clear c3 hb3
        rcases HD.out with ⟨o, ho, hoz⟩ | ho
        · have ho2 := wd_some ho
          rw [ho2.1, ho2.2, show (⟨o.data.toList.toArray⟩ : ByteArray) = o from rfl] at c4
          have c5 := fun W hM => wencode_any o W hM (by omega)
          have hte : (⟨(wEnc o.data.toList).toArray⟩ : ByteArray) = t := by rw [← (wDec_iff _ _).1 ho]
          rw [hte] at c5
          clear ho ho2 hte
          go_wp2_with fail
          refine (c4 w3 (HM.out.below (H3.out.mono (Nat.le_refl _)))).mono ?_
          rintro e w4 ⟨rfl, hb4⟩
          have H4 := Lib.hid (H3.out.trans (hb4.mono H3.out.size))
          clear c4 hb4
          go_wp2_with fail
          refine (c5 w4 (HM.out.below (H4.out.mono (Nat.le_refl _)))).mono ?_
          rintro e w5 ⟨rfl, hb5⟩
          have H5 := Lib.hid (H4.out.trans (hb5.mono H4.out.size))
          clear c5 hb5
          go_wp2
          go_ret
          exact ⟨rfl, H5.out⟩
        · have ho2 := wd_none ho
          rw [ho2.1, ho2.2] at c4
          clear ho ho2
          go_wp2_with fail
          refine (c4 w3 (HM.out.below (H3.out.mono (Nat.le_refl _)))).mono ?_
          rintro e w4 ⟨rfl, hb4⟩
          have H4 := Lib.hid (H3.out.trans (hb4.mono H3.out.size))
          clear c4 hb4
          go_wp2
          go_ret
          exact ⟨rfl, H4.out⟩
  · rcases (show (1000 : Int) < s.size ∨ ((s.size : Int) ≤ 1000 ∧ (2000 : Int) < t.size) by omega) with h | ⟨h, h'⟩
    all_goals
      clear h1 hm
      go_enter Tryd.func4, Tryd.ntmps4
      go_wp2_with fail
      refine c1.mono ?_
      rintro e w1 ⟨rfl, hb1⟩
      go_wp2
      go_ret
      exact ⟨rfl, hb1⟩
theorem wrds_more (s : List UInt8) : s.length + 12 * (wrds s).length ≤ ((wrds s).map List.length).sum := by
  by_cases h : s = []
  · rw [h, wrds_nil]; simp
  · have hp := List.length_pos_iff.2 h
    have ih := wrds_more (s.drop 45)
    rw [wrds_cons h, List.map_cons, List.sum_cons, wrd_len, List.length_take, List.length_cons]
    rw [List.length_drop] at ih
    omega
termination_by s.length
decreasing_by
  have := List.length_pos_iff.2 h
  simp; omega
theorem join_more : ∀ l : List (List UInt8), (l.map List.length).sum ≤ (joinS l).length
  | [] => by simp
  | [a] => by simp [joinS]
  | a :: b :: r => by
    have ih := join_more (b :: r)
    rw [joinS, List.map_cons, List.sum_cons, List.length_append, List.length_cons]
    omega
theorem wEnc_longer {s : List UInt8} (h : plainB s = false) : s.length < (wEnc s).length := by
  have hn := not_plain_ne h
  have h1 := wrds_more s
  have h2 := join_more (wrds s)
  have h3 := List.length_pos_iff.2 (wrds_ne hn)
  unfold wEnc
  rw [if_neg (by rw [h]; simp)]
  omega
set_option maxRecDepth 100000 in
set_option maxHeartbeats 4000000 in
theorem plain_all (s : ByteArray) (w : World) (hm : MaxAt w) (ws : s.size ≤ maxLen) :
    Calls Tryd.prog 5 #[.string s] w fun e w' => e = .returned (.bool true) ∧ Below w.heap.size w w' := by
  unfold maxLen at ws
  have c1 := awake_any w hm
  by_cases h1 : s.size ≤ 1000
  · have hsz := bsize s
    have hsi : (s.size : Int) ≤ 1000 := by omega
    have c2 := fun W hM => wencode_any s W hM (by omega)
    have c3 := fun W hM => plain_any s W hM (by omega)
    have HM := Lib.hid hm
    by_cases hp : plainB s.data.toList = true
    · rw [hp] at c3
      have e : wEnc s.data.toList = s.data.toList := by unfold wEnc; rw [if_pos hp]
      rw [e, show (⟨s.data.toList.toArray⟩ : ByteArray) = s from rfl] at c2
      clear hm h1 hp e
      go_enter Tryd.func5, Tryd.ntmps5
      go_wp2_with fail
      refine c1.mono ?_
      rintro e w1 ⟨rfl, hb1⟩
      have H1 := Lib.hid hb1
      clear c1 hb1
      go_wp2_with fail
      refine (c2 w1 (HM.out.below (H1.out.mono (Nat.le_refl _)))).mono ?_
      rintro e w2 ⟨rfl, hb2⟩
      have H2 := Lib.hid (H1.out.trans (hb2.mono H1.out.size))
      clear c2 hb2
      go_wp2_with fail
      refine (c3 w2 (HM.out.below (H2.out.mono (Nat.le_refl _)))).mono ?_
      rintro e w2 ⟨rfl, rfl⟩
      clear c3
      go_wp2
      go_ret
      exact ⟨rfl, H2.out⟩
    · have hp2 : plainB s.data.toList = false := by simpa using hp
      rw [hp2] at c3
      obtain ⟨L, hL⟩ : ∃ L : ByteArray, L = ⟨(wEnc s.data.toList).toArray⟩ := ⟨_, rfl⟩
      have hLd : L.data.toList = wEnc s.data.toList := by rw [hL]
      have hLs := bsize L
      have hLl := wEnc_len s.data.toList
      have hLz : L.size ≤ 50000 := by rw [hL, lsize]; omega
      rw [← hL] at c2
      have hrun := okRun_enc hp2
      have hend := wEnc_ends hp2
      rw [← hLd] at hrun hend
      obtain ⟨he1, he2, he3, he4⟩ := hend
      rw [hLs] at he2 he3
      have c4 := fun W hM => plain_any L W hM (by omega)
      rw [he4] at c4
      have hne : (L.toList == s.toList) = false := by
        rw [Lib.toList_data, Lib.toList_data]
        refine beq_false_of_ne fun e => ?_
        have h1 := wEnc_longer hp2
        rw [← hLd, e] at h1
        omega
      have hx1 : L.extract 0 10 = ⟨#[61, 63, 85, 84, 70, 45, 56, 63, 66, 63]⟩ := by
        apply ByteArray.ext
        apply Array.toList_inj.1
        rw [ext_list, List.drop_zero, Nat.sub_zero, he1]; rfl
      have hx2 : L.extract (L.size - 2) L.size = ⟨#[63, 61]⟩ := by
        apply ByteArray.ext
        apply Array.toList_inj.1
        rw [ext_list, List.take_of_length_le (by rw [List.length_drop]; omega), he2]; rfl
      have hLi : (L.size : Int) ≤ 50000 := by omega
      have hL16 : (16 : Int) ≤ (L.size : Int) := by omega
      have HR := Lib.hid (And.intro hrun hLs)
      have HX := Lib.hid (And.intro hx1 hx2)
      clear hm h1 hp hp2 hL hLd hLl hLz hrun he1 he2 he3 he4 hLs hx1 hx2
      go_enter Tryd.func5, Tryd.ntmps5
      go_wp2_with fail
      refine c1.mono ?_
      rintro e w1 ⟨rfl, hb1⟩
      have H1 := Lib.hid hb1
      clear c1 hb1
      go_wp2_with fail
      refine (c2 w1 (HM.out.below (H1.out.mono (Nat.le_refl _)))).mono ?_
      rintro e w2 ⟨rfl, hb2⟩
      have H2 := Lib.hid (H1.out.trans (hb2.mono H1.out.size))
      clear c2 hb2
      go_wp2_with fail
      refine (c3 w2 (HM.out.below (H2.out.mono (Nat.le_refl _)))).mono ?_
      rintro e w2 ⟨rfl, rfl⟩
      clear c3
      go_wp2
      go_loop [4, 5] (fun n i => ∃ (k r : Nat), k ≤ L.size ∧ r ≤ 72 ∧ i = .int .i64 k ∧ n = .int .i64 r ∧ okRun r (L.data.toList.drop k)) (fun _ i => L.size - (intOf i).toNat)
      case atStart => exact ⟨0, 0, Nat.zero_le _, Nat.zero_le _, rfl, rfl, HR.out.1⟩
      case round =>
        obtain ⟨k, r, hk, hr, rfl, rfl, hok⟩ := hrel
        have hk0 : (0 : Int) ≤ (k : Int) := by omega
        have hr0 : (0 : Int) ≤ (r : Int) := by omega
        have hri : (r : Int) ≤ 72 := by omega
        by_cases hkb : k < L.size
        · have hki : (k : Int) < L.size := by omega
          have hkl : k < L.data.toList.length := by have := HR.out.2; omega
          rw [List.drop_eq_getElem_cons hkl, okRun] at hok
          obtain ⟨c, hc⟩ : ∃ c, c = L.data.toList[k]'hkl := ⟨_, rfl⟩
          have hbt : ∀ h, (L[k]'h) = c := fun h => by rw [hc]; simp; rfl
          rw [← hc] at hok
          clear hc
          by_cases h32 : c = 32
          · rw [if_pos h32] at hok
            obtain ⟨t1, -⟩ := u8T (n := 32) h32 rfl
            have HO := Lib.hid hok
            clear hok h32
            go_wp2
            go_round
            case rel => exact ⟨k + 1, 0, by omega, by omega, by go_num, rfl, HO.out.2⟩
            case measure => simp [intOf]; omega
          · rw [if_neg h32] at hok
            obtain ⟨t1, -⟩ := u8F (n := 32) h32 rfl
            have hr1 : (r : Int) + 1 ≤ 72 := by omega
            have HO := Lib.hid hok
            clear hok h32
            go_wp2
            go_round
            case rel => exact ⟨k + 1, r + 1, by omega, by omega, by go_num, by go_num, HO.out.2⟩
            case measure => simp [intOf]; omega
        · have hki : ¬ (k : Int) < L.size := by omega
          obtain ⟨hx1, hx2⟩ := HX.out
          clear hok
          go_wp2_with fail
          refine (c4 _ (HM.out.below (H2.out.mono (Nat.le_refl _)))).mono ?_
          rintro e w2 ⟨rfl, rfl⟩
          clear c4
          go_wp2
          go_ret
          exact ⟨rfl, H2.out⟩
  · have hsi : (1000 : Int) < s.size := by omega
    clear h1 hm
    go_enter Tryd.func5, Tryd.ntmps5
    go_wp2_with fail
    refine c1.mono ?_
    rintro e w1 ⟨rfl, hb1⟩
    go_wp2
    go_ret
    exact ⟨rfl, hb1⟩
end Go.Proofs.YteklocejgbippaaDoor
