/- Package mailguardref03: Fold, Unfold. -/
import Derived.Test.YtlgkghpdmiageaaDoorBasT
set_option linter.unusedVariables false
set_option linter.unusedSimpArgs false
namespace Go.Proofs.YtlgkghpdmiageaaDoor
open Go.RowKit
set_option maxRecDepth 100000 in
set_option maxHeartbeats 4000000 in
theorem reffold_any (s : ByteArray) (w : World) (hs : s.size ≤ 1000000) :
    Calls Tryd.prog 17 #[.string s] w fun e w' => e = .returned (.string ⟨(foldR (enc s.data.toList)).toArray⟩) ∧ Below w.heap.size w w' := by
  have hsz := bsize s
  have c1 := refenc_any s w hs
  have hEl := enc_len s.data.toList
  rw [hsz] at hEl
  generalize enc s.data.toList = E at *
  obtain ⟨L, hL⟩ : ∃ L : ByteArray, L = ⟨E.toArray⟩ := ⟨_, rfl⟩
  have hLd : L.data.toList = E := by rw [hL]
  have hLz : L.size = E.length := by rw [hL, lsize]
  rw [← hL] at c1
  have hLi : (L.size : Int) ≤ 2000000 := by omega
  have hfl := foldR_len E
  have HK := Lib.hid (And.intro hLd (And.intro hLz (And.intro hfl (show E.length ≤ 2000000 by omega))))
  clear hL hLd hLz hEl hfl
  go_enter Tryd.func17, Tryd.ntmps17
  go_wp2_with fail
  refine c1.mono ?_
  rintro e w1 ⟨rfl, hb1⟩
  have H1 := Lib.hid hb1
  clear c1 hb1
  go_wp2
  go_loop [4, 5] (fun o i => ∃ (k : Nat) (O : ByteArray), 76 * k ≤ E.length + 75 ∧ o = .string O ∧ i = .int .i64 (76 * (k : Int)) ∧ O.data.toList ++ foldR (E.drop (76 * k)) = foldR E) (fun _ i => L.size + 76 - (intOf i).toNat)
  case atStart => exact ⟨0, ⟨#[]⟩, by omega, rfl, rfl, rfl⟩
  case round =>
    obtain ⟨k, O, hk, rfl, rfl, hO⟩ := hrel
    obtain ⟨hLd, hLz, hfl, hEb⟩ := HK.out
    have hOz : (O.size : Int) ≤ 3000000 := by
      have h1 := congrArg List.length hO
      rw [List.length_append, bsize, hfl] at h1
      omega
    have hk0 : (0 : Int) ≤ (k : Int) := by omega
    have hkb : (k : Int) ≤ 100000 := by omega
    by_cases hlt : 76 * k < E.length
    · have hki : 76 * (k : Int) < (L.size : Int) := by omega
      have hne : E.drop (76 * k) ≠ [] := by intro e; have := congrArg List.length e; simp at this; omega
      rw [foldR_cons hne, List.drop_drop, show 76 * k + 76 = 76 * (k + 1) by omega] at hO
      rcases (show 76 * k + 76 ≤ L.size ∨ L.size < 76 * k + 76 by omega) with hf | hf
      · obtain ⟨P, hP⟩ : ∃ P, L.extract (76 * k) (76 * k + 76) = P := ⟨_, rfl⟩
        have hPd : P.data.toList = (E.drop (76 * k)).take 76 := by rw [← hP, ext_list, hLd, Nat.add_sub_cancel_left]
        have hPz : (P.size : Int) ≤ 76 := by rw [← bsize, hPd, List.length_take]; omega
        obtain ⟨O2, hO2⟩ : ∃ O2, O ++ P ++ (⟨#[13, 10]⟩ : ByteArray) = O2 := ⟨_, rfl⟩
        have hO2d : O2.data.toList = O.data.toList ++ ((E.drop (76 * k)).take 76 ++ [13, 10]) := by rw [← hO2, ← hPd]; simp
        have hfi : 76 * (k : Int) + 76 ≤ (L.size : Int) := by omega
        have hst : O2.data.toList ++ foldR (E.drop (76 * (k + 1))) = foldR E := by rw [hO2d, ← hO]; simp
        have HS := Lib.hid hst
        have HLT := Lib.hid hlt
        clear hst hO2d hPd hO hne hLd hLz hfl hEb hlt hf
        go_wp2
        go_round
        case rel =>
          have := HLT.out
          exact ⟨k + 1, O2, by omega, rfl, by first | (congr 1; omega) | congr 1, HS.out⟩
        case measure => simp [intOf]; omega
      · obtain ⟨P, hP⟩ : ∃ P, L.extract (76 * k) L.size = P := ⟨_, rfl⟩
        have hPd : P.data.toList = (E.drop (76 * k)).take 76 := by
          rw [← hP, ext_list, hLd, hLz, List.take_of_length_le (by rw [List.length_drop]; omega), List.take_of_length_le (by rw [List.length_drop]; omega)]
        have hPz : (P.size : Int) ≤ 76 := by rw [← bsize, hPd, List.length_take]; omega
        obtain ⟨O2, hO2⟩ : ∃ O2, O ++ P ++ (⟨#[13, 10]⟩ : ByteArray) = O2 := ⟨_, rfl⟩
        have hO2d : O2.data.toList = O.data.toList ++ ((E.drop (76 * k)).take 76 ++ [13, 10]) := by rw [← hO2, ← hPd]; simp
        have hfi : (L.size : Int) < 76 * (k : Int) + 76 := by omega
        have hst : O2.data.toList ++ foldR (E.drop (76 * (k + 1))) = foldR E := by rw [hO2d, ← hO]; simp
        have HS := Lib.hid hst
        have HLT := Lib.hid hlt
        clear hst hO2d hPd hO hne hLd hLz hfl hEb hlt hf
        go_wp2
        go_round
        case rel =>
          have := HLT.out
          exact ⟨k + 1, O2, by omega, rfl, by first | (congr 1; omega) | congr 1, HS.out⟩
        case measure => simp [intOf]; omega
    · have hki : (L.size : Int) ≤ 76 * (k : Int) := by omega
      rw [List.drop_of_length_le (by omega), foldR_nil, List.append_nil] at hO
      have hOO : O = ⟨(foldR E).toArray⟩ := by rw [← hO]
      have HO := Lib.hid hOO
      clear hO hOO hLd hLz hfl hEb
      go_wp2
      go_ret
      exact ⟨by rw [HO.out]; rfl, H1.out⟩
/-- Without its ends. -/
def noEnds (s : List UInt8) : List UInt8 := s.filter fun c => decide (c ≠ 13 ∧ c ≠ 10)
theorem noEnds_id {l : List UInt8} (h : ∀ x ∈ l, x ≠ 13 ∧ x ≠ 10) : noEnds l = l := List.filter_eq_self.2 fun x hx => decide_eq_true (h x hx)
theorem noEnds_fold (l : List UInt8) (h : ∀ x ∈ l, x ≠ 13 ∧ x ≠ 10) : noEnds (foldR l) = l := by
  by_cases hn : l = []
  · rw [hn, foldR_nil]; rfl
  · have ih := noEnds_fold (l.drop 76) (fun x hx => h x (List.mem_of_mem_drop hx))
    have ht := noEnds_id (l := l.take 76) (fun x hx => h x (List.mem_of_mem_take hx))
    unfold noEnds at ih ht ⊢
    rw [foldR_cons hn, List.filter_append, List.filter_append, ih, ht, show ([13, 10] : List UInt8).filter (fun c => decide (c ≠ 13 ∧ c ≠ 10)) = [] by decide, List.append_nil, List.take_append_drop]
termination_by l.length
decreasing_by
  have := List.length_pos_iff.2 hn
  simp; omega
theorem noEnds_len (s : List UInt8) : (noEnds s).length ≤ s.length := List.length_filter_le _ _
theorem unf_ref (s : List UInt8) : unf s = (dec (noEnds s)).bind fun o => if foldR (enc o) = s then some o else none := by
  apply Option.ext
  intro y
  rw [show (unf s = some y) = (s = foldR (enc y)) from propext (unf_iff s y)]
  constructor
  · rintro rfl
    rw [noEnds_fold _ (enc_nn y), dec_enc]; simp
  · intro h
    cases hd : dec (noEnds s) with
    | none => rw [hd] at h; cases h
    | some o =>
      rw [hd] at h
      simp only [Option.bind_some] at h
      split at h
      · rename_i e; cases h; exact e.symm
      · cases h
theorem noEnds_snoc {s : List UInt8} {k : Nat} (h : k < s.length) : noEnds (s.take (k + 1)) = if s[k] ≠ 13 ∧ s[k] ≠ 10 then noEnds (s.take k) ++ [s[k]] else noEnds (s.take k) := by
  unfold noEnds
  rw [List.take_succ_eq_append_getElem h, List.filter_append]
  by_cases hc : s[k] ≠ 13 ∧ s[k] ≠ 10
  · rw [if_pos hc, List.filter_cons_of_pos (by simpa using hc)]; rfl
  · rw [if_neg hc, List.filter_cons_of_neg (by simpa using hc)]; simp
set_option maxRecDepth 100000 in
set_option maxHeartbeats 4000000 in
theorem refunfold_any (s : ByteArray) (w : World) (hs : s.size ≤ 1000000) :
    Calls Tryd.prog 13 #[.string s] w fun e w' => e = .returned (.tuple #[.string (unfStr s.data.toList), .int .i64 (unfCode s.data.toList)]) ∧ Below w.heap.size w w' := by
  have hsz := bsize s
  have hsi : (s.size : Int) ≤ 1000000 := by omega
  obtain ⟨SS, hSS⟩ : ∃ x, x = unfStr s.data.toList := ⟨_, rfl⟩
  obtain ⟨CC, hCC⟩ : ∃ x, x = unfCode s.data.toList := ⟨_, rfl⟩
  rw [← hSS, ← hCC]
  have HS := Lib.hid (And.intro hSS hCC)
  clear hSS hCC
  go_enter Tryd.func13, Tryd.ntmps13
  go_wp2
  go_loopw [4, 5] (fun o i wr => ∃ k : Nat, k ≤ s.size ∧ i = .int .i64 k ∧ BS wr w.heap.size o (noEnds (s.data.toList.take k)) ∧ Below w.heap.size w wr) (fun _ i _ => s.size - (intOf i).toNat)
  case atStart => exact ⟨0, Nat.zero_le _, rfl, BS.nil _ _, Below.refl _ _⟩
  case round =>
    obtain ⟨k, hk, rfl, hown, hbl⟩ := hrel
    have hk0 : (0 : Int) ≤ (k : Int) := by omega
    by_cases hkb : k < s.size
    · have hki : (k : Int) < s.size := by omega
      have hkl : k < s.data.toList.length := by omega
      have hsn := noEnds_snoc hkl
      obtain ⟨c, hc⟩ : ∃ c, c = s.data.toList[k]'hkl := ⟨_, rfl⟩
      have hbt : ∀ h, (s[k]'h) = c := fun h => by rw [hc]; simp; rfl
      rw [← hc] at hsn
      have hwl : w.heap.size ≤ wr.heap.size := hbl.size
      have hol : (noEnds (s.data.toList.take k)).length + 1 ≤ 70368744177664 := by
        have h1 := noEnds_len (s.data.toList.take k)
        rw [List.length_take] at h1; omega
      have HO := Lib.hid (And.intro hown hbl)
      clear hc hbl
      by_cases h13 : c = 13
      · rw [if_neg (fun x => x.1 h13)] at hsn
        obtain ⟨-, t1⟩ := u8T (n := 13) h13 rfl
        have HN := Lib.hid hsn
        clear hsn h13 hown
        go_wp2
        go_roundw
        case rel => exact ⟨k + 1, by omega, by go_num, by rw [HN.out]; exact HO.out.1, HO.out.2⟩
        case measure => simp [intOf]; omega
      · by_cases h10 : c = 10
        · rw [if_neg (fun x => x.2 h10)] at hsn
          obtain ⟨-, t1⟩ := u8F (n := 13) h13 rfl
          obtain ⟨-, t2⟩ := u8T (n := 10) h10 rfl
          have HN := Lib.hid hsn
          clear hsn h13 h10 hown
          go_wp2
          go_roundw
          case rel => exact ⟨k + 1, by omega, by go_num, by rw [HN.out]; exact HO.out.1, HO.out.2⟩
          case measure => simp [intOf]; omega
        · rw [if_pos ⟨h13, h10⟩] at hsn
          obtain ⟨-, t1⟩ := u8F (n := 13) h13 rfl
          obtain ⟨-, t2⟩ := u8F (n := 10) h10 rfl
          have HN := Lib.hid hsn
          clear hsn h13 h10
          go_wp2_with (at_builtin; refine wp_app1 rfl (.tmp 24) (.tmp 28) rfl w.heap.size _ _ rfl c _ rfl hown rfl hol hwl ?_)
          intro v' w6 hown6 hch
          have H6 := Lib.hid (And.intro hown6 (HO.out.2.trans hch.below))
          clear hown6 hch
          go_wp2
          go_roundw
          case rel => exact ⟨k + 1, by omega, by go_num, by rw [HN.out]; exact H6.out.1, H6.out.2⟩
          case measure => simp [intOf]; omega
    · have hkE : k = s.size := by omega
      rw [List.take_of_length_le (by omega)] at hown
      have hcv := hown.conv
      have hnl := noEnds_len s.data.toList
      rw [hsz] at hnl
      have hu := unf_ref s.data.toList
      obtain ⟨t, ht⟩ : ∃ t : ByteArray, t = ⟨(noEnds s.data.toList).toArray⟩ := ⟨_, rfl⟩
      have htl : t.data.toList = noEnds s.data.toList := by rw [ht]
      have htz : t.size ≤ 1000000 := by rw [ht, lsize]; omega
      rw [← ht] at hcv
      rw [← htl] at hu
      have hki : ¬ (k : Int) < s.size := by omega
      have c1 := refdec_any t wr htz
      have HB := Lib.hid hbl
      obtain ⟨ao, cap, rfl⟩ := hown.shape
      clear hown hbl ht hnl hkE hkb
      cases hd : dec t.data.toList with
      | none =>
        rw [hd] at hu
        have hu2 : unfStr s.data.toList = ⟨#[]⟩ ∧ unfCode s.data.toList = 2 := by unfold unfStr unfCode; rw [hu]; exact ⟨rfl, rfl⟩
        have hd2 := decStr_none hd
        rw [hd2.1, hd2.2.1] at c1
        have HE := Lib.hid (And.intro (HS.out.1.trans hu2.1) (HS.out.2.trans hu2.2))
        clear hu hu2 hd hd2 htl
        go_wp2_with fail
        refine c1.mono ?_
        rintro e w2 ⟨rfl, hb2⟩
        have H2 := Lib.hid (HB.out.trans (hb2.mono HB.out.size))
        clear c1 hb2
        go_wp2
        go_ret2
        exact ⟨ret_si HE.out.1.symm HE.out.2.symm, H2.out⟩
      | some o =>
        rw [hd] at hu
        have hd2 := decStr_some hd
        have hol : o.length ≤ 1000000 := by
          have h1 := (dec_iff _ _).1 hd
          have h2 := congrArg List.length h1
          rw [enc_len, bsize] at h2
          omega
        have hoz : (⟨o.toArray⟩ : ByteArray).size ≤ 1000000 := by rw [lsize]; exact hol
        have c3 := fun W => reffold_any ⟨o.toArray⟩ W hoz
        have e2 : (⟨o.toArray⟩ : ByteArray).data.toList = o := rfl
        rw [e2] at c3
        obtain ⟨O, hO⟩ : ∃ O : ByteArray, O = ⟨o.toArray⟩ := ⟨_, rfl⟩
        rw [← hO] at c3 hd2
        rw [hd2.1, hd2.2.1] at c1
        clear hd hol hoz hd2 htl e2
        by_cases hq : foldR (enc o) = s.data.toList
        · have hes : (⟨(foldR (enc o)).toArray⟩ : ByteArray) = s := by rw [hq]
          have hu2 : unfStr s.data.toList = O ∧ unfCode s.data.toList = 0 := by
            unfold unfStr unfCode; rw [hu]; simp only [Option.bind_some, if_pos hq]; exact ⟨hO.symm, trivial⟩
          rw [hes] at c3
          have HE := Lib.hid (And.intro (HS.out.1.trans hu2.1) (HS.out.2.trans hu2.2))
          clear hu hu2 hq hes hO
          go_wp2_with fail
          refine c1.mono ?_
          rintro e w2 ⟨rfl, hb2⟩
          have H2 := Lib.hid (HB.out.trans (hb2.mono HB.out.size))
          clear c1 hb2
          go_wp2_with fail
          refine (c3 w2).mono ?_
          rintro e w3 ⟨rfl, hb3⟩
          have H3 := Lib.hid (H2.out.trans (hb3.mono H2.out.size))
          clear c3 hb3
          go_wp2
          go_ret2
          exact ⟨ret_si HE.out.1.symm HE.out.2.symm, H3.out⟩
        · have hu2 : unfStr s.data.toList = ⟨#[]⟩ ∧ unfCode s.data.toList = 2 := by
            unfold unfStr unfCode; rw [hu]; simp only [Option.bind_some, if_neg hq]; constructor <;> first | trivial | rfl
          have hes : ((⟨(foldR (enc o)).toArray⟩ : ByteArray).toList == s.toList) = false := by
            rw [Lib.toList_data, Lib.toList_data]; exact beq_false_of_ne hq
          have HE := Lib.hid (And.intro (HS.out.1.trans hu2.1) (HS.out.2.trans hu2.2))
          generalize (⟨(foldR (enc o)).toArray⟩ : ByteArray) = T at *
          clear hu hu2 hq hO
          go_wp2_with fail
          refine c1.mono ?_
          rintro e w2 ⟨rfl, hb2⟩
          have H2 := Lib.hid (HB.out.trans (hb2.mono HB.out.size))
          clear c1 hb2
          go_wp2_with fail
          refine (c3 w2).mono ?_
          rintro e w3 ⟨rfl, hb3⟩
          have H3 := Lib.hid (H2.out.trans (hb3.mono H2.out.size))
          clear c3 hb3
          go_wp2
          go_ret2
          exact ⟨ret_si HE.out.1.symm HE.out.2.symm, H3.out⟩
end Go.Proofs.YtlgkghpdmiageaaDoor
