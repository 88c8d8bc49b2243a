/- Package words: Encode. -/
import Derived.Test.YteklocejgbippaaDoorWrdB
import Derived.Lib.Join
set_option linter.unusedVariables false
set_option linter.unusedSimpArgs false
namespace Go.Proofs.YteklocejgbippaaDoor
open Go.RowKit
theorem join_S : ∀ l : List (List UInt8), Lib.join l [32] = joinS l
  | [] => rfl
  | [a] => Lib.join_one a [32]
  | a :: b :: r => by
    have ih := join_S (b :: r)
    rw [joinS, ← ih, Lib.join_cons, Lib.join_cons]
    simp [Lib.joinTail]
theorem SSo.belowW {w w' : World} {base : Nat} {v : Value} {l : List ByteArray} (h : SSo w base v l) (hb : Below w.heap.size w w') : SSo w' base v l := by
  refine ⟨h.1, ?_⟩
  rcases h.2 with hn | ⟨g, cap, cur, hv, hg, hh, r⟩
  · exact .inl hn
  · exact .inr ⟨g, cap, cur, hv, hg, (hb.block g (lt_of_block hh)).trans hh, r⟩
theorem wrd_ba (e : List UInt8) : (⟨#[61, 63, 85, 84, 70, 45, 56, 63, 66, 63]⟩ : ByteArray) ++ ⟨e.toArray⟩ ++ ⟨#[63, 61]⟩ = ⟨(wHead ++ e ++ wTail).toArray⟩ := by
  apply ByteArray.ext; simp [wHead, wTail]
set_option maxRecDepth 100000 in
set_option maxHeartbeats 8000000 in
theorem wencode_any (s : ByteArray) (w : World) (hm : MaxAt w) (hs : s.size ≤ 100000) :
    Calls Tryd.prog 10 #[.string s] w fun e w' => e = .returned (.string ⟨(wEnc s.data.toList).toArray⟩) ∧ Below w.heap.size w w' := by
  have hsz := bsize s
  have c1 := plain_any s w hm (by omega)
  have hsi : (s.size : Int) ≤ 100000 := by omega
  by_cases hp : plainB s.data.toList = true
  · rw [hp] at c1
    have e : wEnc s.data.toList = s.data.toList := by unfold wEnc; rw [if_pos hp]
    rw [e]
    clear hp e
    go_enter Tryd.func10, Tryd.ntmps10
    go_wp2_with fail
    refine c1.mono ?_
    rintro e w1 ⟨rfl, rfl⟩
    go_wp2
    go_ret
    exact ⟨rfl, Below.refl _ _⟩
  · have hp2 : plainB s.data.toList = false := by simpa using hp
    rw [hp2] at c1
    have hn := not_plain_ne hp2
    have e : wEnc s.data.toList = joinS (wrds s.data.toList) := by unfold wEnc; rw [if_neg hp]
    rw [e]
    have hsl := wrds_sum s.data.toList
    have hjl := joinS_len (wrds s.data.toList)
    have hwn := wrds_ne hn
    have HS := Lib.hid (And.intro hsl (And.intro hjl hwn))
    clear hp hp2 hn e hsl hjl hwn hm
    go_enter Tryd.func10, Tryd.ntmps10
    go_wp2_with fail
    refine c1.mono ?_
    rintro e w1 ⟨rfl, rfl⟩
    clear c1
    go_wp2
    go_loopw [0, 3] (fun x v wr => ∃ (r : ByteArray) (ls : List ByteArray), x = .string r ∧ ls.map (·.data.toList) ++ wrds r.data.toList = wrds s.data.toList ∧ r.size ≤ s.size ∧ ls.length ≤ 100000 - r.size ∧ SSo wr w.heap.size v ls ∧ Below w.heap.size w wr) (fun x _ _ => Lib.strSize x)
    case atStart => exact ⟨s, [], rfl, rfl, Nat.le_refl _, Nat.zero_le _, SSo.nil _ _, Below.refl _ _⟩
    case round =>
      obtain ⟨r, ls, rfl, hls, hrs, hll, hown, hbl⟩ := hrel
      have hrz := bsize r
      have hri : (r.size : Int) ≤ 100000 := by omega
      have hwl : w.heap.size ≤ wr.heap.size := hbl.size
      by_cases h0 : r.data.toList = []
      · have hre : (r.toList == []) = true := by rw [Lib.toList_data, h0]; rfl
        rw [h0, wrds_nil, List.append_nil] at hls
        have hln : 0 < ls.length := by
          have h1 := HS.out.2.2
          rw [← hls] at h1
          rcases ls with _ | ⟨a, b⟩
          · exact absurd rfl h1
          · simp
        obtain ⟨g, cap, rfl, hg, hst⟩ := hown.strs hln
        have c5 := Tryd.strings_Join g 0 cap ls ⟨#[32]⟩ wr (fun j x hx => by
          have hj : j < ls.length := by
            rcases Nat.lt_or_ge j ls.length with y | y
            · exact y
            · rw [List.getElem?_eq_none y] at hx; cases hx
          rw [List.getElem?_eq_getElem hj] at hx
          rw [Nat.zero_add, hst.cell j hj, Option.some.inj hx]) hst.lt (by omega) hst.room (by
          rw [show (⟨#[32]⟩ : ByteArray).data.toList = [32] from rfl, join_S, hls]
          have h1 := HS.out.1
          have h2 := HS.out.2.1
          omega)
        rw [show (⟨#[32]⟩ : ByteArray).data.toList = [32] from rfl, join_S, hls] at c5
        have HB := Lib.hid hbl
        clear hls hbl hown hst h0 hg
        go_wp2_with fail
        refine c5.mono ?_
        rintro e w5 ⟨rfl, hb5⟩
        have H5 := Lib.hid (HB.out.trans (hb5.mono HB.out.size))
        clear c5 hb5
        go_wp2
        go_ret
        exact ⟨rfl, H5.out⟩
      · have hre : (r.toList == []) = false := by rw [Lib.toList_data]; exact beq_false_of_ne h0
        have hr0 : 0 < r.size := by have := List.length_pos_iff.2 h0; omega
        rw [wrds_cons h0] at hls
        obtain ⟨m, hm⟩ : ∃ m : Nat, m = min 45 r.size := ⟨_, rfl⟩
        have hmI : (min 45 (r.size : Int)).toNat = m := by omega
        obtain ⟨P, hP⟩ : ∃ P, r.extract 0 (min 45 (r.size : Int)).toNat = P := ⟨_, rfl⟩
        have hPd : P.data.toList = r.data.toList.take 45 := by
          rw [← hP, hmI, ext_list, List.drop_zero, Nat.sub_zero, hm]
          rcases Nat.le_total 45 r.size with x | x
          · rw [Nat.min_eq_left x]
          · rw [Nat.min_eq_right x, List.take_of_length_le (by omega), List.take_of_length_le (by omega)]
        have hPz : P.size ≤ 45 := by rw [← hP, ByteArray.size_extract]; omega
        have c4 := fun W => encode_any P W (by omega)
        obtain ⟨EP, hEP⟩ : ∃ EP : ByteArray, EP = ⟨(enc P.data.toList).toArray⟩ := ⟨_, rfl⟩
        have hEz : (EP.size : Int) ≤ 100 := by rw [hEP, lsize, enc_len, bsize]; omega
        obtain ⟨Wd, hWd⟩ : ∃ Wd, (⟨#[61, 63, 85, 84, 70, 45, 56, 63, 66, 63]⟩ : ByteArray) ++ EP ++ ⟨#[63, 61]⟩ = Wd := ⟨_, rfl⟩
        have hWdd : Wd.data.toList = wrd (r.data.toList.take 45) := by
          rw [← hWd, hEP, wrd_ba, hPd]; rfl
        rw [← hEP] at c4
        have hnl : (ls ++ [Wd]).map (·.data.toList) ++ wrds (r.data.toList.drop 45) = wrds s.data.toList := by
          rw [List.map_append, List.map_cons, List.map_nil, hWdd, List.append_assoc]; exact hls
        have hm1 : 1 ≤ m := by omega
        have hex : (r.extract m r.size).data.toList = r.data.toList.drop 45 := by
          rw [ext_list, List.take_of_length_le (by rw [List.length_drop]; omega)]
          rcases (show m = 45 ∨ m = r.size by omega) with e | e
          · rw [e]
          · rw [e, List.drop_of_length_le (by omega), List.drop_of_length_le (by omega)]
        have HNL := Lib.hid (And.intro hnl (And.intro hm (And.intro hm1 hex)))
        have HB := Lib.hid hbl
        have HR0 := Lib.hid hr0
        have hol : ls.length + 1 ≤ 1000000000000 := by omega
        have HMI := Lib.hid hmI
        clear hnl hm hm1 hex hls hPd hPz hEP hWdd hbl h0 hr0 hmI
        go_wp2_with fail
        refine (c4 _).mono ?_
        rintro e w5 ⟨rfl, hb5⟩
        have hown5 : SSo w5 w.heap.size _ ls := SSo.belowW hown hb5
        have HB5 := Lib.hid (HB.out.trans (hb5.mono HB.out.size))
        have hwl5 := HB5.out.size
        clear c4 hb5 hown
        go_wp2_with (at_builtin; refine wp_appstr rfl (.tmp 14) (.tmp 23) rfl w.heap.size _ ls rfl Wd hown5 rfl hol hwl5 ?_)
        intro v' w6 hown6 hb6
        have H6 := Lib.hid (And.intro hown6 (HB5.out.trans hb6))
        clear hown6 hb6
        go_wp2
        go_roundw
        case rel =>
          obtain ⟨hnl, hm, hm1, hex⟩ := HNL.out
          have hmI := HMI.out
          refine ⟨_, ls ++ [Wd], rfl, ?_, ?_, ?_, H6.out.1, H6.out.2⟩
          · rw [hmI, hex]; exact hnl
          · rw [hmI, ByteArray.size_extract]; omega
          · rw [hmI, ByteArray.size_extract, List.length_append, List.length_cons, List.length_nil]
            have := HR0.out
            omega
        case measure =>
          obtain ⟨_, hm, hm1, _⟩ := HNL.out
          have h0 := HR0.out
          rw [Lib.strSize_string, Lib.strSize_string, HMI.out, ByteArray.size_extract]
          omega
end Go.Proofs.YteklocejgbippaaDoor
