/- HeaderBack. -/
import Derived.Test.YtdaekoapkclliaaDoorHdrT
set_option linter.unusedVariables false
set_option linter.unusedSimpArgs false
namespace Go.Proofs.YtdaekoapkclliaaDoor
open Go.RowKit
/-- The law's second half: what was printed is parsed. -/
def BkOut (w : World) (e : Ending) (w' : World) : Prop := e = .returned (.bool true) ∧ Below w.heap.size w w'
set_option maxRecDepth 100000 in
set_option maxHeartbeats 16000000 in
theorem hback_law (A : Option Addr) (n c : Nat) (xs : List Fld) (s more : ByteArray) (w : World) (hm : MaxAt w) (h1 : FldsIn w A n xs) (hs : s.size ≤ maxLen) (hmo : more.size ≤ maxLen) :
    Calls Tryd.prog 4 #[.slice A n c, .string s, .string more] w fun e w' => e = .returned (.bool true) ∧ Below w.heap.size w w' := by
  have c0 := awake_any w hm
  have H := Lib.hid (And.intro hm h1)
  have hs0 : (0 : Int) ≤ (s.size : Int) := by omega
  have hm0 : (0 : Int) ≤ (more.size : Int) := by omega
  unfold maxLen at hs hmo
  clear hm h1
  go_enter Tryd.func4, Tryd.ntmps4
  go_wp2_with fail
  refine c0.mono ?_
  rintro e w1 ⟨rfl, hb1⟩
  have H1 := Lib.hid hb1
  have c1 := few_any A n c xs w1 (H.out.2.below hb1)
  clear hb1 c0
  go_wp2_with fail
  refine c1.mono ?_
  rintro e w2 ⟨⟨f1, rfl, hf1⟩, hb2⟩
  have H2 := Lib.hid (H1.out.trans (hb2.mono H1.out.size))
  clear c1 hb2
  cases f1 with
  | false =>
    clear hf1
    go_wp2
    go_ret
    exact ⟨rfl, H2.out⟩
  | true =>
    have HF := Lib.hid (hf1 rfl)
    clear hf1
    by_cases i1 : (8000 : Int) < (s.size : Int)
    · go_wp2
      go_ret
      exact ⟨rfl, H2.out⟩
    · by_cases i2 : (2000 : Int) < (more.size : Int)
      · go_wp2
        go_ret
        exact ⟨rfl, H2.out⟩
      · -- the second half, from whatever world
        have c8 := fun W hW => print_any A n c xs W (H.out.2.below hW) HF.out.small (H.out.1.below hW)
        have htz := prT_size xs HF.out
        have hpp := fun q => parse_print (l := fds xs) q more.data.toList
        have hno := prT_no (l := fds xs)
        generalize prE (fds xs) = ea at *
        obtain ⟨T, hT⟩ : ∃ T : ByteArray, T = ⟨(prT (fds xs)).toArray⟩ := ⟨_, rfl⟩
        have hTd : T.data.toList = prT (fds xs) := by rw [hT]
        rw [← hT] at c8
        rw [← hTd] at hpp hno htz
        rw [bsize] at htz
        have hTe := empty_is (x := T)
        have hns : ¬ (9223372036854775807 < T.size + more.size) := by omega
        have c9 := fun W hW => parse_any (T ++ more) W (by rw [ByteArray.size_append]; omega) (H.out.1.below hW)
        have hTm : (T ++ more).data.toList = T.data.toList ++ more.data.toList := by simp
        rw [← hTm] at hpp
        have hmb : (⟨more.data.toList.toArray⟩ : ByteArray) = more := by simp
        have c10 := fun W A' n' c' ys hW hin => fields_any A' n' c' ys A n c xs W hin (H.out.2.below hW)
        have HS := Lib.hid (And.intro hpp (And.intro hno hmb))
        clear hpp hno hTd hT hTm hmb
        -- the first half
        have c2 := parse_any s w2 (by omega) (H.out.1.below H2.out)
        have hps := pa_sum (s := s.data.toList)
        rw [bsize] at hps
        go_wp2_with fail
        refine c2.mono ?_
        rintro e w3 ⟨fs, A2, n2, c2', hfs, hin, hsm, hle, rfl, hb3⟩
        have H3 := Lib.hid (H2.out.trans (hb3.mono H2.out.size))
        clear c2 hb3
        generalize (⟨(paF s.data.toList).2.1.toArray⟩ : ByteArray) = rst at *
        rw [← hfs] at hps
        generalize (paF s.data.toList).2.2 = ec at *
        clear hfs
        have HN := Lib.hid (And.intro hin (And.intro hsm (And.intro hle hps)))
        clear hin hsm hle hps
        by_cases i3 : ec = 0
        · subst i3
          have c3 := print_any A2 n2 c2' fs w3 HN.out.1 HN.out.2.1 (H.out.1.below H3.out)
          have hsz2 := prT_sum (fds fs)
          rw [fds_len] at hsz2
          have hpp2 := fun q => parse_print (l := fds fs) q []
          generalize prE (fds fs) = eb at *
          obtain ⟨U, hU⟩ : ∃ U : ByteArray, U = ⟨(prT (fds fs)).toArray⟩ := ⟨_, rfl⟩
          have hUd : U.data.toList = prT (fds fs) := by rw [hU]
          rw [← hU] at c3
          rw [← hUd, List.append_nil] at hpp2
          rw [← hUd, bsize] at hsz2
          have hUz : U.size ≤ 100000 := by have := HN.out.2.2.1; have := HN.out.2.2.2 rfl; omega
          have HU := Lib.hid hpp2
          clear hU hUd hpp2 hsz2
          go_wp2_with fail
          refine c3.mono ?_
          rintro e w4 ⟨rfl, hb4⟩
          have H4 := Lib.hid (H3.out.trans (hb4.mono H3.out.size))
          have hin4 := HN.out.1.below hb4
          clear c3 hb4
          by_cases i4 : eb = 0
          · subst i4
            have c4 := parse_any U w4 hUz (H.out.1.below H4.out)
            have hUp := HU.out rfl
            have HI := Lib.hid hin4
            clear hin4
            go_wp2_with fail
            refine c4.mono ?_
            rintro e w5 ⟨gs, A3, n3, c3', hgs, hin3, hsm3, hle3, rfl, hb5⟩
            rw [hUp] at hgs ⊢
            obtain rfl : gs = fs := fds_inj hgs
            have H5 := Lib.hid (H4.out.trans (hb5.mono H4.out.size))
            have c5 := fields_any A2 n2 c2' gs A3 n3 c3' gs w5 (HI.out.below hb5) hin3
            rw [decide_eq_true rfl] at c5
            clear c4 hb5 hgs hin3 hsm3 hle3 hUp
            go_wp2_with fail
            refine c5.mono ?_
            rintro e w6 ⟨rfl, hb6⟩
            have H6 := Lib.hid (H5.out.trans (hb6.mono H5.out.size))
            clear c5 hb6
            --TAIL w6 H6
            have c6 := c8 w6 H6.out
            clear c8
            go_wp2_with fail
            refine c6.mono ?_
            rintro e w7 ⟨rfl, hb7⟩
            have H7 := Lib.hid (H6.out.trans (hb7.mono H6.out.size))
            clear c6 hb7
            by_cases i5 : ea = 0
            · subst i5
              have hp := HS.out.1 rfl
              have c7 := c9 w7 H7.out
              clear c9
              go_wp2_with fail
              refine c7.mono ?_
              rintro e w8 ⟨ys, A4, n4, c4', hys, hin4, hsm4, hle4, rfl, hb8⟩
              rw [hp] at hys ⊢
              obtain rfl : ys = xs := fds_inj hys
              have H8 := Lib.hid (H7.out.trans (hb8.mono H7.out.size))
              have c11 := c10 w8 A4 n4 c4' _ H8.out hin4
              rw [decide_eq_true rfl] at c11
              have hmb : (⟨more.data.toList.toArray⟩ : ByteArray) = more := by simp
              dsimp only
              rw [hmb]
              clear c7 hb8 hys hsm4 hle4 hp hin4 c10 hmb
              go_wp2_with fail
              refine c11.mono ?_
              rintro e w9 ⟨rfl, hb9⟩
              have H9 := Lib.hid (H8.out.trans (hb9.mono H8.out.size))
              clear c11 hb9
              go_wp2
              go_ret
              exact ⟨rfl, H9.out⟩
            · have q1 : (ea == 0) = false := by simpa using i5
              have q2 : (ea != 0) = true := by simpa using i5
              have hT0 := HS.out.2.1 i5
              rw [decide_eq_true hT0] at hTe
              clear hT0
              go_wp2
              go_ret
              exact ⟨rfl, H7.out⟩
          · have z1 : (eb == 0) = false := by simpa using i4
            have z2 : (eb != 0) = true := by simpa using i4
            clear i4 hin4
            --TAIL w4 H4
            have c6 := c8 w4 H4.out
            clear c8
            go_wp2_with fail
            refine c6.mono ?_
            rintro e w7 ⟨rfl, hb7⟩
            have H7 := Lib.hid (H4.out.trans (hb7.mono H4.out.size))
            clear c6 hb7
            by_cases i5 : ea = 0
            · subst i5
              have hp := HS.out.1 rfl
              have c7 := c9 w7 H7.out
              clear c9
              go_wp2_with fail
              refine c7.mono ?_
              rintro e w8 ⟨ys, A4, n4, c4', hys, hin4, hsm4, hle4, rfl, hb8⟩
              rw [hp] at hys ⊢
              obtain rfl : ys = xs := fds_inj hys
              have H8 := Lib.hid (H7.out.trans (hb8.mono H7.out.size))
              have c11 := c10 w8 A4 n4 c4' _ H8.out hin4
              rw [decide_eq_true rfl] at c11
              have hmb : (⟨more.data.toList.toArray⟩ : ByteArray) = more := by simp
              dsimp only
              rw [hmb]
              clear c7 hb8 hys hsm4 hle4 hp hin4 c10 hmb
              go_wp2_with fail
              refine c11.mono ?_
              rintro e w9 ⟨rfl, hb9⟩
              have H9 := Lib.hid (H8.out.trans (hb9.mono H8.out.size))
              clear c11 hb9
              go_wp2
              go_ret
              exact ⟨rfl, H9.out⟩
            · have q1 : (ea == 0) = false := by simpa using i5
              have q2 : (ea != 0) = true := by simpa using i5
              have hT0 := HS.out.2.1 i5
              rw [decide_eq_true hT0] at hTe
              clear hT0
              go_wp2
              go_ret
              exact ⟨rfl, H7.out⟩
        · have z1 : (ec == 0) = false := by simpa using i3
          have z2 : (ec != 0) = true := by simpa using i3
          clear i3
          --TAIL w3 H3
          have c6 := c8 w3 H3.out
          clear c8
          go_wp2_with fail
          refine c6.mono ?_
          rintro e w7 ⟨rfl, hb7⟩
          have H7 := Lib.hid (H3.out.trans (hb7.mono H3.out.size))
          clear c6 hb7
          by_cases i5 : ea = 0
          · subst i5
            have hp := HS.out.1 rfl
            have c7 := c9 w7 H7.out
            clear c9
            go_wp2_with fail
            refine c7.mono ?_
            rintro e w8 ⟨ys, A4, n4, c4', hys, hin4, hsm4, hle4, rfl, hb8⟩
            rw [hp] at hys ⊢
            obtain rfl : ys = xs := fds_inj hys
            have H8 := Lib.hid (H7.out.trans (hb8.mono H7.out.size))
            have c11 := c10 w8 A4 n4 c4' _ H8.out hin4
            rw [decide_eq_true rfl] at c11
            have hmb : (⟨more.data.toList.toArray⟩ : ByteArray) = more := by simp
            dsimp only
            rw [hmb]
            clear c7 hb8 hys hsm4 hle4 hp hin4 c10 hmb
            go_wp2_with fail
            refine c11.mono ?_
            rintro e w9 ⟨rfl, hb9⟩
            have H9 := Lib.hid (H8.out.trans (hb9.mono H8.out.size))
            clear c11 hb9
            go_wp2
            go_ret
            exact ⟨rfl, H9.out⟩
          · have q1 : (ea == 0) = false := by simpa using i5
            have q2 : (ea != 0) = true := by simpa using i5
            have hT0 := HS.out.2.1 i5
            rw [decide_eq_true hT0] at hTe
            clear hT0
            go_wp2
            go_ret
            exact ⟨rfl, H7.out⟩
end Go.Proofs.YtdaekoapkclliaaDoor
