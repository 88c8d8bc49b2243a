/- HeaderMore. -/
import Derived.Test.YtdaekoapkclliaaDoorHdrO
set_option linter.unusedVariables false
set_option linter.unusedSimpArgs false
namespace Go.Proofs.YtdaekoapkclliaaDoor
open Go.RowKit
theorem FldsIn.zlen {w : World} {A : Option Addr} {n : Nat} {xs : List Fld} (h : FldsIn w A n xs) : xs.length = n := h.len
theorem prT_size (xs : List Fld) (h : FewX xs) : (prT (fds xs)).length ≤ 40000 := by
  have key : ∀ ys : List Fld, (ctL (prL (fds ys))).length ≤ 3 * sumZ ys + 3 * ys.length := by
    intro ys
    induction ys with
    | nil => simp [fds, prL, ctL]
    | cons f r ih =>
      have h1 := fold_ct f.1.data.toList f.2.data.toList
      rw [bsize, bsize] at h1
      show (ctL (foldL f.1.data.toList f.2.data.toList ++ prL (fds r))).length ≤ _
      rw [ctL_app, List.length_append]
      simp only [sumZ, List.length_cons]
      omega
  have := key xs
  have h1 := h.1
  have h2 := h.2
  unfold prT
  split
  · rw [List.length_append]; simp; omega
  · simp
set_option maxRecDepth 100000 in
set_option maxHeartbeats 8000000 in
theorem hmore_law (A : Option Addr) (n c : Nat) (xs : List Fld) (B : Option Addr) (m d : Nat) (ys : List Fld) (w : World) (hm : MaxAt w) (h1 : FldsIn w A n xs) (h2 : FldsIn w B m ys) :
    Calls Tryd.prog 7 #[.slice A n c, .slice B m d] w fun e w' => e = .returned (.bool true) ∧ Below w.heap.size w w' := by
  have c0 := awake_any w hm
  have hn0 : (0 : Int) ≤ (n : Int) := by omega
  have hm0 : (0 : Int) ≤ (m : Int) := by omega
  have hnm := h1.max
  have hmm := h2.max
  have H := Lib.hid (And.intro hm (And.intro h1 h2))
  clear hm h1 h2
  go_enter Tryd.func7, Tryd.ntmps7
  go_wp2_with fail
  refine c0.mono ?_
  rintro e w1 ⟨rfl, hb1⟩
  have H1 := Lib.hid hb1
  have c1 := few_any A n c xs w1 (H.out.2.1.below hb1)
  clear hb1 c0
  go_wp2_with fail
  refine c1.mono ?_
  rintro e w2 ⟨⟨f1, rfl, hf1⟩, hb2⟩
  have H2 := Lib.hid (H1.out.trans (hb2.mono H1.out.size))
  clear c1 hb2
  cases f1 with
  | false =>
    clear hf1
    go_wp2
    go_ret
    exact ⟨rfl, H2.out⟩
  | true =>
    have hF1 := hf1 rfl
    have c2 := few_any B m d ys w2 (H.out.2.2.below H2.out)
    clear hf1
    go_wp2_with fail
    refine c2.mono ?_
    rintro e w3 ⟨⟨f2, rfl, hf2⟩, hb3⟩
    have H3 := Lib.hid (H2.out.trans (hb3.mono H2.out.size))
    clear c2 hb3
    cases f2 with
    | false =>
      clear hf2 hF1
      go_wp2
      go_ret
      exact ⟨rfl, H3.out⟩
    | true =>
      have hF2 := hf2 rfl
      have hn1 : n ≤ 100 := by rw [← H.out.2.1.len]; exact hF1.2
      have hm1 : m ≤ 100 := by rw [← H.out.2.2.len]; exact hF2.2
      have HF := Lib.hid (And.intro hF1 hF2)
      clear hf2 hF1 hF2
      by_cases h64 : 64 < n + m
      · have h64i : (64 : Int) < (n : Int) + (m : Int) := by omega
        go_wp2
        go_ret
        exact ⟨rfl, H3.out⟩
      · have h64i : ¬ (64 : Int) < (n : Int) + (m : Int) := by omega
        have c3 := print_any A n c xs w3 (H.out.2.1.below H3.out) HF.out.1.small (H.out.1.below H3.out)
        have hl : (fds xs).length + (fds ys).length ≤ 64 := by rw [fds_len, fds_len, H.out.2.1.len, H.out.2.2.len]; omega
        have hea := prE_app hl
        have hta := prT_app hl
        rw [← fds_app] at hea hta
        have htz := prT_size xs HF.out.1
        have hty := prT_size ys HF.out.2
        have c4 := fun W hW => print_any B m d ys W (H.out.2.2.below hW) HF.out.2.small (H.out.1.below hW)
        have c5 := fun W A' n' c' hW hm => print_any A' n' c' (xs ++ ys) W hW (fun f hf => (List.mem_append.1 hf).elim (HF.out.1.small f) (HF.out.2.small f)) hm
        generalize prE (fds xs) = ea at *
        generalize prE (fds ys) = eb at *
        generalize prE (fds (xs ++ ys)) = eab at *
        obtain ⟨TA, hTA⟩ : ∃ T : ByteArray, T = ⟨(prT (fds xs)).toArray⟩ := ⟨_, rfl⟩
        obtain ⟨TB, hTB⟩ : ∃ T : ByteArray, T = ⟨(prT (fds ys)).toArray⟩ := ⟨_, rfl⟩
        obtain ⟨TU, hTU⟩ : ∃ T : ByteArray, T = ⟨(prT (fds (xs ++ ys))).toArray⟩ := ⟨_, rfl⟩
        rw [← hTA] at c3
        rw [← hTB] at c4
        rw [← hTU] at c5
        have hTAz : TA.size ≤ 40000 := by rw [hTA, lsize]; exact htz
        have hTBz : TB.size ≤ 40000 := by rw [hTB, lsize]; exact hty
        have hta2 : ea = 0 → eb = 0 → TU = TA.extract 0 (TA.size - 2) ++ TB ∧ 2 ≤ TA.size := fun q1 q2 => by
          obtain ⟨z1, z2⟩ := hta q1 q2
          refine ⟨eq_data.2 ?_, by rw [hTA, lsize]; exact z2⟩
          rw [hTU, z1, hTB]
          simp only [ByteArray.data_append, Array.toList_append, ext_list]
          rw [hTA, lsize]
          simp
        have HT := Lib.hid (And.intro hea hta2)
        have HIN := Lib.hid (fun W (hW : Below w.heap.size w W) => And.intro (H.out.2.1.below hW) (H.out.2.2.below hW))
        clear hea hta hta2 hTA hTB hTU hl h64 htz hty
        go_wp2_with fail
        refine c3.mono ?_
        rintro e w4 ⟨rfl, hb4⟩
        have H4 := Lib.hid (H3.out.trans (hb4.mono H3.out.size))
        clear c3 hb4
        go_wp2_with fail
        refine (c4 _ H4.out).mono ?_
        rintro e w5 ⟨rfl, hb5⟩
        have H5 := Lib.hid (H4.out.trans (hb5.mono H4.out.size))
        clear c4 hb5
        have HE := Lib.hid (And.intro (FSo.empty w5 w5.heap.size (Nat.le_refl _)) (And.intro (H5.out.alloc H5.out.size (.cells #[] 38 (0, 0))) ((Below.refl _ w5).alloc (Nat.le_refl _) (.cells #[] 38 (0, 0)))))
        have hsz6 : w5.heap.size ≤ (w5.alloc (.cells #[] 38 (0, 0))).heap.size := by rw [size_alloc]; omega
        go_wp2_with (at_builtin; refine wp_appFs rfl (.tmp 40) (.tmp 41) rfl w5.heap.size _ [] rfl HE.out.1 A n c xs rfl (HIN.out _ HE.out.2.1).1 (by simp; omega) hsz6 ?_)
        intro v' w6 hown6 hb6
        have hb6w := HE.out.2.1.trans (hb6.mono H5.out.size)
        have hz6 := Nat.le_trans hsz6 hb6.size
        have HG := Lib.hid (And.intro hown6 hb6w)
        have hxl : xs.length ≤ 100 := by rw [H.out.2.1.len]; exact hn1
        clear hown6 hb6 hb6w hsz6
        go_wp2_with (at_builtin; refine wp_appFs rfl (.tmp 42) (.tmp 43) rfl w5.heap.size _ xs rfl HG.out.1 B m d ys rfl (HIN.out _ HG.out.2).2 (by omega) hz6 ?_)
        intro v'' w7 hown7 hb7
        have hb7w := HG.out.2.trans (hb7.mono H5.out.size)
        obtain ⟨A7, c7, rfl⟩ := hown7.shape
        have c8 := c5 w7 _ _ c7 (FSo.in_ hown7) (H.out.1.below hb7w)
        have HH := Lib.hid hb7w
        clear c5 hown7 hb7 hb7w hxl hz6
        generalize (xs ++ ys).length = l7 at *
        go_wp2_with fail
        refine c8.mono ?_
        rintro e w8 ⟨rfl, hb8⟩
        have H8 := Lib.hid (HH.out.trans (hb8.mono HH.out.size))
        clear c8 hb8
        by_cases q1 : ea = 0
        · subst q1
          by_cases q2 : eb = 0
          · subst q2
            obtain rfl : eab = 0 := HT.out.1.2 ⟨rfl, rfl⟩
            obtain ⟨z1, z2⟩ := HT.out.2 rfl rfl
            have z3 : ((TA.size : Int) - 2).toNat = TA.size - 2 := by omega
            have hTA0 : (2 : Int) ≤ (TA.size : Int) := by omega
            subst z1
            go_wp2
            go_ret
            exact ⟨rfl, H8.out⟩
          · have q2b : (eb == 0) = false := by simpa using q2
            have q2c : (eb != 0) = true := by simpa using q2
            have q3 : eab ≠ 0 := fun e => q2 (HT.out.1.1 e).2
            have q3b : (eab == 0) = false := by simpa using q3
            have q3c : (eab != 0) = true := by simpa using q3
            clear q2 q3
            go_wp2
            go_ret
            exact ⟨ret_bool (by simp [q3c]), H8.out⟩
        · have q2b : (ea == 0) = false := by simpa using q1
          have q2c : (ea != 0) = true := by simpa using q1
          have q3 : eab ≠ 0 := fun e => q1 (HT.out.1.1 e).1
          have q3b : (eab == 0) = false := by simpa using q3
          have q3c : (eab != 0) = true := by simpa using q3
          clear q1 q3
          go_wp2
          go_ret
          exact ⟨ret_bool (by simp [q3c]), H8.out⟩
end Go.Proofs.YtdaekoapkclliaaDoor
