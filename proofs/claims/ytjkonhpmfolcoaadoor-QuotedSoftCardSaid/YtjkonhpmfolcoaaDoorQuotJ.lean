/- Package quoted's law folder: awake; QuotedTells, QuotedBack, QuotedParts. -/
import Derived.Test.YtjkonhpmfolcoaaDoorQuotI
set_option linter.unusedVariables false
set_option linter.unusedSimpArgs false
namespace Go.Proofs.YtjkonhpmfolcoaaDoor
open Go.RowKit
theorem asIs_ne {c : UInt8} {b : Bool} (h : asIs c b = true) : c ≠ 61 := by
  rintro rfl
  have := asIs_yes h
  simp at this
theorem hexd_ge {v : Nat} (h : v < 16) : 48 ≤ (hexd v).toNat ∧ (hexd v).toNat ≤ 70 := by rw [hexd_toNat h]; split <;> omega
theorem rawD_sign (c : UInt8) (b : Bool) (t : List UInt8) : rawD (signL c b ++ t) = (rawD t).map (c :: ·) := by
  unfold signL
  cases h : asIs c b
  · have h1 : c.toNat / 16 < 16 := by have := c.toNat_lt; omega
    have h2 : c.toNat % 16 < 16 := by omega
    have hne : ¬ (hexd (c.toNat / 16) = 13 ∧ hexd (c.toNat % 16) = 10) := fun h => by
      have e := hexd_ge h1
      rw [h.1] at e
      simp at e
    rw [if_neg (by decide)]
    show rawD (61 :: hexd (c.toNat / 16) :: hexd (c.toNat % 16) :: t) = _
    rw [rawD_code hne, val_hexd h1, val_hexd h2, if_pos ⟨h1, h2⟩]
    have e : 16 * (c.toNat / 16) + c.toNat % 16 = c.toNat := by omega
    rw [e]
    simp
  · rw [if_pos rfl]
    exact rawD_plain (asIs_ne h) t
theorem rawD_encS (s : List UInt8) : ∀ n, rawD (encS n s) = some s := by
  induction s using lns.induct with
  | case1 => intro n; simp [encS, rawD]
  | case2 r ih =>
    intro n
    simp only [encS]
    rw [rawD_plain (by decide), rawD_plain (by decide), ih 0]
    rfl
  | case3 c r h ih =>
    intro n
    rw [encS.eq_3 _ _ _ h]
    split
    · show rawD (61 :: 13 :: 10 :: (signL c (endsB r) ++ encS (signL c (endsB r)).length r)) = _
      rw [rawD, rawD_sign, ih]
      rfl
    · rw [rawD_sign, ih]
      rfl
theorem rawD_enc (s : List UInt8) : rawD (enc s) = some s := by rw [enc_eq]; exact rawD_encS s 0
theorem dec_enc (s : ByteArray) : decS (enc s.data.toList) = s ∧ decC (enc s.data.toList) = 0 := by
  have h := dec_yes (rawD_enc s.data.toList) rfl
  exact ⟨h.1, h.2⟩
theorem dec_cases (t : List UInt8) : (decC t = 0 ∧ enc (decS t).data.toList = t) ∨ (decC t = 2 ∧ decS t = ⟨#[]⟩) := by
  cases h : rawD t with
  | none => right; simp [decC, decS, dec, h]
  | some o =>
    by_cases he : enc o = t
    · left
      have h2 := dec_yes h he
      exact ⟨h2.2, by rw [h2.1]; exact he⟩
    · right
      have h2 := dec_no h he
      exact ⟨h2.2, h2.1⟩
theorem rawD_len (t : List UInt8) : ∀ o, rawD t = some o → o.length ≤ t.length := by
  induction t using rawD.induct with
  | case1 => intro o h; simp [rawD] at h; subst h; simp
  | case2 t ih => intro o h; rw [rawD] at h; have := ih o h; simp; omega
  | case3 a b t hh hv ih =>
    intro o h
    rw [rawD_code (fun h => hh h.1 (by rw [h.2]))] at h
    rw [if_pos hv] at h
    obtain ⟨x, hx, rfl⟩ := Option.map_eq_some_iff.1 h
    have := ih x hx
    simp; omega
  | case4 a b t hh hv =>
    intro o h
    rw [rawD_code (fun h => hh h.1 (by rw [h.2])), if_neg hv] at h
    cases h
  | case5 t h1 h2 =>
    intro o h
    match t, h1, h2 with
    | [], _, _ => simp [rawD] at h
    | [c], _, _ => simp [rawD] at h
    | a :: b :: t, _, h2 => exact (h2 a b t rfl).elim
  | case6 c r h1 h2 h3 ih =>
    intro o h
    rw [rawD_plain (fun e => h3 e)] at h
    obtain ⟨x, hx, rfl⟩ := Option.map_eq_some_iff.1 h
    have := ih x hx
    simp; omega
theorem decS_len (t : List UInt8) : (decS t).size ≤ t.length := by
  unfold decS dec
  cases h : rawD t with
  | none => exact Nat.zero_le _
  | some o =>
    have := rawD_len t o h
    simp only
    split
    · show (⟨o.toArray⟩ : ByteArray).size ≤ _
      rw [lsize]; exact this
    · exact Nat.zero_le _
theorem decA1 : decS [97, 61, 51, 68, 98, 13, 10, 99, 61, 50, 48] = ⟨#[97, 61, 98, 13, 10, 99, 32]⟩ ∧ decC [97, 61, 51, 68, 98, 13, 10, 99, 61, 50, 48] = 0 :=
  dec_enc ⟨#[97, 61, 98, 13, 10, 99, 32]⟩
theorem decA2 : decC [97, 61, 51] = 2 := by simp [decC, dec, rawD]
theorem encA : enc [97, 61, 98, 13, 10, 99, 32] = [97, 61, 51, 68, 98, 13, 10, 99, 61, 50, 48] := by decide +kernel
set_option maxRecDepth 100000 in
set_option maxHeartbeats 1000000 in
theorem awake_any (w : World) (hm : MaxAt w) : Calls Tryd.prog 9 #[] w fun e w' => e = .returned (.bool true) ∧ Below w.heap.size w w' := by
  have HM := Lib.hid hm
  have c1 := decode_any ⟨#[97, 61, 51, 68, 98, 13, 10, 99, 61, 50, 48]⟩ w (by decide) hm
  rw [show (⟨#[97, 61, 51, 68, 98, 13, 10, 99, 61, 50, 48]⟩ : ByteArray).data.toList = [97, 61, 51, 68, 98, 13, 10, 99, 61, 50, 48] from rfl, decA1.1, decA1.2] at c1
  clear hm
  go_enter Tryd.func9, Tryd.ntmps9
  go_wp2_with fail
  refine c1.mono ?_
  rintro e w1 ⟨rfl, hb1⟩
  have c2 := decode_any ⟨#[97, 61, 51]⟩ w1 (by decide) (HM.out.up hb1)
  rw [show (⟨#[97, 61, 51]⟩ : ByteArray).data.toList = [97, 61, 51] from rfl, decA2] at c2
  generalize decS [97, 61, 51] = dz at *
  clear c1
  go_wp2_with fail
  refine c2.mono ?_
  rintro e w2 ⟨rfl, hb2⟩
  have hb3 := hb1.trans (hb2.mono hb1.size)
  have c3 := encode_any ⟨#[97, 61, 98, 13, 10, 99, 32]⟩ w2 (by decide) (HM.out.up hb3)
  rw [show (⟨#[97, 61, 98, 13, 10, 99, 32]⟩ : ByteArray).data.toList = [97, 61, 98, 13, 10, 99, 32] from rfl, encA] at c3
  clear c2 hb1 hb2
  go_wp2_with fail
  refine c3.mono ?_
  rintro e w3 ⟨rfl, hb4⟩
  have hb5 := hb3.trans (hb4.mono hb3.size)
  have c4 := sign_any 61 false w3
  rw [show signL 61 false = [61, 51, 68] by decide +kernel] at c4
  clear c3 hb3 hb4
  go_wp2_with fail
  refine c4.mono ?_
  rintro e w4 ⟨rfl, hb6⟩
  have hb7 := hb5.trans (hb6.mono hb5.size)
  clear c4 hb5 hb6
  go_wp2
  go_ret
  exact ⟨rfl, hb7⟩
set_option maxRecDepth 100000 in
set_option maxHeartbeats 1000000 in
theorem tells_all (s t : ByteArray) (c : Int) (last : Bool) (w : World) (hm : MaxAt w) (ws : s.size ≤ maxLen) (wt : t.size ≤ maxLen) (wc : (Lit.int .u8 c).wf = true) :
    Calls Tryd.prog 3 #[.string s, .string t, .int .u8 c, .bool last] w fun e w' => e = .returned (.bool true) ∧ Below w.heap.size w w' := by
  have hc : 0 ≤ c ∧ c ≤ 255 := by simpa [Lit.wf, IntKind.min, IntKind.max, IntKind.signed, IntKind.bits] using wc
  obtain ⟨cc, rfl⟩ : ∃ cc : UInt8, c = cc.toNat := ⟨UInt8.ofNat c.toNat, by rw [UInt8.toNat_ofNat']; omega⟩
  unfold maxLen at ws wt
  have HM := Lib.hid hm
  have c1 := awake_any w hm
  clear hm wc hc
  by_cases h1 : s.size ≤ 3000 ∧ t.size ≤ 3000
  · obtain ⟨hs, ht⟩ := h1
    have c2 := fun W (h : MaxAt W) => decode_any t W (by omega) h
    have c3 := fun W => refdecode_any t W (by omega)
    have c4 := fun W (h : MaxAt W) => encode_any s W (by omega) h
    have c5 := fun W => refencode_any s W (by omega)
    have c6 := fun W => sign_any cc last W
    have c7 := fun W => refsign_any cc last W
    generalize decS t.data.toList = ds at *
    generalize decC t.data.toList = dc at *
    generalize (⟨(enc s.data.toList).toArray⟩ : ByteArray) = es at *
    generalize (⟨(signL cc last).toArray⟩ : ByteArray) = sg at *
    go_enter Tryd.func3, Tryd.ntmps3
    go_wp2_with fail
    refine c1.mono ?_
    rintro e w1 ⟨rfl, hb1⟩
    go_wp2_with fail
    refine (c2 w1 (HM.out.up hb1)).mono ?_
    rintro e w2 ⟨rfl, hb2⟩
    replace hb2 := hb1.trans (hb2.mono hb1.size)
    clear hb1 c2 c1
    go_wp2_with fail
    refine (c3 w2).mono ?_
    rintro e w3 ⟨rfl, hb3⟩
    replace hb3 := hb2.trans (hb3.mono hb2.size)
    clear hb2 c3
    go_wp2_with fail
    refine (c4 w3 (HM.out.up hb3)).mono ?_
    rintro e w4 ⟨rfl, hb4⟩
    replace hb4 := hb3.trans (hb4.mono hb3.size)
    clear hb3 c4
    go_wp2_with fail
    refine (c5 w4).mono ?_
    rintro e w5 ⟨rfl, hb5⟩
    replace hb5 := hb4.trans (hb5.mono hb4.size)
    clear hb4 c5
    go_wp2_with fail
    refine (c6 w5).mono ?_
    rintro e w6 ⟨rfl, hb6⟩
    replace hb6 := hb5.trans (hb6.mono hb5.size)
    clear hb5 c6
    go_wp2_with fail
    refine (c7 w6).mono ?_
    rintro e w7 ⟨rfl, hb7⟩
    replace hb7 := hb6.trans (hb7.mono hb6.size)
    clear hb6 c7
    go_wp2
    go_ret
    exact ⟨rfl, hb7⟩
  · rcases (show (3000 : Int) < s.size ∨ ((s.size : Int) ≤ 3000 ∧ (3000 : Int) < t.size) by omega) with h | ⟨h, h'⟩
    all_goals
      clear h1
      go_enter Tryd.func3, Tryd.ntmps3
      go_wp2_with fail
      refine c1.mono ?_
      rintro e w1 ⟨rfl, hb1⟩
      go_wp2
      go_ret
      exact ⟨rfl, hb1⟩
set_option maxRecDepth 100000 in
set_option maxHeartbeats 1000000 in
theorem back_all (s t : ByteArray) (w : World) (hm : MaxAt w) (ws : s.size ≤ maxLen) (wt : t.size ≤ maxLen) :
    Calls Tryd.prog 4 #[.string s, .string t] w fun e w' => e = .returned (.bool true) ∧ Below w.heap.size w w' := by
  unfold maxLen at ws wt
  have HM := Lib.hid hm
  have c1 := awake_any w hm
  clear hm
  by_cases h1 : s.size ≤ 3000 ∧ t.size ≤ 3000
  · obtain ⟨hs, ht⟩ := h1
    have hsz := bsize s
    have htz := bsize t
    have hel := enc_len s.data.toList
    have c2 := fun W (h : MaxAt W) => encode_any s W (by omega) h
    have c3 := fun W (h : MaxAt W) => decode_any ⟨(enc s.data.toList).toArray⟩ W (by rw [lsize]; omega) h
    have c4 := fun W (h : MaxAt W) => decode_any t W (by omega) h
    have c5 := fun W (h : MaxAt W) => encode_any (decS t.data.toList) W (by have := decS_len t.data.toList; omega) h
    rw [show (⟨(enc s.data.toList).toArray⟩ : ByteArray).data.toList = enc s.data.toList from rfl, (dec_enc s).1, (dec_enc s).2] at c3
    generalize (⟨(enc s.data.toList).toArray⟩ : ByteArray) = es at *
    have hd := dec_cases t.data.toList
    clear hel hsz htz
    rcases hd with ⟨hd1, hd2⟩ | ⟨hd1, hd2⟩
    · rw [hd1] at c4
      have ht2 : (⟨(enc (decS t.data.toList).data.toList).toArray⟩ : ByteArray) = t := by rw [hd2]
      rw [ht2] at c5
      clear hd1 hd2 ht2
      generalize decS t.data.toList = ds at *
      go_enter Tryd.func4, Tryd.ntmps4
      go_wp2_with fail
      refine c1.mono ?_
      rintro e w1 ⟨rfl, hb1⟩
      go_wp2_with fail
      refine (c2 w1 (HM.out.up hb1)).mono ?_
      rintro e w2 ⟨rfl, hb2⟩
      replace hb2 := hb1.trans (hb2.mono hb1.size)
      clear hb1 c2 c1
      go_wp2_with fail
      refine (c3 w2 (HM.out.up hb2)).mono ?_
      rintro e w3 ⟨rfl, hb3⟩
      replace hb3 := hb2.trans (hb3.mono hb2.size)
      clear hb2 c3
      go_wp2_with fail
      refine (c4 w3 (HM.out.up hb3)).mono ?_
      rintro e w4 ⟨rfl, hb4⟩
      replace hb4 := hb3.trans (hb4.mono hb3.size)
      clear hb3 c4
      go_wp2_with fail
      refine (c5 w4 (HM.out.up hb4)).mono ?_
      rintro e w5 ⟨rfl, hb5⟩
      replace hb5 := hb4.trans (hb5.mono hb4.size)
      clear hb4 c5
      go_wp2
      go_ret
      exact ⟨rfl, hb5⟩
    · rw [hd1, hd2] at c4
      clear hd1 hd2 c5
      go_enter Tryd.func4, Tryd.ntmps4
      go_wp2_with fail
      refine c1.mono ?_
      rintro e w1 ⟨rfl, hb1⟩
      go_wp2_with fail
      refine (c2 w1 (HM.out.up hb1)).mono ?_
      rintro e w2 ⟨rfl, hb2⟩
      replace hb2 := hb1.trans (hb2.mono hb1.size)
      clear hb1 c2 c1
      go_wp2_with fail
      refine (c3 w2 (HM.out.up hb2)).mono ?_
      rintro e w3 ⟨rfl, hb3⟩
      replace hb3 := hb2.trans (hb3.mono hb2.size)
      clear hb2 c3
      go_wp2_with fail
      refine (c4 w3 (HM.out.up hb3)).mono ?_
      rintro e w4 ⟨rfl, hb4⟩
      replace hb4 := hb3.trans (hb4.mono hb3.size)
      clear hb3 c4
      go_wp2
      go_ret
      exact ⟨rfl, hb4⟩
  · rcases (show (3000 : Int) < s.size ∨ ((s.size : Int) ≤ 3000 ∧ (3000 : Int) < t.size) by omega) with h | ⟨h, h'⟩
    all_goals
      clear h1
      go_enter Tryd.func4, Tryd.ntmps4
      go_wp2_with fail
      refine c1.mono ?_
      rintro e w1 ⟨rfl, hb1⟩
      go_wp2
      go_ret
      exact ⟨rfl, hb1⟩
end Go.Proofs.YtjkonhpmfolcoaaDoor
