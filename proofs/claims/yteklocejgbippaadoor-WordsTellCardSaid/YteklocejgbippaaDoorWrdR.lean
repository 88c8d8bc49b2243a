/- Package mailguardref05: Plain, Encode, Decode. -/
import Derived.Test.YteklocejgbippaaDoorWrdE
import Derived.Test.YteklocejgbippaaDoorBasT
set_option linter.unusedVariables false
set_option linter.unusedSimpArgs false
namespace Go.Proofs.YteklocejgbippaaDoor
open Go.RowKit
/-- Between two rounds of the document's Plain. -/
structure PlI (s : List UInt8) (k : Nat) : Prop where
  ok : ∀ j (h : j < s.length), j < k → okB (s[j]'h) = true
  nq : hasQ (s.take k) = false
theorem PlI.zero (s : List UInt8) : PlI s 0 := ⟨fun j _ h => absurd h (Nat.not_lt_zero _), by rw [List.take_zero]; rfl⟩
theorem PlI.done {s : List UInt8} {k : Nat} (h : PlI s k) (hk : s.length ≤ k) : plainB s = true := by
  unfold plainB
  have h2 := h.nq
  rw [List.take_of_length_le hk] at h2
  rw [h2, Bool.not_false, Bool.and_true, List.all_eq_true]
  intro x hx
  obtain ⟨j, hj, rfl⟩ := List.getElem_of_mem hx
  exact h.ok j hj (by omega)
theorem PlI.bad {s : List UInt8} {k : Nat} (hk : k < s.length) (hb : ¬ (32 ≤ (s[k]).toNat ∧ (s[k]).toNat ≤ 126)) : plainB s = false :=
  plain_bad hk (by unfold okB; rw [decide_eq_false_iff_not]; exact hb)
theorem PlI.okn {s : List UInt8} {k : Nat} (h : PlI s k) (hk : k < s.length) (hb : 32 ≤ (s[k]).toNat ∧ (s[k]).toNat ≤ 126) : ∀ j (h : j < s.length), j < k + 1 → okB (s[j]'h) = true := by
  intro j hj h1
  rcases Nat.lt_or_ge j k with x | x
  · exact h.ok j hj x
  · obtain rfl : j = k := by omega
    unfold okB; rw [decide_eq_true_iff]; exact hb
theorem PlI.one {s : List UInt8} (h : PlI s 0) (hk : 0 < s.length) (hb : 32 ≤ (s[0]).toNat ∧ (s[0]).toNat ≤ 126) : PlI s 1 := ⟨h.okn hk hb, hasQ_zero s hk⟩
theorem PlI.next {s : List UInt8} {k : Nat} (h : PlI s (k + 1)) (hk : k + 1 < s.length) (hb : 32 ≤ (s[k + 1]).toNat ∧ (s[k + 1]).toNat ≤ 126) (hq : ¬ (s[k]'(by omega) = 61 ∧ s[k + 1] = 63)) : PlI s (k + 2) := by
  refine ⟨h.okn hk hb, ?_⟩
  rw [hasQ_next hk h.nq, Bool.and_eq_false_iff]
  by_cases h1 : s[k]'(by omega) = 61
  · right; exact beq_false_of_ne fun e => hq ⟨h1, e⟩
  · left; exact decide_eq_false h1
theorem PlI.stop {s : List UInt8} {k : Nat} (h : PlI s (k + 1)) (hk : k + 1 < s.length) (hq : s[k]'(by omega) = 61 ∧ s[k + 1] = 63) : plainB s = false := by
  apply plain_bad2 (k := k + 2)
  rw [hasQ_next hk h.nq, hq.1, hq.2]; rfl
set_option maxRecDepth 100000 in
set_option maxHeartbeats 4000000 in
theorem refplain_any (s : ByteArray) (w : World) (hs : s.size ≤ 1000000) :
    Calls Tryd.prog 13 #[.string s] w fun e w' => e = .returned (.bool (plainB s.data.toList)) ∧ w = w' := by
  have hsz := bsize s
  obtain ⟨R, hR⟩ : ∃ R, R = plainB s.data.toList := ⟨_, rfl⟩
  rw [← hR]
  have HR := Lib.hid hR
  clear hR
  have hsi : (s.size : Int) ≤ 1000000 := by omega
  go_enter Tryd.func13, Tryd.ntmps13
  go_wp2
  go_loop [3] (fun i => ∃ k : Nat, k ≤ s.size ∧ i = .int .i64 k ∧ PlI s.data.toList k) (fun i => s.size - (intOf i).toNat)
  case atStart => exact ⟨0, Nat.zero_le _, rfl, PlI.zero _⟩
  case round =>
    obtain ⟨k, hk, rfl, hall⟩ := hrel
    have hk0 : (0 : Int) ≤ (k : Int) := by omega
    have HA := Lib.hid hall
    clear hall
    by_cases hkb : k < s.size
    · have hki : (k : Int) < s.size := by omega
      have hkl : k < s.data.toList.length := by omega
      obtain ⟨c, hc⟩ : ∃ c, c = s.data.toList[k]'hkl := ⟨_, rfl⟩
      have hbt : ∀ h, (s[k]'h) = c := fun h => by rw [hc]; simp; rfl
      have hcl : (c.toNat : Int) < 256 := by have := c.toNat_lt; omega
      by_cases hcc : (c.toNat : Int) < 32 ∨ (126 : Int) < c.toNat
      · have hb : R = false := HR.out.trans (PlI.bad hkl (by rw [← hc]; omega))
        subst hb
        have hz : (c.toNat : Int) < 32 ∨ ((32 : Int) ≤ c.toNat ∧ (126 : Int) < c.toNat) := by omega
        clear hc hcc
        rcases hz with z | ⟨z, z'⟩
        · go_wp2
          go_ret
          exact ⟨rfl, rfl⟩
        · go_wp2
          go_ret
          exact ⟨rfl, rfl⟩
      · have z1 : (32 : Int) ≤ c.toNat := by omega
        have z2 : (c.toNat : Int) ≤ 126 := by omega
        have hb2 : 32 ≤ (s.data.toList[k]'hkl).toNat ∧ (s.data.toList[k]'hkl).toNat ≤ 126 := by rw [← hc]; omega
        clear hcc
        rcases Nat.eq_zero_or_pos k with rfl | hkp
        · have HN := Lib.hid (HA.out.one hkl hb2)
          clear hb2 hc
          go_wp2
          go_round
          case rel => exact ⟨1, by omega, by go_num, HN.out⟩
          case measure => simp [intOf]; omega
        · obtain ⟨j, hj⟩ : ∃ j, k = j + 1 := ⟨k - 1, by omega⟩
          have hjl : j < s.data.toList.length := by omega
          obtain ⟨p, hp⟩ : ∃ p, p = s.data.toList[j]'hjl := ⟨_, rfl⟩
          have hbp : ∀ h, (s[j]'h) = p := fun h => by rw [hp]; simp; rfl
          have hpl : (p.toNat : Int) < 256 := by have := p.toNat_lt; omega
          have hkj : (k : Int) - 1 = (j : Int) := by omega
          have hj0 : (0 : Int) ≤ (j : Int) := by omega
          have hji : (j : Int) < s.size := by omega
          have hkp2 : (0 : Int) < (k : Int) := by omega
          by_cases hq : p = 61 ∧ c = 63
          · have hb : R = false := HR.out.trans (by
              subst hj
              exact HA.out.stop hkl ⟨by rw [← hp]; exact hq.1, by rw [← hc]; exact hq.2⟩)
            subst hb
            obtain ⟨rfl, rfl⟩ := hq
            clear hb2 hp hc hj
            go_wp2
            go_ret
            exact ⟨rfl, rfl⟩
          · have HN : Hid (PlI s.data.toList (k + 1)) := Lib.hid (by
              subst hj
              exact HA.out.next hkl hb2 (fun e => hq ⟨by rw [hp]; exact e.1, by rw [hc]; exact e.2⟩))
            clear hb2 hp hc hj
            by_cases hp6 : p = 61
            · subst hp6
              have hc6 : c ≠ 63 := fun e => hq ⟨rfl, e⟩
              obtain ⟨t1, -⟩ := u8F (n := 63) hc6 rfl
              clear hq hc6
              go_wp2
              go_round
              case rel => exact ⟨k + 1, by omega, by go_num, HN.out⟩
              case measure => simp [intOf]; omega
            · obtain ⟨t1, -⟩ := u8F (n := 61) hp6 rfl
              clear hq hp6
              go_wp2
              go_round
              case rel => exact ⟨k + 1, by omega, by go_num, HN.out⟩
              case measure => simp [intOf]; omega
    · have hki : ¬ (k : Int) < s.size := by omega
      have hb : R = true := HR.out.trans (HA.out.done (by omega))
      subst hb
      clear HA
      go_wp2
      go_ret
      exact ⟨rfl, rfl⟩
theorem wrd_ba2 (o e : List UInt8) : (⟨o.toArray⟩ : ByteArray) ++ ⟨#[61, 63, 85, 84, 70, 45, 56, 63, 66, 63]⟩ ++ ⟨e.toArray⟩ ++ ⟨#[63, 61]⟩ = ⟨(o ++ (wHead ++ e ++ wTail)).toArray⟩ := by
  apply ByteArray.ext; simp [wHead, wTail]
set_option maxRecDepth 100000 in
set_option maxHeartbeats 8000000 in
theorem refwenc_any (s : ByteArray) (w : World) (hs : s.size ≤ 100000) :
    Calls Tryd.prog 11 #[.string s] w fun e w' => e = .returned (.string ⟨(wEnc s.data.toList).toArray⟩) ∧ Below w.heap.size w w' := by
  have hsz := bsize s
  have c1 := refplain_any s w (by omega)
  have hsi : (s.size : Int) ≤ 100000 := by omega
  by_cases hp : plainB s.data.toList = true
  · rw [hp] at c1
    have e : wEnc s.data.toList = s.data.toList := by unfold wEnc; rw [if_pos hp]
    rw [e]
    clear hp e
    go_enter Tryd.func11, Tryd.ntmps11
    go_wp2_with fail
    refine c1.mono ?_
    rintro e w1 ⟨rfl, rfl⟩
    go_wp2
    go_ret
    exact ⟨rfl, Below.refl _ _⟩
  · have hp2 : plainB s.data.toList = false := by simpa using hp
    rw [hp2] at c1
    have hn := not_plain_ne hp2
    have e : wEnc s.data.toList = joinS (wrds s.data.toList) := by unfold wEnc; rw [if_neg hp]
    rw [e]
    obtain ⟨SS, hSS⟩ : ∃ SS : ByteArray, SS = ⟨(joinS (wrds s.data.toList)).toArray⟩ := ⟨_, rfl⟩
    rw [← hSS]
    have HS := Lib.hid hSS
    have hst := EncI.start hn
    clear hp hp2 hn e hSS
    go_enter Tryd.func11, Tryd.ntmps11
    go_wp2_with fail
    refine c1.mono ?_
    rintro e w1 ⟨rfl, rfl⟩
    clear c1
    go_wp2
    go_loopw [3, 4] (fun x i wr => ∃ (k a : Nat) (O : ByteArray), x = .string O ∧ i = .int .i64 a ∧ a = 45 * k ∧ a ≤ s.size + 44 ∧ O.size ≤ 73 * k ∧ EncI s.data.toList O.data.toList k ∧ Below w.heap.size w wr) (fun _ i _ => s.size + 45 - (intOf i).toNat)
    case atStart => exact ⟨0, 0, ⟨#[]⟩, rfl, rfl, rfl, by omega, Nat.zero_le _, hst, Below.refl _ _⟩
    case round =>
      obtain ⟨k, a, O, rfl, rfl, hak, has, hO, hen, hbl⟩ := hrel
      have ha0 : (0 : Int) ≤ (a : Int) := by omega
      have hai : (a : Int) ≤ 100044 := by omega
      have hOi : (O.size : Int) ≤ 300000 := by omega
      have HB := Lib.hid hbl
      have HEN := Lib.hid hen
      clear hst hen hbl
      by_cases hlt : a < s.size
      · have hli : (a : Int) < s.size := by omega
        obtain ⟨b, hb⟩ : ∃ b, b = min (a + 45) s.size := ⟨_, rfl⟩
        obtain ⟨P, hP⟩ : ∃ P, s.extract a b = P := ⟨_, rfl⟩
        have hPd : P.data.toList = (s.data.toList.drop (45 * k)).take 45 := by
          rw [← hP, ext_list, hak]
          rcases (show b = a + 45 ∨ (b = s.size ∧ b ≤ a + 45) by omega) with e | ⟨e, e2⟩
          · rw [e, hak]; congr 1; omega
          · rw [List.take_of_length_le (by rw [List.length_drop]; omega), List.take_of_length_le (by rw [List.length_drop]; omega)]
        have hPz : P.size ≤ 45 := by rw [← hP, ByteArray.size_extract]; omega
        have c4 := fun W => refenc_any P W (by omega)
        obtain ⟨EP, hEP⟩ : ∃ EP : ByteArray, EP = ⟨(enc P.data.toList).toArray⟩ := ⟨_, rfl⟩
        have hEz2 : EP.size ≤ 60 := by rw [hEP, lsize, enc_len, bsize]; omega
        have hEz : (EP.size : Int) ≤ 60 := by omega
        rw [← hEP] at c4
        have hnx := HEN.out.next (by
          intro e
          have := congrArg List.length e
          rw [List.length_drop, List.length_nil] at this
          omega)
        have hwe : wrd ((s.data.toList.drop (45 * k)).take 45) = wHead ++ enc P.data.toList ++ wTail := by rw [← hPd]; rfl
        rw [hwe] at hnx
        have hb0 : (0 : Int) ≤ (b : Int) := by omega
        have hab : (a : Int) ≤ (b : Int) := by omega
        have hbs : (b : Int) ≤ (s.size : Int) := by omega
        rcases Nat.eq_zero_or_pos k with hk0 | hkp
        · obtain ⟨O2, hO2⟩ : ∃ O2, O ++ (⟨#[61, 63, 85, 84, 70, 45, 56, 63, 66, 63]⟩ : ByteArray) ++ EP ++ ⟨#[63, 61]⟩ = O2 := ⟨_, rfl⟩
          have hO2d : O2.data.toList = O.data.toList ++ (if k = 0 then [] else [32]) ++ (wHead ++ enc P.data.toList ++ wTail) := by
            rw [← hO2, hEP, if_pos hk0, List.append_nil]
            have := congrArg (fun x : ByteArray => x.data.toList) (wrd_ba2 O.data.toList (enc P.data.toList))
            simpa using this
          have hO2z : O2.size ≤ 73 * (k + 1) := by
            have h1 := congrArg List.length hO2d
            rw [bsize, if_pos hk0] at h1
            have h2 : (enc P.data.toList).length = EP.size := by rw [hEP, lsize]
            simp [wHead, wTail, h2, bsize] at h1
            omega
          rw [← hO2d] at hnx
          have HNX := Lib.hid (And.intro hnx (And.intro hO2z hak))
          have hk1 : ¬ (0 : Int) < (a : Int) := by omega
          clear hnx hO2z hwe hO2d hEP hPd hPz hEz2 hak hk0
          rcases (show b = s.size ∧ s.size < a + 45 ∨ b = a + 45 ∧ a + 45 ≤ s.size by omega) with ⟨hbb, hcs⟩ | ⟨hbb, hcs⟩
          · have hci : (s.size : Int) < (a : Int) + 45 := by omega
            rw [hbb] at hP
            clear hb hbb hcs hab hb0 hbs
            go_wp2_with fail
            refine (c4 _).mono ?_
            rintro e w5 ⟨rfl, hb5⟩
            have H5 := Lib.hid (HB.out.trans (hb5.mono HB.out.size))
            clear c4 hb5
            go_wp2
            go_roundw
            case rel =>
              obtain ⟨h1, h2, h3⟩ := HNX.out
              exact ⟨k + 1, a + 45, _, rfl, by go_num, by omega, by omega, h2, h1, H5.out⟩
            case measure => simp [intOf]; omega
          · have hci : ¬ (s.size : Int) < (a : Int) + 45 := by omega
            have hbi : (a : Int) + 45 = (b : Int) := by omega
            have HBB := Lib.hid hbb
            clear hb hbb hcs
            go_wp2_with fail
            refine (c4 _).mono ?_
            rintro e w5 ⟨rfl, hb5⟩
            have H5 := Lib.hid (HB.out.trans (hb5.mono HB.out.size))
            clear c4 hb5
            go_wp2
            go_roundw
            case rel =>
              obtain ⟨h1, h2, h3⟩ := HNX.out
              have h4 := HBB.out
              exact ⟨k + 1, a + 45, _, rfl, by first | go_num | (congr 1; omega), by omega, by omega, h2, h1, H5.out⟩
            case measure => simp [intOf]; omega
        · obtain ⟨O1, hO1⟩ : ∃ O1, O ++ (⟨#[32]⟩ : ByteArray) = O1 := ⟨_, rfl⟩
          have hO1d : O1.data.toList = O.data.toList ++ [32] := by rw [← hO1]; simp
          have hO1z : O1.size = O.size + 1 := by rw [← hO1]; simp [ByteArray.size_append]; rfl
          have hO1i : (O1.size : Int) ≤ 300001 := by omega
          obtain ⟨O2, hO2⟩ : ∃ O2, O1 ++ (⟨#[61, 63, 85, 84, 70, 45, 56, 63, 66, 63]⟩ : ByteArray) ++ EP ++ ⟨#[63, 61]⟩ = O2 := ⟨_, rfl⟩
          have hO2d : O2.data.toList = O.data.toList ++ (if k = 0 then [] else [32]) ++ (wHead ++ enc P.data.toList ++ wTail) := by
            rw [← hO2, hEP, if_neg (by omega), ← hO1d]
            have := congrArg (fun x : ByteArray => x.data.toList) (wrd_ba2 O1.data.toList (enc P.data.toList))
            simpa using this
          have hO2z : O2.size ≤ 73 * (k + 1) := by
            have h1 := congrArg List.length hO2d
            rw [bsize, if_neg (by omega)] at h1
            have h2 : (enc P.data.toList).length = EP.size := by rw [hEP, lsize]
            simp [wHead, wTail, h2, bsize] at h1
            omega
          rw [← hO2d] at hnx
          have HNX := Lib.hid (And.intro hnx (And.intro hO2z hak))
          have hk1 : (0 : Int) < (a : Int) := by omega
          clear hnx hO2z hwe hO2d hEP hPd hPz hEz2 hak hkp hO1d hO1z
          rcases (show b = s.size ∧ s.size < a + 45 ∨ b = a + 45 ∧ a + 45 ≤ s.size by omega) with ⟨hbb, hcs⟩ | ⟨hbb, hcs⟩
          · have hci : (s.size : Int) < (a : Int) + 45 := by omega
            rw [hbb] at hP
            clear hb hbb hcs hab hb0 hbs
            go_wp2_with fail
            refine (c4 _).mono ?_
            rintro e w5 ⟨rfl, hb5⟩
            have H5 := Lib.hid (HB.out.trans (hb5.mono HB.out.size))
            clear c4 hb5
            go_wp2
            go_roundw
            case rel =>
              obtain ⟨h1, h2, h3⟩ := HNX.out
              exact ⟨k + 1, a + 45, _, rfl, by go_num, by omega, by omega, h2, h1, H5.out⟩
            case measure => simp [intOf]; omega
          · have hci : ¬ (s.size : Int) < (a : Int) + 45 := by omega
            have hbi : (a : Int) + 45 = (b : Int) := by omega
            have HBB := Lib.hid hbb
            clear hb hbb hcs
            go_wp2_with fail
            refine (c4 _).mono ?_
            rintro e w5 ⟨rfl, hb5⟩
            have H5 := Lib.hid (HB.out.trans (hb5.mono HB.out.size))
            clear c4 hb5
            go_wp2
            go_roundw
            case rel =>
              obtain ⟨h1, h2, h3⟩ := HNX.out
              have h4 := HBB.out
              exact ⟨k + 1, a + 45, _, rfl, by first | go_num | (congr 1; omega), by omega, by omega, h2, h1, H5.out⟩
            case measure => simp [intOf]; omega
      · have hli : ¬ (a : Int) < s.size := by omega
        have hd := HEN.out.done (List.drop_of_length_le (by omega))
        have hOS : O = SS := by rw [HS.out, ← hd]
        subst hOS
        go_wp2
        go_ret
        exact ⟨rfl, HB.out⟩
/-- What the pieces from the j-th byte on say. -/
def tailU (s : List UInt8) (j : Nat) : Option (List UInt8) := if j ≤ s.length then unws (spl (s.drop j)) else some []
/-- Between two rounds of the document's Decode. -/
structure RWI (s : List UInt8) (f i : Nat) (o : List UInt8) : Prop where
  fl : f ≤ i
  say : unws (spl s) = (tailU s f).map (o ++ ·)
  nb : ∀ x ∈ (s.drop f).take (i - f), x ≠ 32
  fin : s.length < i → s.length < f
  len : o.length ≤ f
theorem RWI.start (s : List UInt8) : RWI s 0 0 [] := by
  refine ⟨Nat.le_refl _, ?_, by simp, id, Nat.zero_le _⟩
  unfold tailU
  rw [if_pos (Nat.zero_le _), List.drop_zero]
  cases unws (spl s) <;> rfl
theorem RWI.skip {s : List UInt8} {f i : Nat} {o : List UInt8} (h : RWI s f i o) (hi : i < s.length) (hc : s[i] ≠ 32) : RWI s f (i + 1) o := by
  refine ⟨Nat.le_succ_of_le h.fl, h.say, ?_, fun x => by omega, h.len⟩
  have hfl := h.fl
  have hl : i - f < (s.drop f).length := by rw [List.length_drop]; omega
  have e : i + 1 - f = (i - f) + 1 := by omega
  rw [e, List.take_succ_eq_append_getElem hl]
  intro x hx
  rcases List.mem_append.1 hx with hx | hx
  · exact h.nb x hx
  · rw [List.mem_singleton.1 hx, List.getElem_drop]
    have : f + (i - f) = i := by omega
    simp only [this]; exact hc
/-- The piece that ends at the i-th byte. -/
def pce (s : List UInt8) (f i : Nat) : List UInt8 := (s.drop f).take (i - f)
theorem RWI.piece {s : List UInt8} {f i : Nat} {o : List UInt8} (h : RWI s f i o) (hi : i ≤ s.length) (hc : ∀ h : i < s.length, s[i] = 32) : tailU s f = (unw (pce s f i)).bind fun x => (tailU s (i + 1)).map (x ++ ·) := by
  have hfl := h.fl
  have hnb := h.nb
  unfold tailU pce
  rw [if_pos (by omega)]
  rcases Nat.lt_or_ge i s.length with hlt | hge
  · have e : s.drop f = (s.drop f).take (i - f) ++ 32 :: s.drop (i + 1) := by
      have h1 := (List.take_append_drop (i - f) (s.drop f)).symm
      rw [List.drop_drop, show f + (i - f) = i by omega, List.drop_eq_getElem_cons hlt, hc hlt] at h1
      exact h1
    have e2 : spl (s.drop f) = (s.drop f).take (i - f) :: spl (s.drop (i + 1)) := by
      conv => lhs; rw [e]
      exact spl_app hnb _
    rw [e2, unws, if_pos (by omega)]
  · have e : (s.drop f).take (i - f) = s.drop f := List.take_of_length_le (by rw [List.length_drop]; omega)
    rw [e] at hnb ⊢
    rw [spl_one hnb, unws, if_neg (by omega)]
    rfl
theorem RWI.stop {s : List UInt8} {f i : Nat} {o : List UInt8} (h : RWI s f i o) (hi : i ≤ s.length) (hc : ∀ h : i < s.length, s[i] = 32) (hu : unw (pce s f i) = none) : unws (spl s) = none := by
  rw [h.say, h.piece hi hc, hu]; rfl
theorem RWI.next {s : List UInt8} {f i : Nat} {o x : List UInt8} (h : RWI s f i o) (hi : i ≤ s.length) (hc : ∀ h : i < s.length, s[i] = 32) (hu : unw (pce s f i) = some x) : RWI s (i + 1) (i + 1) (o ++ x) := by
  have hfl := h.fl
  refine ⟨Nat.le_refl _, ?_, by simp, id, ?_⟩
  · rw [h.say, h.piece hi hc, hu]
    simp only [Option.bind_some, Option.map_map]
    congr 1
    funext l
    simp
  · have h1 := unw_len hu
    have h2 := h.len
    have h3 : (pce s f i).length ≤ i - f := by unfold pce; rw [List.length_take]; omega
    rw [List.length_append]; omega
theorem RWI.done {s : List UInt8} {f i : Nat} {o : List UInt8} (h : RWI s f i o) (hi : s.length < i) : unws (spl s) = some o := by
  have h1 := h.say
  unfold tailU at h1
  rw [if_neg (by have := h.fin hi; omega)] at h1
  rw [h1]; simp
set_option maxRecDepth 100000 in
set_option maxHeartbeats 8000000 in
theorem refwdec_any (s : ByteArray) (w : World) (hs : s.size ≤ 50000) :
    Calls Tryd.prog 9 #[.string s] w fun e w' => e = .returned (.tuple #[.string (wdStr s.data.toList), .int .i64 (wdCode s.data.toList)]) ∧ Below w.heap.size w w' := by
  have hsz := bsize s
  have c1 := refplain_any s w (by omega)
  have hsi : (s.size : Int) ≤ 50000 := by omega
  by_cases hp : plainB s.data.toList = true
  · rw [hp] at c1
    have hd : wDec s.data.toList = some s.data.toList := by unfold wDec; rw [if_pos hp]
    have hd2 := wd_some hd
    rw [hd2.1, hd2.2]
    clear hp hd hd2
    go_enter Tryd.func9, Tryd.ntmps9
    go_wp2_with fail
    refine c1.mono ?_
    rintro e w1 ⟨rfl, rfl⟩
    go_wp2
    go_ret2
    exact ⟨rfl, Below.refl _ _⟩
  · have hp2 : plainB s.data.toList = false := by simpa using hp
    rw [hp2] at c1
    have hdd : wDec s.data.toList = (unws (spl s.data.toList)).bind fun o => if plainB o = false ∧ wEnc o = s.data.toList then some o else none := by unfold wDec; rw [if_neg hp]
    obtain ⟨SS, hSS⟩ : ∃ x, x = wdStr s.data.toList := ⟨_, rfl⟩
    obtain ⟨CC, hCC⟩ : ∃ x, x = wdCode s.data.toList := ⟨_, rfl⟩
    rw [← hSS, ← hCC]
    have HS := Lib.hid (And.intro hSS (And.intro hCC hdd))
    have hfail : unws (spl s.data.toList) = none → SS = ⟨#[]⟩ ∧ CC = 2 := by
      intro h1
      have h2 : wDec s.data.toList = none := by rw [hdd, h1]; rfl
      have h3 := wd_none h2
      exact ⟨hSS.trans h3.1, hCC.trans h3.2⟩
    have HF := Lib.hid hfail
    clear hSS hCC hdd hp hp2 hfail
    go_enter Tryd.func9, Tryd.ntmps9
    go_wp2_with fail
    refine c1.mono ?_
    rintro e w1 ⟨rfl, rfl⟩
    clear c1
    go_wp2
    go_loopw [4, 5, 6] (fun x f i wr => ∃ (a k : Nat) (O : ByteArray), x = .string O ∧ f = .int .i64 a ∧ i = .int .i64 k ∧ k ≤ s.size + 1 ∧ RWI s.data.toList a k O.data.toList ∧ Below w.heap.size w wr) (fun _ _ i _ => s.size + 1 - (intOf i).toNat)
    case atStart => exact ⟨0, 0, ⟨#[]⟩, rfl, rfl, rfl, Nat.zero_le _, RWI.start _, Below.refl _ _⟩
    case round =>
      obtain ⟨a, k, O, rfl, rfl, rfl, hk, hI, hbl⟩ := hrel
      have ha0 : (0 : Int) ≤ (a : Int) := by omega
      have hk0 : (0 : Int) ≤ (k : Int) := by omega
      have hak := hI.fl
      have haki : (a : Int) ≤ (k : Int) := by omega
      have hOl := hI.len
      rw [bsize] at hOl
      have hOi : (O.size : Int) ≤ 50001 := by omega
      have HI := Lib.hid (And.intro hI hbl)
      clear hI hbl hOl hak
      by_cases hkb : k ≤ s.size
      · have hki : (k : Int) ≤ s.size := by omega
        by_cases hsk : ∃ h : k < s.data.toList.length, s.data.toList[k]'h ≠ 32
        · obtain ⟨hkl, hne⟩ := hsk
          obtain ⟨c, hc⟩ : ∃ c, c = s.data.toList[k]'hkl := ⟨_, rfl⟩
          have hbt : ∀ h, (s[k]'h) = c := fun h => by rw [hc]; simp; rfl
          have HX := Lib.hid (HI.out.1.skip hkl hne)
          rw [← hc] at hne
          obtain ⟨t1, t2⟩ := u8F (n := 32) hne rfl
          have hki2 : (k : Int) < s.size := by omega
          clear hc hne hkl
          go_wp2
          go_roundw
          case rel => exact ⟨a, k + 1, O, rfl, rfl, by go_num, by omega, HX.out, HI.out.2⟩
          case measure => simp [intOf]; omega
        · have hsp : ∀ h : k < s.data.toList.length, s.data.toList[k] = 32 := fun h => Classical.byContradiction fun e => hsk ⟨h, e⟩
          obtain ⟨P, hP⟩ : ∃ P, s.extract a k = P := ⟨_, rfl⟩
          have hPd : P.data.toList = pce s.data.toList a k := by rw [← hP, ext_list]; rfl
          have hPz : P.size ≤ 50000 := by rw [← hP, ByteArray.size_extract]; omega
          have hPi : (P.size : Int) ≤ 50000 := by omega
          have hst := fun h => HF.out (HI.out.1.stop (by omega) hsp h)
          have hnx := fun x h => HI.out.1.next (x := x) (by omega) hsp h
          rw [← hPd] at hst hnx
          have huw := unw_ref P.data.toList
          rw [bsize] at huw
          have HST := Lib.hid hst
          have HNX := Lib.hid hnx
          have HSP := Lib.hid hsp
          have HKB := Lib.hid hkb
          -- the test at the top: where the piece ends
          have hend : (k : Int) < s.size ∧ (∃ h : k < s.size, s[k]'h = 32) ∨ ¬ (k : Int) < s.size := by
            rcases Nat.lt_or_ge k s.size with x | x
            · left
              refine ⟨by omega, x, ?_⟩
              have := hsp (by omega)
              rw [← this]; simp; rfl
            · right; omega
          clear hst hnx hsp hsk hPd hkb
          rcases hend with ⟨hlt, hx, hbt⟩ | hlt
          · by_cases hl12 : P.size < 12
            · have hli : (P.size : Int) < 12 := by omega
              rw [if_neg (by omega)] at huw
              have HN := Lib.hid (HST.out huw)
              clear huw hl12
              go_wp2
              go_ret2
              exact ⟨ret_si HN.out.1.symm HN.out.2.symm, HI.out.2⟩
            · have hli : (12 : Int) ≤ (P.size : Int) := by omega
              have hlz : decide ((P.size : Int) < 12) = false := decide_eq_false (by omega)
              obtain ⟨l, hl⟩ : ∃ l : Nat, l + 2 = P.size := ⟨P.size - 2, by omega⟩
              have hli2 : (P.size : Int) - 2 = (l : Int) := by omega
              have hl10 : (10 : Int) ≤ (l : Int) := by omega
              have hl0 : (0 : Int) ≤ (l : Int) := by omega
              have hlP : (l : Int) ≤ (P.size : Int) := by omega
              obtain ⟨T1, hT1⟩ : ∃ T1, P.extract 0 10 = T1 := ⟨_, rfl⟩
              have hT1d : T1.data.toList = P.data.toList.take 10 := by rw [← hT1, ext_list, List.drop_zero]
              obtain ⟨T2, hT2⟩ : ∃ T2, P.extract l P.size = T2 := ⟨_, rfl⟩
              have hPl := bsize P
              have hT2d : T2.data.toList = P.data.toList.drop (P.size - 2) := by
                rw [← hT2, ext_list, List.take_of_length_le (by rw [List.length_drop]; omega)]; congr 1; omega
              rw [← hT1d, ← hT2d] at huw
              by_cases hq1 : T1.data.toList = wHead
              · have e1 : (T1.toList == [61, 63, 85, 84, 70, 45, 56, 63, 66, 63]) = true := by rw [Lib.toList_data, hq1]; rfl
                by_cases hq2 : T2.data.toList = wTail
                · have e2 : (T2.toList == [63, 61]) = true := by rw [Lib.toList_data, hq2]; rfl
                  rw [if_pos ⟨by omega, hq1, hq2⟩] at huw
                  obtain ⟨Q, hQ⟩ : ∃ Q, P.extract 10 l = Q := ⟨_, rfl⟩
                  have hQd : Q.data.toList = (P.data.toList.drop 10).take (P.size - 12) := by
                    rw [← hQ, ext_list]; congr 1; omega
                  have hQz : Q.size ≤ 50000 := by rw [← hQ, ByteArray.size_extract]; omega
                  rw [← hQd] at huw
                  have c5 := fun W => refdec_any Q W (by omega)
                  have hds := decStr_size' Q.data.toList
                  rw [bsize] at hds
                  have hXx : ∀ y, dec Q.data.toList = some y → decStr Q.data.toList = ⟨y.toArray⟩ ∧ decCode Q.data.toList = 0 := fun y h => ⟨(decStr_some h).1, (decStr_some h).2.1⟩
                  have hXn : dec Q.data.toList = none → decCode Q.data.toList = 2 := fun h => (decStr_none h).2.1
                  generalize decStr Q.data.toList = X at *
                  generalize decCode Q.data.toList = C at *
                  have hXi : (X.size : Int) ≤ 50000 := by omega
                  clear hT1d hT2d hq1 hq2 hPl hl12 hQd hQz hds
                  cases hd : dec Q.data.toList with
                  | none =>
                    have hC := hXn hd
                    subst hC
                    have HN := Lib.hid (HST.out (huw.trans hd))
                    clear huw hd hXx hXn hl
                    go_wp2_with fail
                    refine (c5 wr).mono ?_
                    rintro e w5 ⟨rfl, hb5⟩
                    have H5 := Lib.hid (HI.out.2.trans (hb5.mono HI.out.2.size))
                    clear c5 hb5
                    go_wp2
                    go_ret2
                    exact ⟨ret_si HN.out.1.symm HN.out.2.symm, H5.out⟩
                  | some y =>
                    obtain ⟨hX, hC⟩ := hXx y hd
                    subst hC
                    have hyX : y = X.data.toList := by rw [hX]
                    have hnx := HNX.out y (huw.trans hd)
                    rw [hyX] at hnx
                    have hOX : (O ++ X).data.toList = O.data.toList ++ X.data.toList := by simp
                    rw [← hOX] at hnx
                    have HX := Lib.hid hnx
                    clear huw hd hXx hXn hX hyX hnx hOX hl
                    go_wp2_with fail
                    refine (c5 wr).mono ?_
                    rintro e w5 ⟨rfl, hb5⟩
                    have H5 := Lib.hid (HI.out.2.trans (hb5.mono HI.out.2.size))
                    clear c5 hb5
                    go_wp2
                    go_roundw
                    case rel => exact ⟨k + 1, k + 1, _, rfl, by go_num, by go_num, by have := HKB.out; omega, HX.out, H5.out⟩
                    case measure => have := HKB.out; simp [intOf]; omega
                · have e2 : (T2.toList == [63, 61]) = false := by rw [Lib.toList_data]; exact beq_false_of_ne hq2
                  rw [if_neg (fun x => hq2 x.2.2)] at huw
                  have HN := Lib.hid (HST.out huw)
                  clear huw hl12 hT1d hT2d hq1 hq2 hPl hl
                  go_wp2
                  go_ret2
                  exact ⟨ret_si HN.out.1.symm HN.out.2.symm, HI.out.2⟩
              · have e1 : (T1.toList == [61, 63, 85, 84, 70, 45, 56, 63, 66, 63]) = false := by rw [Lib.toList_data]; exact beq_false_of_ne hq1
                rw [if_neg (fun x => hq1 x.2.1)] at huw
                have HN := Lib.hid (HST.out huw)
                clear huw hl12 hT1d hT2d hq1 hPl hT2
                go_wp2
                go_ret2
                exact ⟨ret_si HN.out.1.symm HN.out.2.symm, HI.out.2⟩
          · by_cases hl12 : P.size < 12
            · have hli : (P.size : Int) < 12 := by omega
              rw [if_neg (by omega)] at huw
              have HN := Lib.hid (HST.out huw)
              clear huw hl12
              go_wp2
              go_ret2
              exact ⟨ret_si HN.out.1.symm HN.out.2.symm, HI.out.2⟩
            · have hli : (12 : Int) ≤ (P.size : Int) := by omega
              have hlz : decide ((P.size : Int) < 12) = false := decide_eq_false (by omega)
              obtain ⟨l, hl⟩ : ∃ l : Nat, l + 2 = P.size := ⟨P.size - 2, by omega⟩
              have hli2 : (P.size : Int) - 2 = (l : Int) := by omega
              have hl10 : (10 : Int) ≤ (l : Int) := by omega
              have hl0 : (0 : Int) ≤ (l : Int) := by omega
              have hlP : (l : Int) ≤ (P.size : Int) := by omega
              obtain ⟨T1, hT1⟩ : ∃ T1, P.extract 0 10 = T1 := ⟨_, rfl⟩
              have hT1d : T1.data.toList = P.data.toList.take 10 := by rw [← hT1, ext_list, List.drop_zero]
              obtain ⟨T2, hT2⟩ : ∃ T2, P.extract l P.size = T2 := ⟨_, rfl⟩
              have hPl := bsize P
              have hT2d : T2.data.toList = P.data.toList.drop (P.size - 2) := by
                rw [← hT2, ext_list, List.take_of_length_le (by rw [List.length_drop]; omega)]; congr 1; omega
              rw [← hT1d, ← hT2d] at huw
              by_cases hq1 : T1.data.toList = wHead
              · have e1 : (T1.toList == [61, 63, 85, 84, 70, 45, 56, 63, 66, 63]) = true := by rw [Lib.toList_data, hq1]; rfl
                by_cases hq2 : T2.data.toList = wTail
                · have e2 : (T2.toList == [63, 61]) = true := by rw [Lib.toList_data, hq2]; rfl
                  rw [if_pos ⟨by omega, hq1, hq2⟩] at huw
                  obtain ⟨Q, hQ⟩ : ∃ Q, P.extract 10 l = Q := ⟨_, rfl⟩
                  have hQd : Q.data.toList = (P.data.toList.drop 10).take (P.size - 12) := by
                    rw [← hQ, ext_list]; congr 1; omega
                  have hQz : Q.size ≤ 50000 := by rw [← hQ, ByteArray.size_extract]; omega
                  rw [← hQd] at huw
                  have c5 := fun W => refdec_any Q W (by omega)
                  have hds := decStr_size' Q.data.toList
                  rw [bsize] at hds
                  have hXx : ∀ y, dec Q.data.toList = some y → decStr Q.data.toList = ⟨y.toArray⟩ ∧ decCode Q.data.toList = 0 := fun y h => ⟨(decStr_some h).1, (decStr_some h).2.1⟩
                  have hXn : dec Q.data.toList = none → decCode Q.data.toList = 2 := fun h => (decStr_none h).2.1
                  generalize decStr Q.data.toList = X at *
                  generalize decCode Q.data.toList = C at *
                  have hXi : (X.size : Int) ≤ 50000 := by omega
                  clear hT1d hT2d hq1 hq2 hPl hl12 hQd hQz hds
                  cases hd : dec Q.data.toList with
                  | none =>
                    have hC := hXn hd
                    subst hC
                    have HN := Lib.hid (HST.out (huw.trans hd))
                    clear huw hd hXx hXn hl
                    go_wp2_with fail
                    refine (c5 wr).mono ?_
                    rintro e w5 ⟨rfl, hb5⟩
                    have H5 := Lib.hid (HI.out.2.trans (hb5.mono HI.out.2.size))
                    clear c5 hb5
                    go_wp2
                    go_ret2
                    exact ⟨ret_si HN.out.1.symm HN.out.2.symm, H5.out⟩
                  | some y =>
                    obtain ⟨hX, hC⟩ := hXx y hd
                    subst hC
                    have hyX : y = X.data.toList := by rw [hX]
                    have hnx := HNX.out y (huw.trans hd)
                    rw [hyX] at hnx
                    have hOX : (O ++ X).data.toList = O.data.toList ++ X.data.toList := by simp
                    rw [← hOX] at hnx
                    have HX := Lib.hid hnx
                    clear huw hd hXx hXn hX hyX hnx hOX hl
                    go_wp2_with fail
                    refine (c5 wr).mono ?_
                    rintro e w5 ⟨rfl, hb5⟩
                    have H5 := Lib.hid (HI.out.2.trans (hb5.mono HI.out.2.size))
                    clear c5 hb5
                    go_wp2
                    go_roundw
                    case rel => exact ⟨k + 1, k + 1, _, rfl, by go_num, by go_num, by have := HKB.out; omega, HX.out, H5.out⟩
                    case measure => have := HKB.out; simp [intOf]; omega
                · have e2 : (T2.toList == [63, 61]) = false := by rw [Lib.toList_data]; exact beq_false_of_ne hq2
                  rw [if_neg (fun x => hq2 x.2.2)] at huw
                  have HN := Lib.hid (HST.out huw)
                  clear huw hl12 hT1d hT2d hq1 hq2 hPl hl
                  go_wp2
                  go_ret2
                  exact ⟨ret_si HN.out.1.symm HN.out.2.symm, HI.out.2⟩
              · have e1 : (T1.toList == [61, 63, 85, 84, 70, 45, 56, 63, 66, 63]) = false := by rw [Lib.toList_data]; exact beq_false_of_ne hq1
                rw [if_neg (fun x => hq1 x.2.1)] at huw
                have HN := Lib.hid (HST.out huw)
                clear huw hl12 hT1d hT2d hq1 hPl hT2
                go_wp2
                go_ret2
                exact ⟨ret_si HN.out.1.symm HN.out.2.symm, HI.out.2⟩
      · have hki : ¬ (k : Int) ≤ s.size := by omega
        have hsay := HI.out.1.done (by omega)
        have hdd := HS.out.2.2
        rw [hsay] at hdd
        simp only [Option.bind_some] at hdd
        have c8 := fun W => refplain_any O W (by omega)
        have c9 := fun W => refwenc_any O W (by omega)
        have HB := Lib.hid HI.out.2
        have hOE : (⟨O.data.toList.toArray⟩ : ByteArray) = O := by simp
        clear hsay HF
        by_cases hpo : plainB O.data.toList = true
        · rw [if_neg (by rw [hpo]; simp)] at hdd
          have hds := wd_none hdd
          have HE := Lib.hid (And.intro (HS.out.1.trans hds.1) (HS.out.2.1.trans hds.2))
          rw [hpo] at c8
          clear hdd hds hpo
          go_wp2_with fail
          refine (c8 wr).mono ?_
          rintro e wr ⟨rfl, rfl⟩
          clear c8 c9
          go_wp2
          go_ret2
          exact ⟨ret_si HE.out.1.symm HE.out.2.symm, HB.out⟩
        · have hpo2 : plainB O.data.toList = false := by simpa using hpo
          rw [hpo2] at c8
          by_cases hq : wEnc O.data.toList = s.data.toList
          · rw [if_pos ⟨hpo2, hq⟩] at hdd
            have hds := wd_some hdd
            rw [hOE] at hds
            have HE := Lib.hid (And.intro (HS.out.1.trans hds.1) (HS.out.2.1.trans hds.2))
            have hes : (⟨(wEnc O.data.toList).toArray⟩ : ByteArray) = s := by rw [hq]
            rw [hes] at c9
            clear hdd hds hpo hpo2 hq hes hOE
            go_wp2_with fail
            refine (c8 wr).mono ?_
            rintro e wr ⟨rfl, rfl⟩
            go_wp2_with fail
            refine (c9 wr).mono ?_
            rintro e w8 ⟨rfl, hb8⟩
            have H8 := Lib.hid (HB.out.trans (hb8.mono HB.out.size))
            clear c8 c9 hb8
            go_wp2
            go_ret2
            exact ⟨ret_si HE.out.1.symm HE.out.2.symm, H8.out⟩
          · rw [if_neg (fun x => hq x.2)] at hdd
            have hds := wd_none hdd
            have HE := Lib.hid (And.intro (HS.out.1.trans hds.1) (HS.out.2.1.trans hds.2))
            have hes : ((⟨(wEnc O.data.toList).toArray⟩ : ByteArray).toList == s.toList) = false := by
              rw [Lib.toList_data, Lib.toList_data]; exact beq_false_of_ne hq
            generalize (⟨(wEnc O.data.toList).toArray⟩ : ByteArray) = TT at *
            clear hdd hds hpo hpo2 hq hOE
            go_wp2_with fail
            refine (c8 wr).mono ?_
            rintro e wr ⟨rfl, rfl⟩
            go_wp2_with fail
            refine (c9 wr).mono ?_
            rintro e w8 ⟨rfl, hb8⟩
            have H8 := Lib.hid (HB.out.trans (hb8.mono HB.out.size))
            clear c8 c9 hb8
            go_wp2
            go_ret2
            exact ⟨ret_si HE.out.1.symm HE.out.2.symm, H8.out⟩
end Go.Proofs.YteklocejgbippaaDoor
