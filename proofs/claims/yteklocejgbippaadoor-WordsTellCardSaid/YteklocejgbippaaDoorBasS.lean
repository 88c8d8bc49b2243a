/- Package mailguardref03: letter, bit, Encode: the walks. -/
import Derived.Test.YteklocejgbippaaDoorBasR
set_option linter.unusedVariables false
set_option linter.unusedSimpArgs false
namespace Go.Proofs.YteklocejgbippaaDoor
open Go.RowKit
theorem letter_any (v : Nat) (hv : v < 64) (w : World) : Calls Tryd.prog 32 #[.int .i64 v] w fun e w' => e = .returned (.int .u8 (L64 v).toNat) ∧ w = w' := by
  have hv0 : (0 : Int) ≤ (v : Int) := by omega
  have hl : ∀ x : Int, ((L64 v).toNat : Int) = x → Ending.returned (Value.int .u8 x) = Ending.returned (.int .u8 ((L64 v).toNat : Int)) := fun x h => by rw [h]
  have HL := Lib.hid hl
  clear hl
  rcases (show (v : Int) < 26 ∨ (26 ≤ (v : Int) ∧ (v : Int) < 52) ∨ (52 ≤ (v : Int) ∧ (v : Int) < 62) ∨ (v : Int) = 62 ∨ ((v : Int) = 63) by omega) with h | ⟨h, h'⟩ | ⟨h, h'⟩ | h | h
  · have he : ((L64 v).toNat : Int) = 65 + v := by unfold L64; rw [if_pos (by omega), UInt8.toNat_ofNat']; omega
    have HE := Lib.hid he
    clear he hv
    go_enter Tryd.func32, Tryd.ntmps32
    go_wp2
    go_ret
    exact ⟨HL.out _ (by rw [HE.out]; try omega), rfl⟩
  · have he : ((L64 v).toNat : Int) = 97 + v - 26 := by unfold L64; rw [if_neg (by omega), if_pos (by omega), UInt8.toNat_ofNat']; omega
    have HE := Lib.hid he
    clear he hv
    go_enter Tryd.func32, Tryd.ntmps32
    go_wp2
    go_ret
    exact ⟨HL.out _ (by rw [HE.out]; try omega), rfl⟩
  · have he : ((L64 v).toNat : Int) = 48 + v - 52 := by unfold L64; rw [if_neg (by omega), if_neg (by omega), if_pos (by omega), UInt8.toNat_ofNat']; omega
    have HE := Lib.hid he
    clear he hv
    go_enter Tryd.func32, Tryd.ntmps32
    go_wp2
    go_ret
    exact ⟨HL.out _ (by rw [HE.out]; try omega), rfl⟩
  · have he : ((L64 v).toNat : Int) = 43 := by
      have : v = 62 := by omega
      subst this; rfl
    have HE := Lib.hid he
    have hb : ((v : Int) == 62) = true := by rw [beq_iff_eq]; exact h
    clear he hv
    go_enter Tryd.func32, Tryd.ntmps32
    go_wp2
    go_ret
    exact ⟨HL.out _ (by rw [HE.out]; try omega), rfl⟩
  · have he : ((L64 v).toNat : Int) = 47 := by
      have : v = 63 := by omega
      subst this; rfl
    have HE := Lib.hid he
    have hb : ((v : Int) == 62) = false := by rw [beq_eq_false_iff_ne]; omega
    clear he hv
    go_enter Tryd.func32, Tryd.ntmps32
    go_wp2
    go_ret
    exact ⟨HL.out _ (by rw [HE.out]; try omega), rfl⟩
set_option maxRecDepth 100000 in
set_option maxHeartbeats 2000000 in
theorem bit_any (s : ByteArray) (i : Nat) (hi : i ≤ 100000000) (w : World) : Calls Tryd.prog 34 #[.string s, .int .i64 i] w fun e w' => e = .returned (.int .i64 (bitAt s.data.toList i)) ∧ w = w' := by
  have hsz := bsize s
  have hi0 : (0 : Int) ≤ (i : Int) := by omega
  have hib : (i : Int) ≤ 100000000 := by omega
  by_cases h : i / 8 < s.size
  · have hlt : (i : Int) / 8 < (s.size : Int) := by omega
    have hkl : i / 8 < s.data.toList.length := by omega
    have hb : bitAt s.data.toList i = (s.data.toList[i / 8]'hkl).toNat / 2 ^ (7 - i % 8) % 2 := by
      unfold bitAt; rw [if_pos hkl, List.getD_eq_getElem?_getD, List.getElem?_eq_getElem hkl]; rfl
    obtain ⟨c, hc⟩ : ∃ c, c = s.data.toList[i / 8]'hkl := ⟨_, rfl⟩
    have hbt : ∀ h, (s[i / 8]'h) = c := fun h => by rw [hc]; simp; rfl
    rw [← hc] at hb
    have HB := Lib.hid hb
    have hcl : (c.toNat : Int) < 256 := by have := c.toNat_lt; omega
    have hwz : (i : Int) % 8 ≤ 7 := by omega
    have hwz0 : 0 ≤ (i : Int) % 8 := by omega
    clear hb hc hkl h hsz
    go_enter Tryd.func34, Tryd.ntmps34
    go_wp2
    go_ret
    refine ⟨ret_int ?_, rfl⟩
    rw [HB.out]
    have e : ((c.toNat : Int) / 2 ^ (7 - i % 8)) = ((c.toNat / 2 ^ (7 - i % 8) : Nat) : Int) := by simp
    have h2 : c.toNat / 2 ^ (7 - i % 8) ≤ c.toNat := Nat.div_le_self _ _
    rw [e]
    generalize c.toNat / 2 ^ (7 - i % 8) = z at *
    rw [IntWalk.wrap64_in _ (by omega), Int.tmod_eq_emod_of_nonneg (by omega)]
    omega
  · have hlt : (s.size : Int) ≤ (i : Int) / 8 := by omega
    have hb : bitAt s.data.toList i = 0 := by unfold bitAt; rw [if_neg (by omega)]
    have HB := Lib.hid hb
    clear hb h hsz
    go_enter Tryd.func34, Tryd.ntmps34
    go_wp2
    go_ret
    exact ⟨by rw [HB.out]; rfl, rfl⟩
def sliceLen : Value → Nat
  | .slice _ n _ => n
  | _ => 0
set_option maxRecDepth 100000 in
set_option maxHeartbeats 4000000 in
/-- The document's letters are the coder's. -/
theorem refenc_any (s : ByteArray) (w : World) (hs : s.size ≤ 1000000) :
    Calls Tryd.prog 24 #[.string s] w fun e w' => e = .returned (.string ⟨(enc s.data.toList).toArray⟩) ∧ Below w.heap.size w w' := by
  have hsz := bsize s
  have hsi : (s.size : Int) ≤ 1000000 := by omega
  have hTl := encT_len s.data.toList
  rw [hsz] at hTl
  go_enter Tryd.func24, Tryd.ntmps24
  go_wp2
  go_loopw [3, 4] (fun v i wr => ∃ m : Nat, m ≤ (encT s.data.toList).length ∧ i = .int .i64 (6 * (m : Int)) ∧ BS wr w.heap.size v ((encT s.data.toList).take m) ∧ Below w.heap.size w wr) (fun _ i _ => 8 * s.size + 6 - (intOf i).toNat)
  case atStart => exact ⟨0, Nat.zero_le _, rfl, by rw [List.take_zero]; exact BS.nil _ _, Below.refl _ _⟩
  case round =>
    obtain ⟨m, hm, rfl, hown, hbl⟩ := hrel
    by_cases hlt : m < (encT s.data.toList).length
    · have hli : (6 : Int) * m < 8 * (s.size : Int) := by omega
      have hm0 : (0 : Int) ≤ (m : Int) := by omega
      have hmb : (m : Int) ≤ 2000000 := by omega
      have hgt := encT_get s.data.toList m hlt
      have htk := List.take_succ_eq_append_getElem hlt
      have hwl : w.heap.size ≤ wr.heap.size := hbl.size
      have hol : ((encT s.data.toList).take m).length + 1 ≤ 70368744177664 := by rw [List.length_take]; omega
      rw [hgt] at htk
      have HT := Lib.hid htk
      have HO := Lib.hid (And.intro hown hbl)
      have HTL := Lib.hid hTl
      have HLT := Lib.hid hlt
      clear hgt htk hTl hlt
      go_wp2
      go_loop [5, 6] (fun v k => ∃ q : Nat, q ≤ 6 ∧ k = .int .i64 q ∧ v = .int .i64 (bitsN s.data.toList (6 * m) q)) (fun _ k => 6 - (intOf k).toNat)
      case atStart => exact ⟨0, Nat.zero_le _, rfl, rfl⟩
      case round =>
        obtain ⟨q, hq, rfl, rfl⟩ := hrel
        have hq0 : (0 : Int) ≤ (q : Int) := by omega
        have hbl2 := bitsN_lt s.data.toList (6 * m) q
        by_cases hq6 : q < 6
        · have hqi : (q : Int) < 6 := by omega
          have hb6 : bitsN s.data.toList (6 * m) q < 64 := Nat.lt_of_lt_of_le hbl2 (Nat.pow_le_pow_right (by decide) hq)
          have c1 := fun W => bit_any s (6 * m + q) (by omega) W
          have hbt := bitAt_lt s.data.toList (6 * m + q)
          have hst : bitsN s.data.toList (6 * m) (q + 1) = 2 * bitsN s.data.toList (6 * m) q + bitAt s.data.toList (6 * m + q) := rfl
          generalize bitsN s.data.toList (6 * m) q = a at *
          generalize bitAt s.data.toList (6 * m + q) = b at *
          have hai : (a : Int) < 64 := by omega
          have hai0 : (0 : Int) ≤ (a : Int) := by omega
          have hbi : (b : Int) < 2 := by omega
          have hbi0 : (0 : Int) ≤ (b : Int) := by omega
          have hca : ((6 * m + q : Nat) : Int) = 6 * (m : Int) + (q : Int) := by omega
          rw [hca] at c1
          have HST := Lib.hid hst
          clear hst hb6 hbt hca hbl2
          go_wp2_with fail
          refine (c1 _).mono ?_
          rintro e w5 ⟨rfl, rfl⟩
          go_wp2
          go_round
          case rel => refine ⟨q + 1, by omega, by go_num, ?_⟩; rw [HST.out]; go_num
          case measure => simp [intOf]; omega
        · obtain rfl : q = 6 := by omega
          have c2 := fun W => letter_any (bitsN s.data.toList (6 * m) 6) (by omega) W
          generalize bitsN s.data.toList (6 * m) 6 = a at *
          clear hbl2
          go_wp2_with fail
          refine (c2 _).mono ?_
          rintro e w5 ⟨rfl, rfl⟩
          clear c2
          obtain ⟨c, hc⟩ : ∃ c, c = L64 a := ⟨_, rfl⟩
          rw [← hc]
          have HC := Lib.hid hc
          clear hc
          go_wp2_with (at_builtin; refine wp_app1 rfl (.tmp 26) (.tmp 29) rfl w.heap.size _ _ rfl c _ rfl hown rfl hol hwl ?_)
          intro v' w6 hown6 hch
          have H6 := Lib.hid (And.intro hown6 (HO.out.2.trans hch.below))
          clear hown6 hch
          go_wp2
          go_roundw
          case rel => exact ⟨m + 1, by have := HLT.out; omega, by go_num, by rw [HT.out, ← HC.out]; exact H6.out.1, H6.out.2⟩
          case measure => simp [intOf]; omega
    · have hmE : m = (encT s.data.toList).length := by omega
      have hli : (8 : Int) * (s.size : Int) ≤ 6 * m := by omega
      have hm0 : (0 : Int) ≤ (m : Int) := by omega
      rw [hmE, List.take_length] at hown
      have HO := Lib.hid (And.intro hown hbl)
      clear hown hbl
      have hf := enc_T s.data.toList
      have hfl : (encT s.data.toList).length + fills s.data.toList.length = (s.size + 2) / 3 * 4 := by
        have h1 := congrArg List.length hf
        rw [enc_len, List.length_append, List.length_replicate, hsz] at h1
        rw [hsz]; omega
      have hf2 : fills s.data.toList.length ≤ 2 := by unfold fills; split <;> (try split) <;> omega
      have hEb : (encT s.data.toList).length ≤ 2000000 := by omega
      generalize encT s.data.toList = E at *
      generalize fills s.data.toList.length = F at *
      have HF := Lib.hid (And.intro hf (And.intro hfl (And.intro hf2 hEb)))
      clear hf hfl hf2 hEb hmE hlt hTl hm
      go_wp2
      go_loopw [3] (fun v wr => ∃ q : Nat, q ≤ F ∧ BS wr w.heap.size v (E ++ List.replicate q 61) ∧ Below w.heap.size w wr) (fun v _ => E.length + 3 - sliceLen v)
      case atStart => exact ⟨0, Nat.zero_le _, by rw [List.replicate_zero, List.append_nil]; exact HO.out.1, HO.out.2⟩
      case round =>
        obtain ⟨q, hq, hown, hbl⟩ := hrel
        obtain ⟨hf, hfl, hf2, hEb⟩ := HF.out
        obtain ⟨ao, cap, rfl⟩ := hown.shape
        have hNl : (E ++ List.replicate q 61).length = E.length + q := by rw [List.length_append, List.length_replicate]
        have hwl : w.heap.size ≤ wr.heap.size := hbl.size
        by_cases hqF : q < F
        · have hne : (((E ++ List.replicate q 61).length : Int) % 4 != 0) = true := by rw [bne_iff_ne]; omega
          have hol : (E ++ List.replicate q 61).length + 1 ≤ 70368744177664 := by omega
          have hn0 : (0 : Int) ≤ ((E ++ List.replicate q 61).length : Int) := by omega
          have hrs : (E ++ List.replicate q 61) ++ [61] = E ++ List.replicate (q + 1) 61 := by rw [List.replicate_succ', List.append_assoc]
          have HX := Lib.hid (And.intro hrs hNl)
          have HB := Lib.hid hbl
          clear hrs hNl hbl hf hfl
          generalize hZ : E ++ List.replicate q 61 = Z at *
          have HZ := Lib.hid hZ
          clear hZ
          go_wp2_with (at_builtin; refine wp_app1 rfl (.tmp 35) (.tmp 36) rfl w.heap.size _ Z rfl 61 _ rfl hown rfl hol hwl ?_)
          intro v' w6 hown6 hch
          rw [HX.out.1] at hown6
          obtain ⟨ao6, cap6, rfl⟩ := hown6.shape
          have H6 := Lib.hid (And.intro hown6 (HB.out.trans hch.below))
          clear hown6 hch
          go_wp2
          go_roundw
          case rel => exact ⟨q + 1, by omega, H6.out.1, H6.out.2⟩
          case measure =>
            have h1 := HX.out.2
            simp only [sliceLen, List.length_append, List.length_replicate]
            omega
        · have hne : (((E ++ List.replicate q 61).length : Int) % 4) = 0 := by omega
          have hn0 : (0 : Int) ≤ ((E ++ List.replicate q 61).length : Int) := by omega
          have hcv := hown.conv
          have hE : E ++ List.replicate q 61 = enc s.data.toList := by rw [hf, show q = F by omega]
          have HB := Lib.hid (And.intro hbl hE)
          clear hbl hf hfl hNl hown hE
          obtain ⟨Z, hZ⟩ : ∃ Z, E ++ List.replicate q 61 = Z := ⟨_, rfl⟩
          rw [hZ] at hne hn0 hcv HB
          rw [hZ]
          clear hZ
          go_wp2
          go_ret
          exact ⟨ret_str HB.out.2, HB.out.1⟩
end Go.Proofs.YteklocejgbippaaDoor
