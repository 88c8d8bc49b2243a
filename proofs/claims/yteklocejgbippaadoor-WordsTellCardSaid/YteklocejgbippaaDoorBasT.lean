/- Package mailguardref03: Decode. Written by gen_basT.py. -/
import Derived.Test.YteklocejgbippaaDoorBasS
import Derived.BigQuiet
set_option linter.unusedVariables false
set_option linter.unusedSimpArgs false
namespace Go.Proofs.YteklocejgbippaaDoor
open Go.RowKit
/-- The worth that is found among the first k letters. -/
def wk (c : UInt8) (k : Nat) : Int := if worth c ≠ 0 ∧ worth c ≤ k then ((worth c - 1 : Nat) : Int) else -1
theorem worth_inv {c : UInt8} {k : Nat} (h : worth c = k + 1) : L64 k = c := by
  have := worth_of ⟨c.toNat, c.toNat_lt⟩
  simp only [UInt8.ofNat_toNat] at this
  have h2 := this (by omega)
  rw [h, Nat.add_sub_cancel] at h2
  exact h2
theorem wk_zero (c : UInt8) : wk c 0 = -1 := by unfold wk; rw [if_neg (by omega)]
theorem wk_hit {k : Nat} (hk : k < 64) : wk (L64 k) (k + 1) = (k : Int) := by
  unfold wk; rw [worth_L64 k hk, if_pos ⟨by omega, Nat.le_refl _⟩]; omega
theorem wk_miss {c : UInt8} {k : Nat} (h : L64 k ≠ c) : wk c (k + 1) = wk c k := by
  unfold wk
  have : worth c ≠ k + 1 := fun e => h (worth_inv e)
  by_cases h1 : worth c ≠ 0 ∧ worth c ≤ k
  · rw [if_pos h1, if_pos ⟨h1.1, by omega⟩]
  · rw [if_neg h1, if_neg (by omega)]
theorem wk_no {c : UInt8} (h : worth c = 0) (k : Nat) : wk c k = -1 := by unfold wk; rw [if_neg (by omega)]
theorem wk_all {c : UInt8} (h : worth c ≠ 0) : wk c 64 = ((worth c - 1 : Nat) : Int) := by unfold wk; rw [if_pos ⟨h, worth_le c⟩]
/-- Whatever text it is the letters of, its bytes come. -/
def RD (s : List UInt8) (k : Nat) (pre : List UInt8) (V m : Nat) : Prop := ∀ y, s = enc y → (decL V m ((encT y).drop k)).map (pre ++ ·) = some y
theorem fills_le (n : Nat) : fills n ≤ 2 := by unfold fills; split <;> (try split) <;> omega
theorem enc_at {s y : List UInt8} (hy : s = enc y) {k : Nat} (hk : k < s.length) : (∃ h : k < (encT y).length, s[k] = (encT y)[k] ∧ worth s[k] ≠ 0) ∨ ((encT y).length ≤ k ∧ s[k] = 61 ∧ s.length ≤ k + 2) := by
  have he := enc_T y
  have hl := congrArg List.length he
  rw [List.length_append, List.length_replicate] at hl
  have hf := fills_le y.length
  have hg : s[k]? = (encT y ++ List.replicate (fills y.length) 61)[k]? := by rw [hy, he]
  rw [List.getElem?_eq_getElem hk] at hg
  rcases Nat.lt_or_ge k (encT y).length with h | h
  · left
    rw [List.getElem?_append_left h, List.getElem?_eq_getElem h] at hg
    have hg2 := Option.some.inj hg
    refine ⟨h, hg2, ?_⟩
    obtain ⟨v, hv, he2⟩ := encT_nn y _ (List.getElem_mem h)
    rw [hg2, he2, worth_L64 v hv]; omega
  · right
    have hk2 : k < (enc y).length := by rw [← hy]; exact hk
    rw [List.getElem?_append_right h, List.getElem?_replicate, if_pos (by omega)] at hg
    exact ⟨h, Option.some.inj hg, by rw [hy]; omega⟩
theorem RD.start (s : List UInt8) : RD s 0 [] 0 0 := by
  intro y hy
  rw [List.drop_zero, decL_encT]; rfl
theorem RD.few {s : List UInt8} {k : Nat} {pre : List UInt8} {V m : Nat} (h : RD s k pre V m) (hk : k < s.length) (hw : worth s[k] ≠ 0) (hm : m < 2) : RD s (k + 1) pre (V * 64 + (worth s[k] - 1)) (m + 6) := by
  intro y hy
  have h1 := h y hy
  rcases enc_at hy hk with ⟨hl, e, _⟩ | ⟨_, e, _⟩
  · rw [List.drop_eq_getElem_cons hl, ← e, decL, if_neg hw, if_neg (by omega)] at h1
    exact h1
  · rw [e] at hw; exact absurd (by decide) hw
theorem RD.more {s : List UInt8} {k : Nat} {pre : List UInt8} {V m : Nat} (h : RD s k pre V m) (hk : k < s.length) (hw : worth s[k] ≠ 0) (hm : 2 ≤ m) :
    RD s (k + 1) (pre ++ [UInt8.ofNat ((V * 64 + (worth s[k] - 1)) / 2 ^ (m - 2))]) ((V * 64 + (worth s[k] - 1)) % 2 ^ (m - 2)) (m - 2) := by
  intro y hy
  have h1 := h y hy
  rcases enc_at hy hk with ⟨hl, e, _⟩ | ⟨_, e, _⟩
  · rw [List.drop_eq_getElem_cons hl, ← e, decL, if_neg hw, if_pos (by omega), show m + 6 - 8 = m - 2 by omega, Option.map_map] at h1
    rw [← h1]
    congr 1
    funext l
    simp
  · rw [e] at hw; exact absurd (by decide) hw
theorem RD.fill {s : List UInt8} {k : Nat} {pre : List UInt8} {V m : Nat} (h : RD s k pre V m) (hk : k < s.length) (hw : worth s[k] = 0) : RD s (k + 1) pre V m := by
  intro y hy
  have h1 := h y hy
  rcases enc_at hy hk with ⟨_, _, e⟩ | ⟨hl, _, _⟩
  · exact absurd hw e
  · rw [List.drop_of_length_le hl] at h1
    rw [List.drop_of_length_le (by omega)]
    exact h1
theorem RD.bad {s : List UInt8} {k : Nat} (hk : k < s.length) (hw : worth s[k] = 0) (hb : ¬ (s[k] = 61 ∧ s.length ≤ k + 2)) : dec s = none := by
  cases hd : dec s with
  | none => rfl
  | some y =>
    exfalso
    rcases enc_at ((dec_iff _ _).1 hd) hk with ⟨_, _, e⟩ | ⟨_, e1, e2⟩
    · exact e hw
    · exact hb ⟨e1, e2⟩
theorem RD.done {s : List UInt8} {k : Nat} {pre : List UInt8} {V m : Nat} (h : RD s k pre V m) (hk : s.length ≤ k) : dec s = if enc pre = s then some pre else none := by
  by_cases hq : enc pre = s
  · rw [if_pos hq, ← hq, dec_enc]
  · rw [if_neg hq]
    cases hd : dec s with
    | none => rfl
    | some y =>
      exfalso
      have hy := (dec_iff _ _).1 hd
      have h1 := h y hy
      have hl := congrArg List.length (enc_T y)
      rw [List.length_append, ← hy] at hl
      rw [List.drop_of_length_le (by omega)] at h1
      simp [decL] at h1
      rw [h1] at hq
      exact hq hy.symm
set_option maxRecDepth 100000 in
set_option maxHeartbeats 8000000 in
theorem refdec_any (s : ByteArray) (w : World) (hs : s.size ≤ 1000000) :
    Calls Tryd.prog 21 #[.string s] w fun e w' => e = .returned (.tuple #[.string (decStr s.data.toList), .int .i64 (decCode s.data.toList)]) ∧ Below w.heap.size w w' := by
  have hsz := bsize s
  have hsi : (s.size : Int) ≤ 1000000 := by omega
  obtain ⟨SS, hSS⟩ : ∃ x, x = decStr s.data.toList := ⟨_, rfl⟩
  obtain ⟨CC, hCC⟩ : ∃ x, x = decCode s.data.toList := ⟨_, rfl⟩
  rw [← hSS, ← hCC]
  have HS := Lib.hid (And.intro hSS hCC)
  clear hSS hCC
  go_enter Tryd.func21, Tryd.ntmps21
  go_wp2
  go_loopw [4, 5, 6, 7] (fun o v n i wr => ∃ (k : Nat) (pre : List UInt8) (V m : Nat), k ≤ s.size ∧ pre.length ≤ k ∧ i = .int .i64 k ∧ v = .int .i64 V ∧ n = .int .i64 m ∧ (m = 0 ∨ m = 2 ∨ m = 4 ∨ m = 6) ∧ V < 2 ^ m ∧
    RD s.data.toList k pre V m ∧ BS wr w.heap.size o pre ∧ Below w.heap.size w wr) (fun _ _ _ i _ => s.size - (intOf i).toNat)
  case atStart => exact ⟨0, [], 0, 0, Nat.zero_le _, Nat.zero_le _, rfl, rfl, rfl, .inl rfl, by decide, RD.start _, BS.nil _ _, Below.refl _ _⟩
  case round =>
    obtain ⟨k, pre, V, m, hk, hpl, rfl, rfl, rfl, hm, hV, hd, hown, hbl⟩ := hrel
    have hk0 : (0 : Int) ≤ (k : Int) := by omega
    by_cases hkb : k < s.size
    · have hki : (k : Int) < s.size := by omega
      have hkl : k < s.data.toList.length := by omega
      obtain ⟨c, hc⟩ : ∃ c, c = s.data.toList[k]'hkl := ⟨_, rfl⟩
      have hbt : ∀ h, (s[k]'h) = c := fun h => by rw [hc]; simp; rfl
      have hcl : (c.toNat : Int) < 256 := by have := c.toNat_lt; omega
      have HO := Lib.hid (And.intro hown hbl)
      have HD := Lib.hid hd
      have HC := Lib.hid hc
      have HM := Lib.hid (And.intro hm hV)
      have hwsz : w.heap.size ≤ wr.heap.size := hbl.size
      have hol : pre.length + 1 ≤ 70368744177664 := by omega
      clear hd hc hown hbl hm hV
      go_wp2
      obtain ⟨wo, rfl⟩ : ∃ wo : World, wo = wr := ⟨_, rfl⟩
      go_loopw [8, 9] (fun u q wr => ∃ (j d : Nat), j ≤ 64 ∧ q = .int .i64 j ∧ u = .int .i64 (wk c j) ∧ wr = wo.drewN d) (fun _ q _ => 64 - (intOf q).toNat)
      case atStart => exact ⟨0, 0, Nat.zero_le _, rfl, by rw [wk_zero], rfl⟩
      case round =>
        obtain ⟨j, d, hj, rfl, rfl, hwr⟩ := hrel
        have hj0 : (0 : Int) ≤ (j : Int) := by omega
        by_cases hj6 : j < 64
        · have hji : (j : Int) < 64 := by omega
          have c1 := fun n => letter_any j hj6 (wr.drewN n)
          have HWR := Lib.hid hwr
          clear hwr
          by_cases hq : L64 j = c
          · have hw := wk_hit hj6
            rw [hq] at hw c1
            have e1 : ((c.toNat : Int) == (c.toNat : Int)) = true := by rw [beq_self_eq_true]
            have HW := Lib.hid hw
            clear hw hq
            go_wp2
            go_quiet ((go_at_call 32; with_reducible exact quietly (c1 _)))
            clear c1
            go_wp2
            go_roundw
            case rel => exact ⟨j + 1, d + nq, by omega, by go_num, by rw [HW.out], by rw [HWR.out]; first | rfl | rw [World.drewN_drewN]⟩
            case measure => simp [intOf]; omega
          · have hw := wk_miss hq
            have e1 : (((L64 j).toNat : Int) == (c.toNat : Int)) = false := by
              rw [beq_eq_false_iff_ne]; intro e
              exact hq (UInt8.toNat_inj.1 (by omega))
            generalize L64 j = lj at *
            have hlj : (lj.toNat : Int) < 256 := by have := lj.toNat_lt; omega
            have HW := Lib.hid hw
            clear hw hq
            go_wp2
            go_quiet ((go_at_call 32; with_reducible exact quietly (c1 _)))
            clear c1
            go_wp2
            go_roundw
            case rel => exact ⟨j + 1, d + nq, by omega, by go_num, by rw [HW.out], by rw [HWR.out]; first | rfl | rw [World.drewN_drewN]⟩
            case measure => simp [intOf]; omega
        · obtain rfl : j = 64 := by omega
          subst hwr
          by_cases hwc0 : worth c = 0
          · rw [wk_no hwc0]
            by_cases h61 : c = 61 ∧ s.size ≤ k + 2
            · obtain ⟨rfl, h2⟩ := h61
              have h2i : (s.size : Int) - 2 ≤ (k : Int) := by omega
              have hw0 : worth (s.data.toList[k]'hkl) = 0 := by rw [← HC.out]; exact hwc0
              have HR := Lib.hid (HD.out.fill hkl hw0)
              clear hwc0 h2 hw0
              go_wp2
              go_roundw
              case rel => exact ⟨k + 1, pre, V, m, by omega, by omega, by go_num, rfl, rfl, HM.out.1, HM.out.2, HR.out, HO.out.1.drewN d, Below.drewN' HO.out.2 d⟩
              case measure => simp [intOf]; omega
            · have hn := RD.bad hkl (by rw [← HC.out]; exact hwc0) (by rw [← HC.out, hsz]; exact h61)
              have hds := decStr_none hn
              have HE := Lib.hid (And.intro (HS.out.1.trans hds.1) (HS.out.2.trans hds.2.1))
              clear hn hds
              by_cases h6 : c = 61
              · subst h6
                have h62 : ¬ s.size ≤ k + 2 := fun h => h61 ⟨rfl, h⟩
                have h2i : ¬ (s.size : Int) - 2 ≤ (k : Int) := by omega
                clear hwc0 h61 h62
                go_wp2
                go_ret2
                exact ⟨ret_si HE.out.1.symm HE.out.2.symm, Below.drewN' HO.out.2 d⟩
              · obtain ⟨t1, -⟩ := u8F (n := 61) h6 rfl
                clear hwc0 h61 h6
                go_wp2
                go_ret2
                exact ⟨ret_si HE.out.1.symm HE.out.2.symm, Below.drewN' HO.out.2 d⟩
          · rw [wk_all hwc0]
            have hww := worth_le c
            have hwcs : worth (s.data.toList[k]'hkl) ≠ 0 := by rw [← HC.out]; exact hwc0
            have hmV := HM.out
            obtain ⟨hm, hV⟩ := hmV
            have hVb : V < 64 := by rcases hm with rfl | rfl | rfl | rfl <;> omega
            obtain ⟨wc, hwc⟩ : ∃ wc, wc = worth c - 1 := ⟨_, rfl⟩
            have hwc2 : worth (s.data.toList[k]'hkl) - 1 = wc := by rw [hwc, ← HC.out]
            rw [← hwc]
            have hwcb : wc < 64 := by omega
            have hwi : (wc : Int) < 64 := by omega
            have hwi0 : (0 : Int) ≤ (wc : Int) := by omega
            have hVi : (V : Int) < 64 := by omega
            have hVi0 : (0 : Int) ≤ (V : Int) := by omega
            obtain ⟨X, hX⟩ : ∃ X, X = V * 64 + wc := ⟨_, rfl⟩
            have hXi : (V : Int) * 64 + (wc : Int) = (X : Int) := by omega
            have hXb : X < 4096 := by omega
            have hXb2 : (X : Int) < 4096 := by omega
            have hXb0 : (0 : Int) ≤ (X : Int) := by omega
            clear hwc0 hwc hww
            rcases hm with rfl | rfl | rfl | rfl
            · have hr := HD.out.few hkl hwcs (by decide)
              rw [hwc2, ← hX] at hr
              have hX6 : X < 64 := by omega
              have HR := Lib.hid (And.intro hr hX6)
              clear hr hX6 hX hV hVb hwcb hXb hwcs hwc2
              go_wp2
              go_roundw
              case rel => exact ⟨k + 1, pre, X, 6, by omega, by omega, by go_num, rfl, rfl, by omega, HR.out.2, HR.out.1, HO.out.1.drewN d, Below.drewN' HO.out.2 d⟩
              case measure => simp [intOf]; omega
            · have hr := HD.out.more hkl hwcs (by decide)
              rw [hwc2, ← hX] at hr
              simp only [show (2 : Nat) ^ (2 - 2) = 1 from rfl, show 2 - 2 = 0 from rfl] at hr
              have hX6 : X < 256 := by omega
              have hof : ((UInt8.ofNat (X / 1)).toNat : Int) = (X : Int) := by rw [UInt8.toNat_ofNat']; omega
              obtain ⟨u, hu⟩ : ∃ u, u = UInt8.ofNat (X / 1) := ⟨_, rfl⟩
              rw [← hu] at hof hr
              have hXt : (X : Int) < 256 := by omega
              have hYd : X % 1 < 1 := by omega
              have hYi : (X : Int) % 1 = ((X % 1 : Nat) : Int) := by omega
              obtain ⟨Y, hY⟩ : ∃ Y, Y = X % 1 := ⟨_, rfl⟩
              rw [← hY] at hr hYd hYi
              have HR := Lib.hid (And.intro hr hYd)
              have HOF := Lib.hid hof
              have HYI := Lib.hid hYi
              clear hr hX6 hX hV hVb hwcb hXb hwcs hwc2 hYd hY hu hof hYi
              go_wp2_with (at_builtin; refine wp_app1 rfl (.tmp 48) (.tmp 55) rfl w.heap.size _ pre rfl u _ HOF.out.symm (HO.out.1.drewN d) rfl hol hwsz ?_)
              intro v' w6 hown6 hch
              have H6 := Lib.hid (And.intro hown6 ((Below.drewN' HO.out.2 d).trans hch.below))
              clear hown6 hch
              go_wp2
              go_roundw
              case rel => exact ⟨k + 1, pre ++ [u], Y, 0, by omega, by simp; omega, by go_num, by first | (congr 1; have := HYI.out; omega) | congr 1, rfl, by omega, HR.out.2, HR.out.1, H6.out.1, H6.out.2⟩
              case measure => simp [intOf]; omega
            · have hr := HD.out.more hkl hwcs (by decide)
              rw [hwc2, ← hX] at hr
              simp only [show (2 : Nat) ^ (4 - 2) = 4 from rfl, show 4 - 2 = 2 from rfl] at hr
              have hX6 : X < 1024 := by omega
              have hof : ((UInt8.ofNat (X / 4)).toNat : Int) = (X : Int) / 4 := by rw [UInt8.toNat_ofNat']; omega
              obtain ⟨u, hu⟩ : ∃ u, u = UInt8.ofNat (X / 4) := ⟨_, rfl⟩
              rw [← hu] at hof hr
              have hXt : (X : Int) < 1024 := by omega
              have hYd : X % 4 < 4 := by omega
              have hYi : (X : Int) % 4 = ((X % 4 : Nat) : Int) := by omega
              obtain ⟨Y, hY⟩ : ∃ Y, Y = X % 4 := ⟨_, rfl⟩
              rw [← hY] at hr hYd hYi
              have HR := Lib.hid (And.intro hr hYd)
              have HOF := Lib.hid hof
              have HYI := Lib.hid hYi
              clear hr hX6 hX hV hVb hwcb hXb hwcs hwc2 hYd hY hu hof hYi
              go_wp2_with (at_builtin; refine wp_app1 rfl (.tmp 48) (.tmp 55) rfl w.heap.size _ pre rfl u _ HOF.out.symm (HO.out.1.drewN d) rfl hol hwsz ?_)
              intro v' w6 hown6 hch
              have H6 := Lib.hid (And.intro hown6 ((Below.drewN' HO.out.2 d).trans hch.below))
              clear hown6 hch
              go_wp2
              go_roundw
              case rel => exact ⟨k + 1, pre ++ [u], Y, 2, by omega, by simp; omega, by go_num, by first | (congr 1; have := HYI.out; omega) | congr 1, rfl, by omega, HR.out.2, HR.out.1, H6.out.1, H6.out.2⟩
              case measure => simp [intOf]; omega
            · have hr := HD.out.more hkl hwcs (by decide)
              rw [hwc2, ← hX] at hr
              simp only [show (2 : Nat) ^ (6 - 2) = 16 from rfl, show 6 - 2 = 4 from rfl] at hr
              have hX6 : X < 4096 := by omega
              have hof : ((UInt8.ofNat (X / 16)).toNat : Int) = (X : Int) / 16 := by rw [UInt8.toNat_ofNat']; omega
              obtain ⟨u, hu⟩ : ∃ u, u = UInt8.ofNat (X / 16) := ⟨_, rfl⟩
              rw [← hu] at hof hr
              have hXt : (X : Int) < 4096 := by omega
              have hYd : X % 16 < 16 := by omega
              have hYi : (X : Int) % 16 = ((X % 16 : Nat) : Int) := by omega
              obtain ⟨Y, hY⟩ : ∃ Y, Y = X % 16 := ⟨_, rfl⟩
              rw [← hY] at hr hYd hYi
              have HR := Lib.hid (And.intro hr hYd)
              have HOF := Lib.hid hof
              have HYI := Lib.hid hYi
              clear hr hX6 hX hV hVb hwcb hXb hwcs hwc2 hYd hY hu hof hYi
              go_wp2_with (at_builtin; refine wp_app1 rfl (.tmp 48) (.tmp 55) rfl w.heap.size _ pre rfl u _ HOF.out.symm (HO.out.1.drewN d) rfl hol hwsz ?_)
              intro v' w6 hown6 hch
              have H6 := Lib.hid (And.intro hown6 ((Below.drewN' HO.out.2 d).trans hch.below))
              clear hown6 hch
              go_wp2
              go_roundw
              case rel => exact ⟨k + 1, pre ++ [u], Y, 4, by omega, by simp; omega, by go_num, by first | (congr 1; have := HYI.out; omega) | congr 1, rfl, by omega, HR.out.2, HR.out.1, H6.out.1, H6.out.2⟩
              case measure => simp [intOf]; omega
    · have hde := hd.done (by omega)
      have hcv := hown.conv
      have hpz : (⟨pre.toArray⟩ : ByteArray).size ≤ 1000000 := by rw [lsize]; omega
      have c3 := refenc_any ⟨pre.toArray⟩ wr hpz
      have e2 : (⟨pre.toArray⟩ : ByteArray).data.toList = pre := rfl
      rw [e2] at c3
      have hki : ¬ (k : Int) < s.size := by omega
      obtain ⟨ao, cap, rfl⟩ := hown.shape
      have HO := Lib.hid (And.intro hown hbl)
      clear hd hown hbl hV hm hpz e2 hkb
      by_cases hq : enc pre = s.data.toList
      · rw [if_pos hq] at hde
        have hes : (⟨(enc pre).toArray⟩ : ByteArray) = s := by rw [hq]
        rw [hes] at c3
        have hds := decStr_some hde
        have HE := Lib.hid (And.intro (HS.out.1.trans hds.1) (HS.out.2.trans hds.2.1))
        clear hde hq hes hds
        go_wp2_with fail
        refine c3.mono ?_
        rintro e w2 ⟨rfl, hb2⟩
        have hcv2 := (HO.out.1.below hb2).conv
        have H3 := Lib.hid (HO.out.2.trans (hb2.mono HO.out.2.size))
        clear hb2 c3
        go_wp2
        go_ret2
        exact ⟨ret_si HE.out.1.symm HE.out.2.symm, H3.out⟩
      · rw [if_neg hq] at hde
        have hes : ((⟨(enc pre).toArray⟩ : ByteArray).toList == s.toList) = false := by
          rw [Lib.toList_data, Lib.toList_data]; exact beq_false_of_ne hq
        have hds := decStr_none hde
        have HE := Lib.hid (And.intro (HS.out.1.trans hds.1) (HS.out.2.trans hds.2.1))
        generalize (⟨(enc pre).toArray⟩ : ByteArray) = T at *
        clear hde hq hds
        go_wp2_with fail
        refine c3.mono ?_
        rintro e w2 ⟨rfl, hb2⟩
        have H3 := Lib.hid (HO.out.2.trans (hb2.mono HO.out.2.size))
        clear hb2 c3
        go_wp2
        go_ret2
        exact ⟨ret_si HE.out.1.symm HE.out.2.symm, H3.out⟩
end Go.Proofs.YteklocejgbippaaDoor
