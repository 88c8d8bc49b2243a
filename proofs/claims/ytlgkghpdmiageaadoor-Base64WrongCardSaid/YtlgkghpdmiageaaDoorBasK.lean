/- Package base64's law folder: Base64Wrong. -/
import Derived.Test.YtlgkghpdmiageaaDoorBasJ
import Derived.BigRegion
import Derived.Deep.Cut
import Derived.Deep.RegionWith
set_option linter.unusedVariables false
set_option linter.unusedSimpArgs false
namespace Go.Proofs.YtlgkghpdmiageaaDoor
open Go.RowKit
theorem dec_len4 {s : List UInt8} (h : s.length % 4 ≠ 0) : dec s = none := by
  cases hd : dec s with
  | none => rfl
  | some o =>
    exfalso
    have h2 := congrArg List.length ((dec_iff _ _).1 hd)
    rw [enc_len] at h2
    omega
theorem dec_nolet {s : List UInt8} {c : UInt8} (hc : c ∈ s) (h : ¬ isLet c) : dec s = none := by
  cases hd : dec s with
  | none => rfl
  | some o =>
    exfalso
    rw [(dec_iff _ _).1 hd] at hc
    exact h (enc_lets _ _ hc)
theorem nolet {c : UInt8} (h : ¬ (65 ≤ c.toNat ∧ c.toNat ≤ 90 ∨ 97 ≤ c.toNat ∧ c.toNat ≤ 122 ∨ 48 ≤ c.toNat ∧ c.toNat ≤ 57 ∨ c.toNat = 43 ∨ c.toNat = 47 ∨ c.toNat = 61)) : ¬ isLet c := by
  rintro (e | e)
  · apply e
    unfold worth
    repeat' split
    all_goals omega
  · subst e; exact h (.inr (.inr (.inr (.inr (.inr rfl)))))
set_option maxRecDepth 100000 in
set_option maxHeartbeats 4000000 in
theorem wrong_all (s : ByteArray) (at_ c : Int) (w : World) (hm : MaxAt w) (ws : s.size ≤ maxLen) (wa : (Lit.int .i64 at_).wf = true) (wc : (Lit.int .u8 c).wf = true) :
    Calls Tryd.prog 8 #[.string s, .int .i64 at_, .int .u8 c] w fun e w' => e = .returned (.bool true) ∧ Below w.heap.size w w' := by
  have ha : -9223372036854775808 ≤ at_ ∧ at_ ≤ 9223372036854775807 := by simpa [Lit.wf, IntKind.min, IntKind.max, IntKind.signed, IntKind.bits] using wa
  have hc : 0 ≤ c ∧ c ≤ 255 := by simpa [Lit.wf, IntKind.min, IntKind.max, IntKind.signed, IntKind.bits] using wc
  obtain ⟨cc, rfl⟩ : ∃ cc : UInt8, c = cc.toNat := ⟨UInt8.ofNat c.toNat, by rw [UInt8.toNat_ofNat']; omega⟩
  unfold maxLen at ws
  have c1 := awake_any w hm
  clear hm wa wc hc
  by_cases h1 : 1 ≤ s.size ∧ s.size ≤ 2000 ∧ 0 ≤ at_
  · obtain ⟨hs1, hs2, h0⟩ := h1
    have hsz := bsize s
    obtain ⟨n, hn⟩ : ∃ n : Nat, n = (s.size + 2) / 3 * 4 := ⟨_, rfl⟩
    obtain ⟨L, hL⟩ : ∃ L : ByteArray, L = ⟨(enc s.data.toList).toArray⟩ := ⟨_, rfl⟩
    have hLl : L.data.toList = enc s.data.toList := by rw [hL]
    have hLz : L.size = n := by
      have hq := congrArg List.length hLl
      rw [enc_len, bsize, hsz] at hq; omega
    have c2 := fun W => encode_any s W (by omega)
    rw [← hL] at c2
    obtain ⟨k, hk⟩ : ∃ k : Nat, (k : Int) = at_ % (n : Int) := ⟨(at_ % (n : Int)).toNat, by have := Int.emod_nonneg at_ (show (n : Int) ≠ 0 by omega); omega⟩
    have hkn : k < n := by have := Int.emod_lt_of_pos at_ (show (0 : Int) < (n : Int) by omega); omega
    have hmod : at_ % (L.size : Int) = (k : Int) := by rw [hLz, hk]
    have hmod2 : at_.tmod (L.size : Int) = (k : Int) := by rw [Int.tmod_eq_emod_of_nonneg h0]; exact hmod
    have hLr := bsize L
    obtain ⟨A, hA⟩ : ∃ A : ByteArray, L.extract 0 k = A := ⟨_, rfl⟩
    obtain ⟨B, hB⟩ : ∃ B : ByteArray, L.extract (k + 1) L.size = B := ⟨_, rfl⟩
    obtain ⟨D, hD⟩ : ∃ D : ByteArray, L.extract 0 1 = D := ⟨_, rfl⟩
    have hAz : A.size = k := by rw [← hA, ByteArray.size_extract]; omega
    have hBz : B.size = n - k - 1 := by rw [← hB, ByteArray.size_extract]; omega
    have hDz : D.size = 1 := by rw [← hD, ByteArray.size_extract]; omega
    have c3 := fun W => decode_any (A ++ B) W (by rw [ByteArray.size_append]; omega)
    have hd3 := decStr_none (dec_len4 (s := (A ++ B).data.toList) (by rw [bsize, ByteArray.size_append]; omega))
    rw [hd3.1, hd3.2.1] at c3
    have c4 := fun W => decode_any (L ++ D) W (by rw [ByteArray.size_append]; omega)
    have hd4 := decStr_none (dec_len4 (s := (L ++ D).data.toList) (by rw [bsize, ByteArray.size_append]; omega))
    rw [hd4.1, hd4.2.1] at c4
    obtain ⟨Cb, hCb⟩ : ∃ Cb : ByteArray, Cb = ⟨#[cc]⟩ := ⟨_, rfl⟩
    have hCz : Cb.size = 1 := by rw [hCb]; rfl
    have c5 := fun W => decode_any (A ++ Cb ++ B) W (by rw [ByteArray.size_append, ByteArray.size_append]; omega)
    have hmem : cc ∈ (A ++ Cb ++ B).data.toList := by rw [hCb]; simp
    have hLi : (L.size : Int) ≤ 4000 := by omega
    have hL1 : (4 : Int) ≤ (L.size : Int) := by omega
    have hki : (k : Int) < (L.size : Int) := by omega
    have hk0 : (0 : Int) ≤ (k : Int) := by omega
    have hki2 : (k : Int) + 1 ≤ (L.size : Int) := by omega
    have hsi1 : (1 : Int) ≤ (s.size : Int) := by omega
    have hsi2 : (s.size : Int) ≤ 2000 := by omega
    have hAi : (A.size : Int) ≤ 4000 := by omega
    have hBi : (B.size : Int) ≤ 4000 := by omega
    have hDi : (D.size : Int) ≤ 4000 := by omega
    have hCi : (Cb.size : Int) = 1 := by omega
    have hns : ((s.size : Int) == 0) = false := by rw [beq_eq_false_iff_ne]; omega
    clear hn hk hkn hLl hLz hL hd3 hd4 hAz hBz hDz hCz
    go_enter Tryd.func8, Tryd.ntmps8
    go_wp2_with fail
    refine c1.mono ?_
    rintro e w1 ⟨rfl, hb1⟩
    have H1 := Lib.hid hb1
    clear c1 hb1
    go_wp2_with fail
    refine (c2 w1).mono ?_
    rintro e w2 ⟨rfl, hb2⟩
    have H2 := Lib.hid (H1.out.trans (hb2.mono H1.out.size))
    clear c2 hb2
    go_wp2
    have hkN : k ≤ L.size := by omega
    have hk1N : k + 1 ≤ L.size := by omega
    have hwr : IntKind.i64.wrap ((k : Int) + 1) = (k : Int) + 1 := IntWalk.i64_in _ (by omega)
    have hk2I : (0 : Int) ≤ (k : Int) + 1 := by omega
    go_region_with (go_at_call 10; refine (c3 _).mono ?_; rintro e w3 ⟨rfl, hb3⟩)
    have H3 := Lib.hid (H2.out.trans ((below_undrew hb3).mono H2.out.size))
    clear c3 hb3
    go_wp2_with fail
    refine (c4 w3).mono ?_
    rintro e w4 ⟨rfl, hb4⟩
    have H4 := Lib.hid (H3.out.trans (hb4.mono H3.out.size))
    clear c4 hb4 hD hDi
    by_cases hlet : 65 ≤ cc.toNat ∧ cc.toNat ≤ 90 ∨ 97 ≤ cc.toNat ∧ cc.toNat ≤ 122 ∨ 48 ≤ cc.toNat ∧ cc.toNat ≤ 57 ∨ cc.toNat = 43 ∨ cc.toNat = 47 ∨ cc.toNat = 61
    · clear c5 hmem
      rcases (show ((65 : Int) ≤ cc.toNat ∧ (cc.toNat : Int) ≤ 90) ∨ ((97 : Int) ≤ cc.toNat ∧ (cc.toNat : Int) ≤ 122) ∨ ((48 : Int) ≤ cc.toNat ∧ (cc.toNat : Int) ≤ 57) ∨ (cc.toNat : Int) = 43 ∨ (cc.toNat : Int) = 47 ∨ (cc.toNat : Int) = 61 by omega) with ⟨z1, z2⟩ | ⟨z1, z2⟩ | ⟨z1, z2⟩ | z1 | z1 | z1
      all_goals
        clear hlet
        go_wp2
        go_ret
        exact ⟨rfl, H4.out⟩
    · have hd5 := decStr_none (dec_nolet hmem (nolet hlet))
      rw [hd5.1, hd5.2.1] at c5
      have e1 : ((cc.toNat : Int) == 43) = false := by rw [beq_eq_false_iff_ne]; omega
      have e2 : ((cc.toNat : Int) == 47) = false := by rw [beq_eq_false_iff_ne]; omega
      have e3 : ((cc.toNat : Int) == 61) = false := by rw [beq_eq_false_iff_ne]; omega
      have hcv : ∀ W : World, (convert 36 9 (.slice (some ⟨W.heap.size, 0, none⟩) 1 1)).run Tryd.prog (W.alloc (.cells #[.int .u8 cc.toNat] 5 (0, 0))).drew = .ok (.string Cb) (W.alloc (.cells #[.int .u8 cc.toNat] 5 (0, 0))).drew := by
        intro W
        rw [hCb]
        exact conv_new (w := (W.alloc _).drew) (l := [cc]) (R := []) (heap_alloc_new W _) rfl
      have HCV := Lib.hid hcv
      have HC5 := Lib.hid c5
      have HBA := Lib.hid (And.intro hA hB)
      clear hCb hcv c5 hmem hd5
      go_upto_region 11 with (fail)
      go_cut [94] from 61 to 94 (fun v wx => v = .bool false ∧ wx = w4)
      case first =>
        rcases (show (cc.toNat : Int) < 43 ∨ ((43 : Int) < cc.toNat ∧ (cc.toNat : Int) < 48) ∨ ((57 : Int) < cc.toNat ∧ (cc.toNat : Int) < 65) ∨ ((90 : Int) < cc.toNat ∧ (cc.toNat : Int) < 97) ∨ (122 : Int) < cc.toNat by omega) with z1 | ⟨z1, z2⟩ | ⟨z1, z2⟩ | ⟨z1, z2⟩ | z1
        all_goals
          clear hlet
          go_wp2_with fail
          go_meet
          refine ⟨?_, rfl⟩
          first | rfl | (congr 1; simp; omega)
      case rest =>
        obtain ⟨rfl, rfl⟩ := hcut
        have hcv := HCV.out
        have c5 := HC5.out
        obtain ⟨hA, hB⟩ := HBA.out
        clear hlet e1 e2 e3
        go_wp2
        go_region_with (go_at_call 10; refine (c5 _).mono ?_; rintro e w5 ⟨rfl, hb5⟩)
        have H5 := Lib.hid (((H4.out.alloc H4.out.size (.cells #[.int .u8 cc.toNat] 5 (0, 0))).drew).trans (hb5.mono (by have := H4.out.size; simp; omega)))
        clear hb5 c5
        go_wp2
        go_ret
        exact ⟨rfl, H5.out⟩
  · rcases (show (2000 : Int) < s.size ∨ ((s.size : Int) ≤ 2000 ∧ (s.size : Int) = 0) ∨ ((s.size : Int) ≤ 2000 ∧ (1 : Int) ≤ s.size ∧ at_ < 0) by omega) with h | ⟨h, h'⟩ | ⟨h, h', h''⟩
    · clear h1
      go_enter Tryd.func8, Tryd.ntmps8
      go_wp2_with fail
      refine c1.mono ?_
      rintro e w1 ⟨rfl, hb1⟩
      go_wp2
      go_ret
      exact ⟨rfl, hb1⟩
    · clear h1
      have hz : ((s.size : Int) == 0) = true := by rw [beq_iff_eq]; exact h'
      go_enter Tryd.func8, Tryd.ntmps8
      go_wp2_with fail
      refine c1.mono ?_
      rintro e w1 ⟨rfl, hb1⟩
      go_wp2
      go_ret
      exact ⟨rfl, hb1⟩
    · clear h1
      have hz : ((s.size : Int) == 0) = false := by rw [beq_eq_false_iff_ne]; omega
      go_enter Tryd.func8, Tryd.ntmps8
      go_wp2_with fail
      refine c1.mono ?_
      rintro e w1 ⟨rfl, hb1⟩
      go_wp2
      go_ret
      exact ⟨rfl, hb1⟩
end Go.Proofs.YtlgkghpdmiageaaDoor
