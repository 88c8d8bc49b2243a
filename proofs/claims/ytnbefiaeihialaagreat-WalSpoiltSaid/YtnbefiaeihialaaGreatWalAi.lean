/- Package wal's law folder: WalSpoilt. -/
import Derived.Test.YtnbefiaeihialaaGreatWalAh
import Derived.Test.YtnbefiaeihialaaGreatWalAf
import Derived.Test.YtnbefiaeihialaaGreatStrs
import Derived.Deep.DeepCutAuto
set_option linter.unusedVariables false
set_option linter.unusedSimpArgs false
namespace Go.Proofs.YtnbefiaeihialaaGreat
open Go.RowKit
theorem Still.any {k : Dk} {m : Nat} (h : Still k m) (i : Int) (s : Bs) : Still (writeK k i s) (m + 1) ∧ (writeK k i s).n = k.n ∧ ∀ j : Nat, j < k.n → (j : Int) ≠ i → sec (writeK k i s) j = sec k j := by
  by_cases hin : (0 ≤ i ∧ i < k.n) ∧ s.length ≤ 64
  · obtain ⟨hi, hs⟩ := hin
    obtain ⟨a, rfl⟩ := Int.eq_ofNat_of_zero_le hi.1
    obtain ⟨_, h2, h3, h4⟩ := h.write (i := a) (s := s) (by omega) hs
    exact ⟨h2, h3, fun j hj hne => by rw [h4 j hj, if_neg (fun e => hne (by rw [e]))]⟩
  · have e : writeK k i s = k := by unfold writeK; rw [if_neg (fun hh => hin hh.2)]
    rw [e]
    exact ⟨h.mono (Nat.le_succ _), rfl, fun _ _ _ => rfl⟩
theorem rows_one {W : World} {b m cb : Nat} {B : Option Addr} {L : List Ch} (hc : W.heap[b]? = some (.cells #[.slice B m cb] 22 (0, 0))) (hin : ChsIn W B m L) : RowsIn W (some ⟨b, 0, none⟩) 1 [L] := by
  refine ⟨rfl, by decide, fun _ => ⟨b, 0, rfl, fun j hj => ?_⟩⟩
  obtain rfl : j = 0 := by omega
  have hl := hin.len
  subst hl
  exact ⟨B, cb, by rw [cell_of_row _ _ _ _ _ _ hc]; rfl, hin⟩
theorem tot_one (L : List Ch) : tot [L] = 1 + rsum L := by unfold tot; simp
/-- What Open answers, in short. -/
theorem open_short (g D c : Nat) (k : Dk) (from_ half : Nat) (w : World) (h : DkAt w g D c [] k) (hdn : k.down = false) (h2 : 2 ≤ half) (h3 : from_ + 2 * half ≤ k.n) :
    Calls Tryz.prog 16 #[.pointer (some ⟨g, 0, none⟩), .int .i64 from_, .int .i64 (2 * half : Nat)] w fun e w' => ∃ (P : Option Addr) (F : Int), e = .returned (.tuple #[.pointer P, .int .i64 F]) ∧ Hid ((P = none ∧ F = 7) ∨ (∃ s, P = some ⟨s, 0, none⟩ ∧ F = 0)) ∧ Below w.heap.size w w' := by
  refine (open_any g D c [] k from_ half w h hdn h2 h3).mono ?_
  rintro e w' ⟨hb, hm⟩
  cases ho : openF shaF k from_ half with
  | none => rw [ho] at hm; exact ⟨none, 7, hm, Lib.hid (.inl ⟨rfl, rfl⟩), hb⟩
  | some st =>
    rw [ho] at hm
    obtain ⟨s, mb, d, tab, rfl, _⟩ := hm
    exact ⟨some ⟨s, 0, none⟩, 0, rfl, Lib.hid (.inr ⟨s, rfl, rfl⟩), hb⟩
set_option maxRecDepth 100000 in
set_option maxHeartbeats 16000000 in
theorem spoilt_law (A B : Option Addr) (n cA m cB : Nat) (xs : List ByteArray) (L : List Ch) (at_ : Int) (text : ByteArray) (w : World) (hA : StrsIn w A n xs) (hL : ChsIn w B m L) (hn : n ≤ 8) (ht : tot [L] ≤ 120) (htx : text.size ≤ 64) (hsz : ∀ j, j < n → (str xs j).size ≤ 9223372036854775807) :
    Calls Tryz.prog 5 #[.slice A n cA, .slice B m cB, .int .i64 at_, .string text] w fun e w' => e = .returned (.bool true) ∧ Below w.heap.size w w' := by
  have c1 := wawake_any w
  have hn0 : (0 : Int) ≤ (n : Int) := by omega
  have hn8 : ¬ 8 < (n : Int) := by omega
  have hx0 : (0 : Int) ≤ (text.size : Int) := by omega
  have hx64 : ¬ 64 < (text.size : Int) := by omega
  have hml := hL.len
  have hm500 : m ≤ 120 := by have h5 := len_rsum L; rw [tot_one] at ht; omega
  have H := Lib.hid (And.intro hA (And.intro hL hsz))
  clear hA hL hsz hml
  go_enter Tryz.func5, Tryz.ntmps5
  go_wp2_with fail
  refine c1.mono ?_
  rintro e w1 ⟨rfl, hb1⟩
  have hal := hb1.alloc hb1.size (.cells #[.slice B m cB] 22 (0, 0))
  have c2 := few_any (some ⟨w1.heap.size, 0, none⟩) 1 1 [L] (w1.alloc (.cells #[.slice B m cB] 22 (0, 0))) (rows_one (heap_alloc_new w1 _) (H.out.2.1.below hal))
  rw [decide_eq_true ht] at c2
  have HA := Lib.hid hal
  clear c1 hb1 hal
  go_wp2_with fail
  refine c2.mono ?_
  rintro e w2 ⟨rfl, dd, rfl⟩
  have HB1 := Lib.hid (Below.drewN' HA.out dd)
  clear c2
  generalize (w1.alloc (.cells #[.slice B m cB] 22 (0, 0))).drewN dd = w3 at *
  go_wp2_with fail
  refine (new_in 40 w3 (by decide) (by decide)).mono ?_
  rintro e w4 ⟨rfl, hb4, hk4⟩
  obtain ⟨g, hg⟩ : ∃ g, g = w3.heap.size + 1 := ⟨_, rfl⟩
  obtain ⟨D, hD⟩ : ∃ D, D = w3.heap.size := ⟨_, rfl⟩
  rw [← hg] at hk4 ⊢
  rw [← hD] at hk4
  have hz3 := HB1.out.size
  have hgw : w.heap.size ≤ g := by omega
  have hDw : w.heap.size ≤ D := by omega
  have HK := Lib.hid (And.intro hk4 (HB1.out.trans (hb4.mono hz3)))
  clear hk4 hb4 hg hD
  go_wp2
  go_loopw [11] (fun i wr => ∃ j : Nat, j ≤ n ∧ i = .int .i64 j ∧ Hid (∃ k, DkAt wr g D (40 * 64) [] k ∧ Still k j ∧ k.n = 40 ∧ Cnt k j ∧ Below w.heap.size w wr)) (fun i _ => n - mzInt i)
  case atStart => exact ⟨0, Nat.zero_le _, rfl, Lib.hid ⟨newK 40, HK.out.1, newK_still 40 (by decide) (by decide), rfl, ⟨Int.le_refl 0, Int.le_refl 0, Int.le_refl 0, Int.le_refl 0⟩, HK.out.2⟩⟩
  case round =>
    obtain ⟨j, hj, rfl, hrl⟩ := hrel
    obtain ⟨k, hk, hst, hkn, hcn, hbl⟩ := hrl.out
    have hj0 : (0 : Int) ≤ (j : Int) := by omega
    by_cases hlt : j < n
    · have hji : (j : Int) < (n : Int) := by omega
      obtain ⟨b, off, rfl, hc⟩ := (H.out.1.below hbl).cells (by omega)
      have q := hc j hlt
      have hq := H.out.2.2 j hlt
      generalize str xs j = x at *
      have cw := write_any g D (40 * 64) [] k j x wr hk hq hcn.a (by have := hcn.b; omega) hcn.c (by have := hcn.d; omega)
      have h5 := hst.any (j : Int) x.data.toList
      have h6 := hcn.write (j : Int) x.data.toList
      generalize writeK k (j : Int) x.data.toList = k2 at *
      generalize writeC k (j : Int) x.data.toList = c2 at *
      have HN := Lib.hid (And.intro h5.1 (And.intro (h5.2.1.trans hkn) (And.intro h6 hbl)))
      clear h5 h6 hst hkn hcn hbl hk hc hrl hq
      go_wp2_with fail
      refine cw.mono ?_
      rintro e w5 ⟨rfl, he, hk5⟩
      have HF := Lib.hid (And.intro hk5 (Eff.two HN.out.2.2.2 he hgw hDw))
      clear cw he hk5
      go_wp2
      go_roundw
      case rel => exact ⟨j + 1, by omega, by go_num, Lib.hid ⟨k2, HF.out.1, HN.out.1, HN.out.2.1, HN.out.2.2.1, HF.out.2⟩⟩
      case measure => simp [mzInt]; omega
    · obtain rfl : j = n := by omega
      have hjE : ¬ (j : Int) < (j : Int) := by omega
      have co := open_short g D (40 * 64) k 0 4 wr hk hst.down (by decide) (by rw [hkn]; decide)
      rw [show ((2 * 4 : Nat) : Int) = 8 from rfl] at co
      have HN := Lib.hid (And.intro hk (And.intro hst (And.intro hkn (And.intro hcn hbl))))
      clear hk hst hkn hcn hbl hrl
      go_wp2_with fail
      refine co.mono ?_
      rintro e w6 ⟨P, F, rfl, hPF, hb6⟩
      have hk6 := HN.out.1.below hb6
      have hb6' := HN.out.2.2.2.2.trans (hb6.mono HN.out.2.2.2.2.size)
      have HO := Lib.hid (And.intro hk6 hb6')
      clear co hb6 hk6 hb6'
      go_upto_region 13 with fail
      go_cut [85] (fun b wx => b = Value.bool false ∧ Hid (w6 = wx))
      case first =>
        rcases hPF.out with ⟨rfl, rfl⟩ | ⟨s0, rfl, rfl⟩
        all_goals
          go_wp2
          go_meet
          exact ⟨rfl, Lib.hid rfl⟩
      case rest =>
        obtain ⟨rfl, hw6⟩ := hcut
        obtain rfl := hw6.out
        have hzk := make_good shaF_len HN.out.2.1 (from_ := 8) (half := 16) (by decide) (by rw [HN.out.2.2.1]; decide)
        have cm := make_any g D (40 * 64) [] k 8 16 j w6 HO.out.1 HN.out.2.2.2.1 (by omega) (by decide) (by rw [HN.out.2.2.1]; decide) hzk.1
        rw [show ((2 * 16 : Nat) : Int) = 32 from rfl] at cm
        have hk2n : (wrL k (makeW shaF 8 16)).1.n = 40 := hzk.2.2.1.trans HN.out.2.2.1
        have hgd := hzk.2.1
        generalize (wrL k (makeW shaF 8 16)).1 = k2 at *
        have hfr : (makeS 8 16).from_ = 8 ∧ (makeS 8 16).half = 16 := ⟨rfl, rfl⟩
        generalize makeS 8 16 = st2 at *
        have HG := Lib.hid (And.intro hgd (And.intro hk2n hfr))
        clear hzk hgd hk2n hfr
        go_wp2_with fail
        refine cm.mono ?_
        rintro e w7 ⟨s, mb, rfl, hS, he, hc, hs1, hs2⟩
        have hsz6 := HO.out.2.size
        have HL7 : Hid (LawF w s g D (40 * 64) 8 16 (j + 20000002) 1 k2 st2 w7) := Lib.hid ⟨⟨mb, 1, tabF, _, hS, .inr ⟨rfl, rfl⟩, HG.out.1⟩, hc, HG.out.2.2.1, HG.out.2.2.2, Eff.two HO.out.2 he hgw hDw, ⟨by omega, hgw, hDw⟩⟩
        clear cm hS he hc hs1 hs2
        have cc := HL7.out.commit B m cB L (H.out.2.1.below HL7.out.below) (by omega) (by omega) (by decide)
        obtain ⟨m9, g1, g2, _, g4, g5, g6⟩ := good_step HG.out.1 L (by decide) (by have := H.out.2.1.len; omega)
        have hcd : ((commitF k2 st2 L).1 == 6) = false := by
          rcases g6 with ⟨e, _⟩ | ⟨e, _⟩ | ⟨e, _⟩ <;> rw [e] <;> rfl
        generalize commitF k2 st2 L = R8 at *
        obtain ⟨cd, k8, st8⟩ := R8
        dsimp only at cc hcd g2 g4 g5
        have HR8 := Lib.hid (And.intro (g2.trans HG.out.2.1) (And.intro (g4.trans HG.out.2.2.1) (g5.trans HG.out.2.2.2)))
        clear g1 g2 g4 g5 g6
        go_wp2_with fail
        refine cc.mono ?_
        rintro e w8 ⟨rfl, hL8, _⟩
        have HL8 := Lib.hid hL8
        clear cc hL8
        obtain ⟨BB, hBB⟩ : ∃ BB : Bool, BB = decide (0 ≤ at_ ∧ at_ < 8) := ⟨_, rfl⟩
        have HBB := Lib.hid hBB
        clear hBB
        go_upto_region 18 with fail
        go_cut [108] (fun b wx => b = Value.bool BB ∧ Hid (w8 = wx))
        case first =>
          by_cases ha0 : at_ < 0
          · have e := Lib.hid (HBB.out.trans (decide_eq_false (by omega)))
            go_wp2
            go_meet
            rw [e.out]
            exact ⟨rfl, Lib.hid rfl⟩
          · have ha1 : 0 ≤ at_ := by omega
            by_cases ha8 : at_ < 8
            · have e := Lib.hid (HBB.out.trans (decide_eq_true ⟨ha1, ha8⟩))
              go_wp2
              go_meet
              rw [e.out]
              exact ⟨rfl, Lib.hid rfl⟩
            · have e := Lib.hid (HBB.out.trans (decide_eq_false (by omega)))
              have ha9 : 8 ≤ at_ := by omega
              go_wp2
              go_meet
              rw [e.out]
              exact ⟨rfl, Lib.hid rfl⟩
        case rest =>
        obtain ⟨rfl, hw8⟩ := hcut
        obtain rfl := hw8.out
        go_upto_if 108 with fail
        go_cut [] (fun wx => ∃ (k9 : Dk) (N9 : Nat), N9 ≤ 100000000 ∧ Hid (LawF w s g D (40 * 64) 8 16 N9 2 k9 st8 wx))
        case first =>
          cases BB with
          | false =>
            go_wp2
            go_meet
            exact ⟨k8, _, by omega, HL8⟩
          | true =>
            have ha : 0 ≤ at_ ∧ at_ < 8 := of_decide_eq_true HBB.out.symm
            obtain ⟨mb8, d8, tab8, m8, y1, _, y3⟩ := HL8.out.ex
            have hcn := HL8.out.cnt
            have cw := write_any g D (40 * 64) [] k8 at_ text w8 y1.dk (by omega) hcn.a (by have := hcn.b; omega) hcn.c (by have := hcn.d; omega)
            have h5 := y3.still.any at_ text.data.toList
            have h6 := hcn.write at_ text.data.toList
            generalize writeK k8 at_ text.data.toList = k9 at *
            generalize writeC k8 at_ text.data.toList = c9 at *
            have H5 := Lib.hid (And.intro h5 (And.intro h6 ha))
            clear h5 h6 hcn y1 y3 ha
            go_wp2_with fail
            refine cw.mono ?_
            rintro e w9 ⟨rfl, he, hk9⟩
            have hF := Lib.hid (HL8.out.disk he hk9 H5.out.1.1 H5.out.1.2.1 H5.out.2.1 (fun i hi1 hi2 => H5.out.1.2.2 i (by rw [HR8.out.1]; rw [HR8.out.2.1, HR8.out.2.2] at hi2; omega) (by rw [HR8.out.2.1] at hi1; have := H5.out.2.2; omega)))
            clear cw he hk9
            go_wp2
            go_meet
            exact ⟨k9, _, by omega, hF⟩
        case rest =>
          obtain ⟨k9, N9, hN9, hL9⟩ := hcut
          have ca := hL9.out.again
          rw [show ((2 * 16 : Nat) : Int) = 32 from rfl, show ((8 : Nat) : Int) = 8 from rfl] at ca
          have hwcs := hL9.out.lt
          go_wp2_with fail
          refine ca.mono ?_
          rintro e w10 ⟨t, rfl, hT10, hb10, ht10⟩
          have HS10 := Lib.hid (hL9.out.mono hb10 (Nat.le_refl _))
          have HT10 := Lib.hid hT10
          have ck1 := hT10.keys ⟨#[]⟩
          clear ca hb10 hT10
          go_wp2_with fail
          refine ck1.mono ?_
          rintro e w11 ⟨v11, rfl, hv11, hb11⟩
          have ck2 := (HS10.out.mono hb11 (Nat.le_refl _)).keys ⟨#[]⟩
          obtain ⟨KK, hKK⟩ : ∃ KK, KK = keysM st8.M ⟨#[]⟩ := ⟨_, rfl⟩
          rw [← hKK] at hv11 ck2
          have hKe : KK = st8.M.map (·.1) := by rw [hKK, keys_all]
          have hKl : KK.length = st8.M.length := by rw [hKe, List.length_map]
          have hst := HS10.out.srt
          have hsz8 := HS10.out.lt
          obtain ⟨a11, c11, rfl⟩ := hv11.shape
          have HK := Lib.hid (And.intro hv11 (And.intro hb11 (And.intro hKe (And.intro hKl (And.intro hKK hst)))))
          obtain ⟨M8, hM8⟩ : ∃ M8, M8 = KK.length := ⟨_, rfl⟩
          rw [← hM8]
          have HM8 := Lib.hid hM8
          have hM82 : M8 ≤ 26300 := by omega
          have hM80 : (0 : Int) ≤ (M8 : Int) := by omega
          clear ck1 hv11 hb11 hKK hKe hKl hM8 hst
          go_wp2_with fail
          refine ck2.mono ?_
          rintro e w12 ⟨v12, rfl, hv12, hb12⟩
          obtain ⟨a12, c12, rfl⟩ := hv12.shape
          rw [← HM8.out]
          have ct := rtexts_true a11 a12 M8 c11 c12 _ _ KK w12 (by rw [HM8.out]; exact HK.out.1.below hb12) (by rw [HM8.out]; exact hv12) HM8.out.symm (by omega)
          have HB12 := Lib.hid (HK.out.2.1.trans (hb12.mono HK.out.2.1.size))
          clear ck2 hv12 hb12
          go_wp2_with fail
          refine ct.mono ?_
          rintro e w13 ⟨rfl, d13, rfl⟩
          have HB13 := Lib.hid (Below.drewN' HB12.out d13)
          clear ct
          have ck3 := (HS10.out.mono HB13.out (Nat.le_refl _)).keys ⟨#[]⟩
          rw [← HK.out.2.2.2.2.1] at ck3
          go_wp2_with fail
          refine ck3.mono ?_
          rintro e w14 ⟨v14, rfl, hv14, hb14⟩
          obtain ⟨a14, c14, rfl⟩ := hv14.shape
          rw [← HM8.out]
          have hv14' : SSo w14 (w12.drewN d13).heap.size (.slice a14 M8 c14) KK := by rw [HM8.out]; exact hv14
          have HB14 := Lib.hid (HB13.out.trans (hb14.mono HB13.out.size))
          have HV := Lib.hid hv14'
          clear ck3 hv14 hv14' hb14
          have HF1 := Lib.hid (HS10.out.mono HB14.out (Nat.le_refl _))
          have HF2 := Lib.hid (HT10.out.mono HB14.out (Nat.le_refl _))
          go_wp2
          go_loopw [19] (fun i wr => ∃ x : Nat, x ≤ M8 ∧ i = .int .i64 x ∧ w14 = wr) (fun i _ => M8 - mzInt i)
          case atStart => exact ⟨0, Nat.zero_le _, rfl, rfl⟩
          case round =>
            obtain ⟨x, hx, rfl, rfl⟩ := hrel
            have hx0 : (0 : Int) ≤ (x : Int) := by omega
            by_cases hxl : x < M8
            · have hxi : (x : Int) < (M8 : Int) := by omega
              have hxk : x < KK.length := by rw [← HM8.out]; exact hxl
              have hxm : x < st8.M.length := by rw [← HK.out.2.2.2.1]; exact hxk
              obtain ⟨gk, rfl, hcell⟩ := HV.out.cellAt (j := x) hxk
              have hkx : KK[x] = st8.M[x].1 := by
                have h5 := HK.out.2.2.1
                simp only [h5, List.getElem_map]
              rw [hkx] at hcell
              have hfa := find_at HK.out.2.2.2.2.2.1 hxm
              have hks := HK.out.2.2.2.2.2.2.1 _ (List.getElem_mem hxm)
              have cg1 := HF1.out.get st8.M[x].1 (by have := hks.1; show st8.M[x].1.size ≤ _; omega)
              have cg2 := HF2.out.get st8.M[x].1 (by have := hks.1; show st8.M[x].1.size ≤ _; omega)
              rw [hfa] at cg1 cg2
              generalize st8.M[x].1 = key at *
              generalize st8.M[x].2 = val at *
              clear hfa hks hkx
              go_wp2_with fail
              refine cg1.mono ?_
              rintro e w15 ⟨rfl, rfl⟩
              dsimp only [Option.getD, Option.isSome]
              go_wp2_with fail
              refine cg2.mono ?_
              rintro e w15 ⟨rfl, rfl⟩
              dsimp only [Option.getD, Option.isSome]
              clear cg1 cg2
              go_wp2
              go_roundw
              case rel => exact ⟨x + 1, by omega, by go_num, by first | rfl | trivial⟩
              case measure => simp [mzInt]; omega
            · obtain rfl : x = M8 := by omega
              have hxE : ¬ (x : Int) < (x : Int) := by omega
              have HB := Lib.hid (HS10.out.below.trans (HB14.out.mono HS10.out.below.size))
              go_wp2
              go_ret
              exact ⟨rfl, HB.out⟩
end Go.Proofs.YtnbefiaeihialaaGreat
