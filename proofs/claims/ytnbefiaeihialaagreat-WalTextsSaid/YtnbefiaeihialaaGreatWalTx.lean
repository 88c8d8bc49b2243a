/- Package wal's law folder: WalTexts. -/
import Derived.Test.YtnbefiaeihialaaGreatRcC
import Derived.Test.YtnbefiaeihialaaGreatWalPb
set_option linter.unusedVariables false
set_option linter.unusedSimpArgs false
namespace Go.Proofs.YtnbefiaeihialaaGreat
open Go.RowKit
theorem parsed_len {s : Bs} : (parseL s).length ≤ s.length := by
  unfold parseL
  cases h : paT s with
  | none => exact Nat.zero_le _
  | some l => exact (paT_ok h).2
def LensOk (xs : List Ch) (j : Nat) : Prop := ∀ k, k < j → (ch xs k).key.size ≤ 70000 ∧ (ch xs k).val.size ≤ 70000
set_option maxRecDepth 100000 in
set_option maxHeartbeats 16000000 in
theorem texts_law (A : Option Addr) (n c : Nat) (xs : List Ch) (s : ByteArray) (w : World) (h : ChsIn w A n xs) (hn : n ≤ 60) (hs : s.size ≤ 3000) :
    Calls Tryz.prog 3 #[.slice A n c, .string s] w fun e w' => e = .returned (.bool true) ∧ Below w.heap.size w w' := by
  have c1 := wawake_any w
  have hn0 : (0 : Int) ≤ (n : Int) := by omega
  have hn60 : ¬ 60 < (n : Int) := by omega
  have hs0 : (0 : Int) ≤ (s.size : Int) := by omega
  have hs3 : ¬ 3000 < (s.size : Int) := by omega
  have hl := h.len
  have H := Lib.hid (And.intro h hl)
  clear h hl
  go_enter Tryz.func3, Tryz.ntmps3
  go_wp2_with fail
  refine c1.mono ?_
  rintro e w1 ⟨rfl, hb1⟩
  have HB1 := Lib.hid hb1
  clear c1 hb1
  go_wp2
  go_loopw [5] (fun i wr => ∃ j : Nat, j ≤ n ∧ i = .int .i64 j ∧ w1 = wr ∧ Hid (LensOk xs j)) (fun i _ => n - mzInt i)
  case atStart => exact ⟨0, Nat.zero_le _, rfl, rfl, Lib.hid (fun k hk => absurd hk (by omega))⟩
  case round =>
    obtain ⟨j, hj, rfl, rfl, hlo⟩ := hrel
    have hj0 : (0 : Int) ≤ (j : Int) := by omega
    by_cases hlt : j < n
    · have hji : (j : Int) < (n : Int) := by omega
      obtain ⟨b, off, rfl, hc⟩ := (H.out.1.below HB1.out).cells (by omega)
      obtain ⟨e1, e2, _⟩ := hc j hlt
      have hnx : (ch xs j).key.size ≤ 70000 ∧ (ch xs j).val.size ≤ 70000 → LensOk xs (j + 1) := fun hh k hk => by
        by_cases e : k = j
        · subst e; exact hh
        · exact hlo.out k (by omega)
      obtain ⟨cc, hcc⟩ : ∃ cc, cc = ch xs j := ⟨_, rfl⟩
      rw [← hcc] at e1 e2 hnx
      obtain ⟨K, V, gn⟩ := cc
      dsimp only at e1 e2 hnx
      have HNX := Lib.hid hnx
      clear hcc hnx hc
      by_cases hk : (70000 : Int) < (K.size : Int)
      · go_wp2
        go_ret
        exact ⟨rfl, HB1.out⟩
      · by_cases hk2 : (70000 : Int) < (V.size : Int)
        · go_wp2
          go_ret
          exact ⟨rfl, HB1.out⟩
        · have HN := Lib.hid (HNX.out ⟨by omega, by omega⟩)
          go_wp2
          go_roundw
          case rel => exact ⟨j + 1, by omega, by go_num, by first | rfl | trivial, HN⟩
          case measure => simp [mzInt]; omega
    · obtain rfl : j = n := by omega
      have hjE : ¬ (j : Int) < (j : Int) := by omega
      have c2 := print_any A j c xs w1 (H.out.1.below HB1.out) (by omega)
      obtain ⟨PS, hPS⟩ : ∃ x, x = printS xs := ⟨_, rfl⟩
      obtain ⟨PC, hPC⟩ : ∃ x, x = printC xs := ⟨_, rfl⟩
      rw [← hPS, ← hPC] at c2
      have HP := Lib.hid (And.intro hPS hPC)
      clear hPS hPC
      go_wp2_with fail
      refine c2.mono ?_
      rintro e w2 ⟨rfl, hb2⟩
      have HB2 := Lib.hid (HB1.out.trans (hb2.mono HB1.out.size))
      have c3 := of_any A j c xs w2 (H.out.1.below HB2.out) (by omega)
      clear c2 hb2
      go_wp2_with fail
      refine c3.mono ?_
      rintro e w3 ⟨v3, rfl, hv3, hb3⟩
      obtain ⟨a3, q3, rfl⟩ := hv3.shape
      have hx3 := hv3.in_
      have hl3 : xs.length = j := H.out.2
      rw [hl3] at hx3 ⊢
      have HB3 := Lib.hid (HB2.out.trans (hb3.mono HB2.out.size))
      have c4 := rprint_any a3 j q3 xs w3 hx3 (by omega)
      rw [← HP.out.1, ← HP.out.2] at c4
      clear c3 hv3 hb3 hx3 hl3
      go_wp2_with fail
      refine c4.mono ?_
      rintro e w4 ⟨rfl, hb4⟩
      have HB4 := Lib.hid (HB3.out.trans (hb4.mono HB3.out.size))
      have c5 := parse_any s w4 (by omega)
      have c6 := fun W => rparse_any s W (by omega)
      obtain ⟨PL, hPL⟩ : ∃ x, x = parseL s.data.toList := ⟨_, rfl⟩
      obtain ⟨QC, hQC⟩ : ∃ x, x = parseC s.data.toList := ⟨_, rfl⟩
      rw [← hPL, ← hQC] at c5
      simp only [← hPL, ← hQC] at c6
      have hPLl : PL.length ≤ 3000 := by rw [hPL]; have := parsed_len (s := s.data.toList); rw [bsize] at this; omega
      clear c4 hb4 hPL hQC
      go_wp2_with fail
      refine c5.mono ?_
      rintro e w5 ⟨v5, hv5, rfl, hb5⟩
      obtain ⟨a5, q5, rfl⟩ := hv5.shape
      have HB5 := Lib.hid (HB4.out.trans (hb5.mono HB4.out.size))
      have HV5 := Lib.hid hv5.in_
      have c6' := c6 w5
      clear c5 hv5 hb5 c6
      go_wp2_with fail
      refine c6'.mono ?_
      rintro e w6 ⟨v6, hv6, rfl, hb6⟩
      obtain ⟨a6, q6, rfl⟩ := hv6.shape
      have HB6 := Lib.hid (HB5.out.trans (hb6.mono HB5.out.size))
      have HV6 := Lib.hid (And.intro hv6.in_ (HV5.out.below hb6))
      obtain ⟨M, hM⟩ : ∃ M, M = PL.length := ⟨_, rfl⟩
      rw [← hM] at HV6 ⊢
      have hM0 : (0 : Int) ≤ (M : Int) := by omega
      have hM3 : M ≤ 3000 := by omega
      clear c6' hv6 hb6 hM hPLl HV5
      go_wp2
      go_loopw [14] (fun i wr => ∃ (x d : Nat), x ≤ M ∧ i = .int .i64 x ∧ wr = w6.drewN d) (fun i _ => M - mzInt i)
      case atStart => exact ⟨0, 0, Nat.zero_le _, rfl, rfl⟩
      case round =>
        obtain ⟨x, d, hx, rfl, rfl⟩ := hrel
        have hx0 : (0 : Int) ≤ (x : Int) := by omega
        by_cases hxl : x < M
        · have hxi : (x : Int) < (M : Int) := by omega
          obtain ⟨b5, o5, rfl, hc5⟩ := HV6.out.2.cells (by omega)
          obtain ⟨b6, o6, rfl, hc6⟩ := HV6.out.1.cells (by omega)
          obtain ⟨y1, y2, y3⟩ := hc5 x hxl
          obtain ⟨z1, z2, z3⟩ := hc6 x hxl
          generalize ch PL x = cc at *
          obtain ⟨K, V, gn⟩ := cc
          dsimp only at y1 y2 y3 z1 z2 z3
          clear hc5 hc6
          go_upto_region 19 with fail
          go_quiet (fail)
          go_wp2
          go_roundw
          case rel => exact ⟨x + 1, _, by omega, by go_num, rfl⟩
          case measure => simp [mzInt]; omega
        · obtain rfl : x = M := by omega
          have hxE : ¬ (x : Int) < (x : Int) := by omega
          by_cases hok : ChsOk xs
          · have e1 : PC = 0 := HP.out.2.trans (if_pos hok)
            have e2 : PS = ⟨(prT xs).toArray⟩ := HP.out.1.trans (if_pos hok)
            have hpl := prT_len_le hok
            have hszP : PS.size ≤ 10000000 := by rw [e2, lsize]; rw [H.out.2] at hpl; omega
            have c7 := parse_big PS (w6.drewN d) (by omega)
            have e3 : PS.data.toList = prT xs := by rw [e2]
            have e4 : parseL (prT xs) = xs.map Ch.norm := by unfold parseL; rw [parse_print hok]; rfl
            have e5 : parseC (prT xs) = 0 := by unfold parseC; rw [parse_print hok]
            rw [e3, e4, e5] at c7
            subst e1
            clear e2 e3 e4 e5 hpl
            go_wp2_with fail
            refine c7.mono ?_
            rintro e w7 ⟨v7, hv7, rfl, hb7⟩
            obtain ⟨a7, q7, rfl⟩ := hv7.shape
            have hl7 : (xs.map Ch.norm).length = j := by rw [List.length_map, H.out.2]
            have hx7 := hv7.in_
            rw [hl7] at hx7 ⊢
            have hb7' : Below w.heap.size w w7 := (Below.drewN' HB6.out d).trans (hb7.mono (Below.drewN' HB6.out d).size)
            have HV7 := Lib.hid (And.intro hx7 (And.intro hb7' (H.out.1.below hb7')))
            clear c7 hv7 hb7 hl7 hx7 hb7'
            go_wp2
            go_loopw [17] (fun i wr => ∃ (y d2 : Nat), y ≤ j ∧ i = .int .i64 y ∧ wr = w7.drewN d2) (fun i _ => j - mzInt i)
            case atStart => exact ⟨0, 0, Nat.zero_le _, rfl, rfl⟩
            case round =>
              obtain ⟨y, d2, hy, rfl, rfl⟩ := hrel
              have hy0 : (0 : Int) ≤ (y : Int) := by omega
              by_cases hyl : y < j
              · have hyi : (y : Int) < (j : Int) := by omega
                obtain ⟨b7, o7, rfl, hc7⟩ := HV7.out.1.cells (by omega)
                obtain ⟨b8, o8, rfl, hc8⟩ := HV7.out.2.2.cells (by omega)
                obtain ⟨y1, y2, y3⟩ := hc7 y hyl
                obtain ⟨z1, z2, z3⟩ := hc8 y hyl
                have hcn : ch (xs.map Ch.norm) y = (ch xs y).norm := by
                  rw [ch_get (by rw [List.length_map, H.out.2]; exact hyl), ch_get (by rw [H.out.2]; exact hyl), List.getElem_map]
                rw [hcn] at y1 y2 y3
                generalize ch xs y = cc at *
                obtain ⟨K, V, gn⟩ := cc
                clear hc7 hc8 hcn
                cases gn with
                | true =>
                  have f1 : (Ch.norm ⟨K, V, true⟩).key = K := rfl
                  have f2 : (Ch.norm ⟨K, V, true⟩).val = ⟨#[]⟩ := rfl
                  have f3 : (Ch.norm ⟨K, V, true⟩).gone = true := rfl
                  rw [f1] at y1
                  rw [f2] at y2
                  rw [f3] at y3
                  dsimp only at z1 z2 z3
                  clear f1 f2 f3
                  go_upto_region 29 with fail
                  go_quiet (fail)
                  go_wp2
                  go_roundw
                  case rel => exact ⟨y + 1, _, by omega, by go_num, rfl⟩
                  case measure => simp [mzInt]; omega
                | false =>
                  have f1 : (Ch.norm ⟨K, V, false⟩) = ⟨K, V, false⟩ := rfl
                  rw [f1] at y1 y2 y3
                  dsimp only at y1 y2 y3 z1 z2 z3
                  clear f1
                  go_upto_region 29 with fail
                  go_quiet (fail)
                  go_wp2
                  go_roundw
                  case rel => exact ⟨y + 1, _, by omega, by go_num, rfl⟩
                  case measure => simp [mzInt]; omega
              · obtain rfl : y = j := by omega
                have hyE : ¬ (y : Int) < (y : Int) := by omega
                have HF := Lib.hid (Below.drewN' HV7.out.2.1 d2)
                go_wp2
                go_ret
                exact ⟨rfl, HF.out⟩
          · have e1 : PC = 3 := HP.out.2.trans (if_neg hok)
            subst e1
            have HF := Lib.hid (Below.drewN' HB6.out d)
            go_wp2
            go_ret
            exact ⟨rfl, HF.out⟩
end Go.Proofs.YtnbefiaeihialaaGreat
