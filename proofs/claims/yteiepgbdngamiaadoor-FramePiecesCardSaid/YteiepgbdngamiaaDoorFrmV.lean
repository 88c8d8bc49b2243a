/- Package frame's law folder: FramePieces. -/
import Derived.Test.YteiepgbdngamiaaDoorFrmU
set_option linter.unusedVariables false
set_option linter.unusedSimpArgs false
namespace Go.Proofs.YteiepgbdngamiaaDoor
open Go.RowKit
theorem LL_len (s : List UInt8) : (LL s).length ≤ s.length := by unfold LL; rw [List.length_map]; exact init_few s
set_option maxRecDepth 100000 in
set_option maxHeartbeats 20000000 in
theorem pieces_all (A : Option Addr) (n c : Nat) (xs : List ByteArray) (w : World) (hm : MaxAt w) (h : StrsIn w A n xs) (hz : ∀ k, k < n → (str xs k).size ≤ reachBytes) :
    Calls Tryd.prog 4 #[.slice A n c] w fun e w' => e = .returned (.bool true) ∧ Below w.heap.size w w' := by
  have HM := Lib.hid hm
  have c1 := awake_any w hm
  have hmax := h.max
  have HS := Lib.hid h
  clear hm
  go_enter Tryd.func4, Tryd.ntmps4
  go_wp2_with fail
  refine c1.mono ?_
  rintro e w1 ⟨rfl, hb1⟩
  have c2 := few_any A n c xs w1 (h.below hb1) hz
  clear c1 h hz
  go_wp2_with fail
  refine c2.mono ?_
  rintro e _ ⟨⟨b, rfl, hb⟩, rfl⟩
  have c3 := new_any w1
  clear c2
  cases b with
  | false =>
    clear hb c3
    go_wp2
    go_ret
    exact ⟨rfl, hb1⟩
  | true =>
    obtain ⟨hn, ht⟩ := hb rfl
    clear hb
    go_wp2_with fail
    refine c3.mono ?_
    rintro e w2 ⟨rfl, hf2, hb2⟩
    have c4 := new_any w2
    have H2 := Lib.hid (And.intro hf2 hb2)
    clear c3 hf2 hb2
    go_wp2_with fail
    refine c4.mono ?_
    rintro e w3 ⟨rfl, hf3, hb3⟩
    have c5 := new_any w3
    have H3 := Lib.hid (And.intro hf3 hb3)
    clear c4 hf3 hb3
    go_wp2_with fail
    refine c5.mono ?_
    rintro e w4 ⟨rfl, hf4, hb4⟩
    have HI0 := Lib.hid (PcI.new hb1 H2.out.1 H2.out.2 H3.out.1 H3.out.2 hf4 hb4)
    have HT := Lib.hid ht
    generalize w1.heap.size = F at *
    generalize w2.heap.size = G at *
    generalize w3.heap.size = K at *
    clear hf4 hb4 H2 H3 hb1 c5 ht
    go_wp2
    go_loopw [6, 7, 8, 9] (fun al va vb i wr => ∃ (j : Nat) (v1 v2 : Value) (s : ByteArray), j ≤ n ∧ al = .string s ∧ i = .int .i64 j ∧ s.size ≤ tot xs j ∧
      PcI w wr F G K v1 v2 (restL s.data.toList) (restL s.data.toList) s.size s.size va vb (LL s.data.toList) (LL s.data.toList)) (fun _ _ _ i _ => n - (intOf i).toNat)
    case atStart => exact ⟨0, _, _, ⟨#[]⟩, Nat.zero_le _, rfl, rfl, Nat.le_refl _, HI0.out⟩
    case round =>
      clear HI0
      obtain ⟨j, v1, v2, s, hj, rfl, rfl, hsl, hI⟩ := hrel
      have hj0 : (0 : Int) ≤ (j : Int) := by omega
      have hsz := bsize s
      by_cases hlt : j < n
      · have hj2 : (j : Int) < (n : Int) := by omega
        have htj := tot_mono xs (show j + 1 ≤ n by omega)
        have ht6 := HT.out
        obtain ⟨b, off, rfl, hcs⟩ := HS.out.cells (by omega)
        have q0 := hcs j hlt
        have hts := tot_succ xs j
        have HTS := Lib.hid hts
        have hxl : (str xs j).size ≤ 6000 := by omega
        have htl : tot xs j ≤ 6000 := by omega
        clear hcs hts htj ht6
        generalize str xs j = x at *
        generalize tot xs j = tj at *
        have hxz := bsize x
        have q : wr.cell? ⟨b, off + j, none⟩ = some (.string x) := (hI.fg.bel.cell (p := ⟨b, off + j, none⟩) (World.block_lt_of_cell? _ _ q0)).trans q0
        have hrl := rest_len s.data.toList
        have c6 := feed_any F F v1 (restL s.data.toList) s.size x wr hI.fg.f (IR.rest _) (Nat.le_of_lt (lt_of_block hI.fg.f.mem)) (by omega) (by omega) (by omega) (by omega)
        have hcat : (s.size : Int) + x.size ≤ 12000 := by omega
        have HI := Lib.hid hI
        clear hI
        go_wp2_with fail
        refine c6.mono ?_
        rintro e w5 ⟨vo, v1', rfl, hlv, hf5, he5, ho5⟩
        have hI5 := HI.out.fed he5 hf5 ho5
        have hsa := split_app s.data.toList x.data.toList
        have hLL := LL_app s.data.toList x.data.toList
        have hl1 := LL_len s.data.toList
        have hl2 := LL_len (restL s.data.toList ++ x.data.toList)
        rw [List.length_append] at hl2
        have hz5 := hI5.fg.bel.size
        clear HI he5 hf5 ho5 c6
        go_wp2_with (at_builtin; refine wp_appLV rfl (.tmp 33) (.tmp 39) rfl w.heap.size _ (LL s.data.toList) rfl hI5.a wr.heap.size _ (LL (restL s.data.toList ++ x.data.toList)) rfl hlv (by omega) hz5 ?_)
        intro va' w6 hl6 he6 ho6
        have hI6 := hI5.grown hl6 he6 ho6
        rw [← hLL, ← hsa.2] at hI6
        have q6 : w6.cell? ⟨b, off + j, none⟩ = some (.string x) := (hI6.fg.bel.cell (p := ⟨b, off + j, none⟩) (World.block_lt_of_cell? _ _ q0)).trans q0
        rw [hxz] at hI6
        have HI6 := Lib.hid hI6
        obtain ⟨T, hT⟩ : ∃ T : ByteArray, T = s ++ x := ⟨_, rfl⟩
        have hTd : T.data.toList = s.data.toList ++ x.data.toList := by rw [hT]; simp
        rw [← hTd] at HI6
        have HTd := Lib.hid hTd
        have HQ0 := Lib.hid q0
        clear hI5 hlv hl6 he6 ho6 hI6 hsa hLL hl1 hl2 q q6
        go_wp2
        go_loopw [8, 10] (fun vb i wr => ∃ (k : Nat) (v2 : Value), k ≤ x.size ∧ i = .int .i64 k ∧
          PcI w wr F G K v1' v2 (restL T.data.toList) (restL (s.data.toList ++ x.data.toList.take k)) ((s.size : Int) + x.size) ((s.size + k : Nat) : Int) va' vb (LL T.data.toList) (LL (s.data.toList ++ x.data.toList.take k))) (fun _ i _ => x.size - (intOf i).toNat)
        case atStart => exact ⟨0, v2, Nat.zero_le _, rfl, by rw [List.take_zero, List.append_nil]; exact HI6.out⟩
        case round =>
          clear HI6
          obtain ⟨k, v2, hk, rfl, hI⟩ := hrel
          have hk0 : (0 : Int) ≤ (k : Int) := by omega
          have q := (hI.fg.bel.cell (p := ⟨b, off + j, none⟩) (World.block_lt_of_cell? _ _ q0)).trans q0
          by_cases hlt2 : k < x.size
          · have hkl : k < x.data.toList.length := by omega
            have hk1 : (k : Int) < x.size := by omega
            have hk2 : (k : Int) + 1 ≤ x.size := by omega
            have hpl : (x.extract k (k + 1)).data.toList = [x.data.toList[k]] := by
              rw [ext_list, List.drop_eq_getElem_cons hkl, Nat.add_sub_cancel_left]
              rfl
            have hpz : (x.extract k (k + 1)).size = 1 := by rw [ByteArray.size_extract]; omega
            obtain ⟨p, hp⟩ : ∃ p, x.extract k (k + 1) = p := ⟨_, rfl⟩
            rw [hp] at hpl hpz
            have htk : s.data.toList ++ x.data.toList.take (k + 1) = (s.data.toList ++ x.data.toList.take k) ++ p.data.toList := by rw [hpl, List.take_succ_eq_append_getElem hkl, List.append_assoc]
            generalize hU : s.data.toList ++ x.data.toList.take k = U at *
            have hUl : U.length ≤ 12000 := by rw [← hU]; simp; omega
            have hrU := rest_len U
            have c7 := feed_any G G v2 (restL U) ((s.size + k : Nat) : Int) p wr hI.fg.g (IR.rest _) (Nat.le_of_lt (lt_of_block hI.fg.g.mem)) (by omega) (by omega) (by omega) (by omega)
            have HI := Lib.hid hI
            have HTK := Lib.hid htk
            have hpc : p.data.toList.length = 1 := by rw [hpl]; rfl
            clear hI htk hU hpl
            go_wp2_with fail
            refine c7.mono ?_
            rintro e w7 ⟨vo2, v2', rfl, hlv, hf7, he7, ho7⟩
            have hI7 := (HI.out.swap.fed he7 hf7 ho7)
            have hsa := split_app U p.data.toList
            have hLL := LL_app U p.data.toList
            have hl1 := LL_len U
            have hl2 := LL_len (restL U ++ p.data.toList)
            rw [List.length_append, hpc] at hl2
            have hz7 := hI7.fg.bel.size
            clear HI he7 hf7 ho7 c7
            go_wp2_with (at_builtin; refine wp_appLV rfl (.tmp 50) (.tmp 60) rfl w.heap.size _ (LL U) rfl hI7.a wr.heap.size _ (LL (restL U ++ p.data.toList)) rfl hlv (by omega) hz7 ?_)
            intro vb' w8 hl8 he8 ho8
            have hI8 := (hI7.grown hl8 he8 ho8).swap
            rw [← hLL, ← hsa.2, ← HTK.out, hpc] at hI8
            have HI8 := Lib.hid hI8
            clear hI8 hI7 hl8 he8 ho8 hlv hsa hLL hl1 hl2
            go_wp2
            go_roundw
            case rel => exact ⟨k + 1, v2', by omega, by go_num, HI8.out⟩
            case measure => simp [intOf]; omega
          · obtain rfl : k = x.size := by omega
            rw [List.take_of_length_le (by omega), ← HTd.out] at hI
            have hIN := Lib.hid hI
            have hTz : T.size = s.size + x.size := by rw [hT, ByteArray.size_append]
            have HTZ := Lib.hid hTz
            have HTT := Lib.hid hT
            clear hI hTz hT
            go_wp2
            go_roundw
            case rel =>
              refine ⟨j + 1, v1', v2, T, by omega, by rw [HTT.out], by go_num, by rw [HTS.out, HTZ.out]; omega, ?_⟩
              rw [HTZ.out]
              exact hIN.out
            case measure => simp [intOf]; omega
      · obtain rfl : j = n := by omega
        have ht6 := HT.out
        have c6 := feed_any K K (.slice none 0 0) [] 0 s wr hI.h rfl (Nat.le_of_lt (lt_of_block hI.h.mem)) (by omega) (by omega) (by simp) (by omega)
        have HI := Lib.hid hI
        obtain ⟨aoa, capa, rfl, ha1, ha2⟩ := hI.a.shape
        obtain ⟨aob, capb, rfl, hb1, hb2⟩ := hI.b.shape
        have hl1 := LL_len s.data.toList
        have hrl := rest_len s.data.toList
        have hss := bsize s
        have hLL0 : (LL s.data.toList).length = (initL s.data.toList).length := by unfold LL; rw [List.length_map]
        have hr6 : (restL s.data.toList).length ≤ 6000 := by omega
        have hl6 : (LL s.data.toList).length ≤ 6000 := by omega
        clear hI ht6 hl1 hrl hss
        go_wp2_with fail
        refine c6.mono ?_
        rintro e w5 ⟨vo, v3', rfl, hlv, hf5, he5, ho5⟩
        rw [List.nil_append] at hlv hf5
        have hF := HI.out.fg.f.keepF HI.out.h HI.out.ne.1 (fun k a => (nil_own k a).elim) he5
        have hG := HI.out.fg.g.keepF HI.out.h HI.out.ne.2 (fun k a => (nil_own k a).elim) he5
        have hA := HI.out.a.keepF HI.out.h he5
        have hB := HI.out.b.keepF HI.out.h he5
        have hbel : Below w.heap.size w w5 := HI.out.fg.bel.trans (FS.below he5 HI.out.fg.bel.size HI.out.low fun k hk => (nil_own k hk).elim)
        change LV w5 wr.heap.size vo (LL s.data.toList) at hlv
        obtain ⟨aoc, capc, rfl, hc1, hc2⟩ := hlv.shape
        have cF := waiting_any F F v1 (restL s.data.toList) s.size w5 hF (by omega)
        have cG := waiting_any G G v2 (restL s.data.toList) s.size w5 hG (by omega)
        have cK := waiting_any K K v3' (restL s.data.toList) _ w5 hf5 (by omega)
        have HX : Hid (LV w5 _ _ _ ∧ LV w5 _ _ _ ∧ LV w5 _ _ _ ∧ Below w.heap.size w w5) := Lib.hid ⟨hA, hB, hlv, hbel⟩
        clear hF hG hA hB hbel hlv hf5 he5 ho5 c6
        obtain ⟨N, hN⟩ : ∃ N, N = (LL s.data.toList).length := ⟨_, rfl⟩
        rw [← hN] at ha1 hb1 hc1 hl6 ⊢
        have HN := Lib.hid hN
        have hNi : (N : Int) ≤ 6000 := by omega
        clear hN hLL0
        go_wp2_with fail
        refine cF.mono ?_
        rintro e _ ⟨rfl, rfl⟩
        go_wp2_with fail
        refine cG.mono ?_
        rintro e _ ⟨rfl, rfl⟩
        go_wp2_with fail
        refine cF.mono ?_
        rintro e _ ⟨rfl, rfl⟩
        go_wp2_with fail
        refine cK.mono ?_
        rintro e _ ⟨rfl, rfl⟩
        clear cF cG cK
        go_wp2
        go_loopw [12] (fun i wr => ∃ (k d : Nat), k ≤ N ∧ i = .int .i64 k ∧ wr = w5.drewN d) (fun i _ => N - (intOf i).toNat)
        case atStart => exact ⟨0, 0, Nat.zero_le _, rfl, rfl⟩
        case round =>
          obtain ⟨k, d, hk, rfl, rfl⟩ := hrel
          have hk0 : (0 : Int) ≤ k := by omega
          by_cases hlt2 : k < N
          · have hkl : k < (LL s.data.toList).length := by rw [← HN.out]; exact hlt2
            have hk1 : (k : Int) < N := by omega
            obtain ⟨ga, rfl, qa, qa'⟩ := HX.out.1.cell hkl
            obtain ⟨gb, rfl, qb, qb'⟩ := HX.out.2.1.cell hkl
            obtain ⟨gc, rfl, qc, qc'⟩ := HX.out.2.2.1.cell hkl
            obtain ⟨xl, hxl⟩ : ∃ xl, (LL s.data.toList)[k] = mkLn xl := ⟨(initL s.data.toList)[k]'(by rw [LL, List.length_map] at hkl; exact hkl), by simp [LL]⟩
            rw [hxl] at qa qa' qb qb' qc qc'
            have hml := mkLn_cases xl
            clear hkl hxl
            rcases hml with ⟨hl, he⟩ | ⟨hl, he⟩
            · rw [he] at qa qa' qb qb' qc qc'
              clear he hl
              go_wp2
              go_quiet (fail)
              go_wp2
              go_roundw
              case rel => exact ⟨k + 1, d + nq, by omega, by go_num, by first | rfl | rw [World.drewN_drewN]⟩
              case measure => simp [intOf]; omega
            · rw [he] at qa qa' qb qb' qc qc'
              obtain ⟨X, hX⟩ : ∃ X : ByteArray, X = ⟨xl.toArray⟩ := ⟨_, rfl⟩
              have hXz : X.size = xl.length := by rw [hX, lsize]
              rw [← hX] at qa qb qc
              have hXi : (X.size : Int) ≤ 998 := by omega
              have hXd : decide ((998 : Int) < (X.size : Int)) = false := decide_eq_false (by omega)
              clear he hl hX hXz
              go_wp2
              go_quiet (fail)
              go_wp2
              go_roundw
              case rel => exact ⟨k + 1, d + nq, by omega, by go_num, by first | rfl | rw [World.drewN_drewN]⟩
              case measure => simp [intOf]; omega
          · obtain rfl : k = N := by omega
            go_wp2
            go_ret
            exact ⟨rfl, Below.drewN' HX.out.2.2.2 _⟩
end Go.Proofs.YteiepgbdngamiaaDoor
