/- Package frame's law folder: FrameFeeds. -/
import Derived.Test.YteiepgbdngamiaaDoorFrmN
import Derived.Test.YteiepgbdngamiaaDoorFrmK
set_option linter.unusedVariables false
set_option linter.unusedSimpArgs false
namespace Go.Proofs.YteiepgbdngamiaaDoor
open Go.RowKit
/-- Between the pieces. -/
structure FeI (w wr : World) (F : Nat) (v : Value) (r : List UInt8) (fed m : Nat) : Prop where
  fr : FrAt wr F F v r fed
  low : w.heap.size ≤ F
  bel : Below w.heap.size w wr
  ir : IR r [] r
  len : r.length ≤ m
  fed : fed ≤ m
theorem FeI.reset {w wr w' : World} {F : Nat} {v : Value} {r : List UInt8} {fed m : Nat} (h : FeI w wr F v r fed m) (hf : FrAt w' F F (.slice none 0 0) [] fed) (he : Eff (· = F) wr w') : FeI w w' F (.slice none 0 0) [] fed m :=
  ⟨hf, h.low, h.bel.trans (he.to_below h.bel.size fun k hk => hk ▸ h.low), rfl, Nat.zero_le _, h.fed⟩
theorem FeI.fed' {w wr w' : World} {F : Nat} {v v' : Value} {r : List UInt8} {fed m : Nat} (h : FeI w wr F v r fed m) {s : List UInt8} (hf : FrAt w' F F v' (restL (r ++ s)) ((fed : Int) + s.length)) (he : Eff (FS F v) wr w') : FeI w w' F v' (restL (r ++ s)) (fed + s.length) (m + 1 + s.length) := by
  refine ⟨by rw [Int.natCast_add]; exact hf, h.low, h.bel.trans (FS.below he h.bel.size h.low fun k hk => Nat.le_trans h.low (h.fr.ownB k hk)), IR.rest _, ?_, ?_⟩
  · have := rest_len (r ++ s)
    have := h.len
    simp at *; omega
  · have := h.fed; omega
theorem FeI.below {w wr w' : World} {F : Nat} {v : Value} {r : List UInt8} {fed m : Nat} (h : FeI w wr F v r fed m) (hb : Below wr.heap.size wr w') : FeI w w' F v r fed m :=
  ⟨h.fr.belowW hb, h.low, h.bel.trans (hb.mono h.bel.size), h.ir, h.len, h.fed⟩
theorem FeI.drawn {w wr : World} {F : Nat} {v : Value} {r : List UInt8} {fed m : Nat} (h : FeI w wr F v r fed m) (n : Nat) : FeI w (wr.drewN n) F v r fed m := h.below (Below.drewN' (Below.refl _ _) n)
theorem HI0q {w w' : World} {b i : Nat} {x : ByteArray} (q : w.cell? ⟨b, i, none⟩ = some (.string x)) (hb : Below w.heap.size w w') : w'.cell? ⟨b, i, none⟩ = some (.string x) :=
  (hb.cell (p := ⟨b, i, none⟩) (World.block_lt_of_cell? _ _ q)).trans q
set_option maxRecDepth 100000 in
set_option maxHeartbeats 20000000 in
theorem feeds_all (A : Option Addr) (n c : Nat) (xs : List ByteArray) (reset : Int) (w : World) (hm : MaxAt w) (h : StrsIn w A n xs) (hz : ∀ k, k < n → (str xs k).size ≤ reachBytes) (_ : (Lit.int .i64 reset).wf = true) :
    Calls Tryd.prog 3 #[.slice A n c, .int .i64 reset] w fun e w' => e = .returned (.bool true) ∧ Below w.heap.size w w' := by
  have HM := Lib.hid hm
  have c1 := awake_any w hm
  have hmax := h.max
  have HS := Lib.hid h
  clear hm
  go_enter Tryd.func3, Tryd.ntmps3
  go_wp2_with fail
  refine c1.mono ?_
  rintro e w1 ⟨rfl, hb1⟩
  have c2 := few_any A n c xs w1 (h.below hb1) hz
  clear c1 h hz
  go_wp2_with fail
  refine c2.mono ?_
  rintro e _ ⟨⟨b, rfl, hb⟩, rfl⟩
  have c3 := new_any w1
  clear c2
  cases b with
  | false =>
    clear hb c3
    go_wp2
    go_ret
    exact ⟨rfl, hb1⟩
  | true =>
    obtain ⟨hn, ht⟩ := hb rfl
    clear hb
    go_wp2_with fail
    refine c3.mono ?_
    rintro e w2 ⟨rfl, hf2, hb2⟩
    have HI0 : Hid (FeI w w2 w1.heap.size (.slice none 0 0) [] 0 0) := ⟨hf2, hb1.size, hb1.trans (hb2.mono hb1.size), rfl, Nat.le_refl _, Nat.le_refl _⟩
    generalize w1.heap.size = F at *
    have HT := Lib.hid ht
    clear hf2 hb2 hb1 c3 ht
    go_wp2
    go_loopw [6, 7, 8] (fun rs al i wr => ∃ (j fed : Nat) (v : Value) (r : ByteArray), j ≤ n ∧ rs = .string r ∧ al = .int .i64 fed ∧ i = .int .i64 j ∧ FeI w wr F v r.data.toList fed (tot xs j)) (fun _ _ i _ => n - (intOf i).toNat)
    case atStart => exact ⟨0, 0, _, ⟨#[]⟩, Nat.zero_le _, rfl, rfl, rfl, HI0.out⟩
    case round =>
      clear HI0
      obtain ⟨j, fed, v, r, hj, rfl, rfl, rfl, hI⟩ := hrel
      have hj0 : (0 : Int) ≤ (j : Int) := by omega
      by_cases hlt : j < n
      · have hj2 : (j : Int) < (n : Int) := by omega
        have htj := tot_mono xs (show j + 1 ≤ n by omega)
        have ht6 := HT.out
        obtain ⟨b, off, rfl, hcs⟩ := HS.out.cells (by omega)
        have q0 := hcs j hlt
        have HTS := Lib.hid (tot_succ xs j)
        have hts := tot_succ xs j
        have hxl : (str xs j).size ≤ 6000 := by omega
        have htl : tot xs j ≤ 6000 := by omega
        clear hcs hts htj ht6
        generalize str xs j = x at *
        generalize tot xs j = tj at *
        by_cases hr : (j : Int) = reset
        · have c4 := reset_any F F v r.data.toList fed wr hI.fr
          have HI := Lib.hid hI
          subst hr
          clear hI
          go_wp2_with fail
          refine c4.mono ?_
          rintro e w3 ⟨rfl, hf3, he3⟩
          have hI := HI.out.reset hf3 he3
          clear hf3 he3 HI c4
          have q := (HI0q q0 hI.bel)
          go_wp2_with fail
          generalize hr0 : (⟨#[]⟩ : ByteArray) = r0
          replace hI : FeI w w3 F (.slice none 0 0) r0.data.toList fed tj := by rw [← hr0]; exact hI
          clear hr0
          have hsz := bsize x
          have hrl := hI.len
          have hrs := bsize r0
          have hfd := hI.fed
          have c4 := feed_any F F _ r0.data.toList fed x w3 hI.fr hI.ir (Nat.le_of_lt (lt_of_block hI.fr.mem)) (by omega) (by omega) (by omega) (by omega)
          have c5 := fun W => refcut_any (r0 ++ x) W (by rw [ByteArray.size_append]; omega)
          rw [show (r0 ++ x).data.toList = r0.data.toList ++ x.data.toList by simp] at c5
          have HI := Lib.hid hI
          have HSZ := Lib.hid hsz
          have hcat : (r0.size : Int) + x.size ≤ 12000 := by omega
          have hfx : ((fed + x.size : Nat) : Int) = (fed : Int) + x.size := by omega
          have hfx2 : (fed : Int) + x.size ≤ 12000 := by omega
          have hfx0 : (0 : Int) ≤ (fed : Int) + x.size := by omega
          clear hI
          go_wp2_with fail
          refine c4.mono ?_
          rintro e w4 ⟨vo, v', rfl, hlv, hf4, he4, -⟩
          have hI := HI.out.fed' hf4 he4
          rw [HSZ.out] at hI
          have q4 : w4.cell? ⟨b, off + j, none⟩ = some (.string x) := HI0q q0 hI.bel
          obtain ⟨ao1, cap1, rfl, hc11, hc12⟩ := hlv.shape
          have hil := init_few (r0.data.toList ++ x.data.toList)
          have hrl2 := rest_len (r0.data.toList ++ x.data.toList)
          rw [List.length_append] at hil hrl2
          clear HI hf4 he4 c4
          go_wp2_with fail
          refine (c5 w4).mono ?_
          rintro e w5 ⟨vo2, rfl, hrv, hb5⟩
          obtain ⟨ao2, cap2, rfl, hc21, hc22⟩ := hrv.shape
          have hlv5 := hlv.belowW hb5
          have hI5 := hI.below hb5
          have q5 : w5.cell? ⟨b, off + j, none⟩ = some (.string x) := HI0q q0 hI5.bel
          rw [List.length_map] at hc11 hc21
          rw [List.length_map]
          obtain ⟨T, hT⟩ : ∃ T, T = r0.data.toList ++ x.data.toList := ⟨_, rfl⟩
          rw [← hT] at hc11 hc21 hlv5 hrv hI5 hil hrl2 ⊢
          obtain ⟨rr, hrr⟩ : ∃ rr : ByteArray, rr = ⟨(restL T).toArray⟩ := ⟨_, rfl⟩
          have hrrs : (restL T).length = rr.size := by rw [hrr, lsize]
          have hrd : restL T = rr.data.toList := by rw [hrr]
          rw [← hrr]
          rw [hrd] at hI5
          have c6 := waiting_any _ _ _ _ _ w5 hI5.fr (by rw [bsize]; omega)
          have c7 := fed_any _ _ _ _ _ w5 hI5.fr
          rw [hfx] at c7
          have hmin : ((min rr.data.toList.length 999 : Nat) : Int) = min (rr.size : Int) 999 := by rw [bsize]; omega
          rw [hmin] at c6
          obtain ⟨N, hN⟩ : ∃ N, N = (initL T).length := ⟨_, rfl⟩
          rw [← hN] at hc11 hc21 hil ⊢
          have HI := Lib.hid hI5
          have HN : Hid (N = ((initL T).map mkLn).length) := by unfold Hid; rw [List.length_map]; exact hN
          have HL := Lib.hid (And.intro hlv5 hrv)
          clear c5 hI hI5 hlv hlv5 hrv hb5 hT hrr hrrs hrd hmin hN hrl2
          go_wp2_with fail
          refine c6.mono ?_
          rintro e _ ⟨rfl, rfl⟩
          go_wp2_with fail
          refine c7.mono ?_
          rintro e _ ⟨rfl, rfl⟩
          clear c6 c7
          go_wp2
          go_loopw [12] (fun i wr => ∃ (k d : Nat), k ≤ N ∧ i = .int .i64 k ∧ wr = w5.drewN d) (fun i _ => N - (intOf i).toNat)
          case atStart => exact ⟨0, 0, Nat.zero_le _, rfl, rfl⟩
          case round =>
            obtain ⟨k, d, hk, rfl, rfl⟩ := hrel
            have hk0 : (0 : Int) ≤ k := by omega
            by_cases hlt2 : k < N
            · have hkl : k < ((initL T).map mkLn).length := by rw [← HN.out]; exact hlt2
              have hk1 : (k : Int) < N := by omega
              obtain ⟨g2, rfl, p2, p2'⟩ := HL.out.1.cell hkl
              obtain ⟨g3, rfl, p3, p3'⟩ := HL.out.2.cell hkl
              generalize ((initL T).map mkLn)[k] = y at *
              clear hkl
              go_wp2
              go_quiet (fail)
              go_wp2
              go_roundw
              case rel => exact ⟨k + 1, d + nq, by omega, by go_num, by first | rfl | rw [World.drewN_drewN]⟩
              case measure => simp [intOf]; omega
            · obtain rfl : k = N := by omega
              go_wp2
              go_roundw
              case rel => exact ⟨j + 1, fed + x.size, v', rr, by omega, rfl, by rw [hfx], by go_num, by rw [HTS.out]; exact HI.out.drawn d⟩
              case measure => simp [intOf]; omega
        · have hrb : ((j : Int) == reset) = false := beq_false_of_ne hr
          clear hr
          obtain ⟨w3, hw3⟩ : ∃ w3, w3 = wr := ⟨_, rfl⟩
          rw [← hw3] at hI ⊢
          clear hw3 wr
          have q := (HI0q q0 hI.bel)
          have hsz := bsize x
          have hrl := hI.len
          have hrs := bsize r
          have hfd := hI.fed
          have c4 := feed_any F F v r.data.toList fed x w3 hI.fr hI.ir (Nat.le_of_lt (lt_of_block hI.fr.mem)) (by omega) (by omega) (by omega) (by omega)
          have c5 := fun W => refcut_any (r ++ x) W (by rw [ByteArray.size_append]; omega)
          rw [show (r ++ x).data.toList = r.data.toList ++ x.data.toList by simp] at c5
          have HI := Lib.hid hI
          have HSZ := Lib.hid hsz
          have hcat : (r.size : Int) + x.size ≤ 12000 := by omega
          have hfx : ((fed + x.size : Nat) : Int) = (fed : Int) + x.size := by omega
          have hfx2 : (fed : Int) + x.size ≤ 12000 := by omega
          have hfx0 : (0 : Int) ≤ (fed : Int) + x.size := by omega
          clear hI
          go_wp2_with fail
          refine c4.mono ?_
          rintro e w4 ⟨vo, v', rfl, hlv, hf4, he4, -⟩
          have hI := HI.out.fed' hf4 he4
          rw [HSZ.out] at hI
          have q4 : w4.cell? ⟨b, off + j, none⟩ = some (.string x) := HI0q q0 hI.bel
          obtain ⟨ao1, cap1, rfl, hc11, hc12⟩ := hlv.shape
          have hil := init_few (r.data.toList ++ x.data.toList)
          have hrl2 := rest_len (r.data.toList ++ x.data.toList)
          rw [List.length_append] at hil hrl2
          clear HI hf4 he4 c4
          go_wp2_with fail
          refine (c5 w4).mono ?_
          rintro e w5 ⟨vo2, rfl, hrv, hb5⟩
          obtain ⟨ao2, cap2, rfl, hc21, hc22⟩ := hrv.shape
          have hlv5 := hlv.belowW hb5
          have hI5 := hI.below hb5
          have q5 : w5.cell? ⟨b, off + j, none⟩ = some (.string x) := HI0q q0 hI5.bel
          rw [List.length_map] at hc11 hc21
          rw [List.length_map]
          obtain ⟨T, hT⟩ : ∃ T, T = r.data.toList ++ x.data.toList := ⟨_, rfl⟩
          rw [← hT] at hc11 hc21 hlv5 hrv hI5 hil hrl2 ⊢
          obtain ⟨rr, hrr⟩ : ∃ rr : ByteArray, rr = ⟨(restL T).toArray⟩ := ⟨_, rfl⟩
          have hrrs : (restL T).length = rr.size := by rw [hrr, lsize]
          have hrd : restL T = rr.data.toList := by rw [hrr]
          rw [← hrr]
          rw [hrd] at hI5
          have c6 := waiting_any _ _ _ _ _ w5 hI5.fr (by rw [bsize]; omega)
          have c7 := fed_any _ _ _ _ _ w5 hI5.fr
          rw [hfx] at c7
          have hmin : ((min rr.data.toList.length 999 : Nat) : Int) = min (rr.size : Int) 999 := by rw [bsize]; omega
          rw [hmin] at c6
          obtain ⟨N, hN⟩ : ∃ N, N = (initL T).length := ⟨_, rfl⟩
          rw [← hN] at hc11 hc21 hil ⊢
          have HI := Lib.hid hI5
          have HN : Hid (N = ((initL T).map mkLn).length) := by unfold Hid; rw [List.length_map]; exact hN
          have HL := Lib.hid (And.intro hlv5 hrv)
          clear c5 hI hI5 hlv hlv5 hrv hb5 hT hrr hrrs hrd hmin hN hrl2
          go_wp2_with fail
          refine c6.mono ?_
          rintro e _ ⟨rfl, rfl⟩
          go_wp2_with fail
          refine c7.mono ?_
          rintro e _ ⟨rfl, rfl⟩
          clear c6 c7
          go_wp2
          go_loopw [12] (fun i wr => ∃ (k d : Nat), k ≤ N ∧ i = .int .i64 k ∧ wr = w5.drewN d) (fun i _ => N - (intOf i).toNat)
          case atStart => exact ⟨0, 0, Nat.zero_le _, rfl, rfl⟩
          case round =>
            obtain ⟨k, d, hk, rfl, rfl⟩ := hrel
            have hk0 : (0 : Int) ≤ k := by omega
            by_cases hlt2 : k < N
            · have hkl : k < ((initL T).map mkLn).length := by rw [← HN.out]; exact hlt2
              have hk1 : (k : Int) < N := by omega
              obtain ⟨g2, rfl, p2, p2'⟩ := HL.out.1.cell hkl
              obtain ⟨g3, rfl, p3, p3'⟩ := HL.out.2.cell hkl
              generalize ((initL T).map mkLn)[k] = y at *
              clear hkl
              go_wp2
              go_quiet (fail)
              go_wp2
              go_roundw
              case rel => exact ⟨k + 1, d + nq, by omega, by go_num, by first | rfl | rw [World.drewN_drewN]⟩
              case measure => simp [intOf]; omega
            · obtain rfl : k = N := by omega
              go_wp2
              go_roundw
              case rel => exact ⟨j + 1, fed + x.size, v', rr, by omega, rfl, by rw [hfx], by go_num, by rw [HTS.out]; exact HI.out.drawn d⟩
              case measure => simp [intOf]; omega
      · obtain rfl : j = n := by omega
        go_wp2
        go_ret
        exact ⟨rfl, hI.bel⟩
end Go.Proofs.YteiepgbdngamiaaDoor
