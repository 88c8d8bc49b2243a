/- Package wal: Open. -/
import Derived.Test.YtnbefiaeihialaaGreatWalY
set_option linter.unusedVariables false
set_option linter.unusedSimpArgs false
namespace Go.Proofs.YtnbefiaeihialaaGreat
open Go.RowKit
def OpenP (g D c : Nat) (R : List Value) (k : Dk) (o : Option St) (w : World) (e : Ending) (w' : World) : Prop :=
  Below w.heap.size w w' ∧ match o with
  | none => e = .returned (.tuple #[.pointer none, .int .i64 7])
  | some st => ∃ s mb d tab, e = .returned (.tuple #[.pointer (some ⟨s, 0, none⟩), .int .i64 0]) ∧ StAt w' s mb g D c R k st d tab ∧ SumOk d tab ∧ w.heap.size ≤ s ∧ w.heap.size ≤ mb
/-- The side and the generation behind j of the two halves. -/
def accF (k : Dk) (from_ half : Nat) : Nat → Nat × Nat
  | 0 => (0, 0)
  | j + 1 => pick1 (findF shaF (rdS k from_ half j) half 0) j (accF k from_ half j)
def mzF (s half : Nat) (wr : World) : Nat := match wr.cell? ⟨s, 6, none⟩ with
  | some (.int _ f) => half + 1 - f.toNat
  | _ => 0
theorem pick1_le {fo : Option (Nat × Nat × Bs)} {sd : Nat} {acc : Nat × Nat} (h : acc.1 ≤ 1) (h2 : sd ≤ 1) : (pick1 fo sd acc).1 ≤ 1 := by
  unfold pick1
  split
  · split
    · exact h2
    · exact h
  · exact h
theorem pickF_le (k : Dk) (from_ half : Nat) : (pickF shaF k from_ half).1 ≤ 1 := pick1_le (pick1_le (Nat.zero_le _) (Nat.zero_le _)) (Nat.le_refl _)
theorem accF_two (k : Dk) (from_ half : Nat) : accF k from_ half 2 = pickF shaF k from_ half := rfl
theorem walkO_stop {sha : Bs → Bs} {rd : Nat → Bs} {half g x f n : Nat} {M : List Pr} (h : ∀ g' n' t, findF sha rd half f = some (g', n', t) → ¬ (g' = g ∧ n' = n)) : walkO sha rd half g x f n M = some (f, n, M) := by
  cases x with
  | zero => rfl
  | succ x =>
    unfold walkO
    cases hf : findF sha rd half f with
    | none => rfl
    | some p =>
      obtain ⟨g', n', t⟩ := p
      exact if_neg (h g' n' t hf)
theorem findV_shape (o : Option (Nat × Nat × Bs)) : ∃ (G N : Nat) (T : ByteArray) (B : Bool), findV o = .tuple #[.int .i64 G, .int .i64 N, .string T, .bool B] ∧ o = if B = true then some (G, N, T.data.toList) else none := by
  cases o with
  | none => exact ⟨0, 0, ⟨#[]⟩, false, rfl, rfl⟩
  | some p =>
    obtain ⟨a, b, t⟩ := p
    exact ⟨a, b, ⟨t.toArray⟩, true, rfl, rfl⟩
set_option maxRecDepth 100000 in
set_option maxHeartbeats 16000000 in
theorem open_any (g D c : Nat) (R : List Value) (k : Dk) (from_ half : Nat) (w : World) (h : DkAt w g D c R k) (hdn : k.down = false) (h2 : 2 ≤ half) (h3 : from_ + 2 * half ≤ k.n) :
    Calls Tryz.prog 16 #[.pointer (some ⟨g, 0, none⟩), .int .i64 from_, .int .i64 (2 * half : Nat)] w (OpenP g D c R k (openF shaF k from_ half) w) := by
  have hkn := h.ok.n2
  have ca := area_any g D c R k from_ half w h h2 h3 (by omega)
  obtain ⟨N2, hN2⟩ : ∃ N2 : Nat, N2 = 2 * half := ⟨_, rfl⟩
  rw [← hN2] at ca ⊢
  obtain ⟨O, hO⟩ : ∃ O, O = openF shaF k from_ half := ⟨_, rfl⟩
  rw [← hO]
  have H := Lib.hid (And.intro h hO)
  clear h hO hN2
  go_enter Tryz.func16, Tryz.ntmps16
  go_wp2_with fail
  refine ca.mono ?_
  rintro e w1 ⟨rfl, hst, hmp, hb1⟩
  obtain ⟨s, hs⟩ : ∃ s, s = w.heap.size + 1 := ⟨_, rfl⟩
  obtain ⟨mb, hmb⟩ : ∃ mb, mb = w.heap.size := ⟨_, rfl⟩
  rw [← hs, ← hmb] at hst
  rw [← hmb] at hmp
  rw [← hs]
  have hS : StAt w1 s mb g D c R k (st0 from_ half) 0 zeroT := ⟨hst, hmp, H.out.1.below hb1⟩
  have cd := down_any g D c R k w1 hS.dk
  rw [hdn] at cd
  have H1 := Lib.hid (And.intro hS (And.intro hb1 (And.intro hs hmb)))
  clear ca hst hmp hb1 hS hs hmb
  go_wp2_with fail
  refine cd.mono ?_
  rintro e w1' ⟨rfl, rfl⟩
  clear cd
  go_wp2
  go_loopw [33] (fun i wr => ∃ j : Nat, j ≤ 2 ∧ i = .int .i64 j ∧ Hid (∃ d tab, StAt wr s mb g D c R k { st0 from_ half with side := (accF k from_ half j).1, gen := (accF k from_ half j).2 } d tab ∧ SumOk d tab ∧ Below w.heap.size w wr)) (fun i _ => 2 - (intOf i).toNat)
  case atStart => exact ⟨0, by omega, rfl, Lib.hid ⟨0, zeroT, H1.out.1, .inl ⟨rfl, rfl⟩, H1.out.2.1⟩⟩
  case round =>
    obtain ⟨j, hj, rfl, hrl⟩ := hrel
    obtain ⟨d, tab, hS, hd, hbl⟩ := hrl.out
    have hj0 : (0 : Int) ≤ (j : Int) := by omega
    by_cases hlt : j < 2
    · have hji : (j : Int) < 2 := by omega
      have cf := find_any s mb g D c R k _ d tab j 0 wr hS hd hdn h3 (by omega) (by omega)
      change Calls _ _ _ _ (FindP s mb g D c R k _ (findF shaF (rdS k from_ half j) half 0) wr) at cf
      have hac : accF k from_ half (j + 1) = pick1 (findF shaF (rdS k from_ half j) half 0) j (accF k from_ half j) := rfl
      generalize findF shaF (rdS k from_ half j) half 0 = fo at *
      obtain ⟨ac, hacd⟩ : ∃ ac, ac = accF k from_ half j := ⟨_, rfl⟩
      rw [← hacd] at cf hS hac
      obtain ⟨SD, GN⟩ := ac
      have HA := Lib.hid (And.intro hac hbl)
      clear hrl hS hd hac hacd hbl
      go_wp2_with fail
      refine cf.mono ?_
      rintro e w2 ⟨d2, tab2, rfl, hS2, hd2, he2⟩
      have hsl : w.heap.size ≤ s := by have := H1.out.2.2.1; omega
      have hb2 := Eff.below HA.out.2 he2 HA.out.2.size (fun x e => by have h1 : x = s := e; omega)
      have d3 : w2.cell? ⟨s, 3, none⟩ = some (.int .i64 SD) := hS2.mem.cells.2.2.2.1
      have d4 : w2.cell? ⟨s, 4, none⟩ = some (.int .i64 GN) := hS2.mem.cells.2.2.2.2.1
      have f3 := hS2.mem.free 3
      have f4 := hS2.mem.free 4
      have HB := Lib.hid (And.intro hS2 (And.intro hd2 hb2))
      have HSL := Lib.hid hsl
      clear cf hS2 hd2 he2 hb2 hsl
      cases fo with
      | none =>
        have hp : accF k from_ half (j + 1) = (SD, GN) := HA.out.1
        have HP := Lib.hid hp
        clear hp d3 f3 f4
        unfold findV
        go_wp2
        go_roundw
        case rel => exact ⟨j + 1, by omega, by go_num, Lib.hid ⟨d2, tab2, by rw [HP.out]; exact HB.out.1, HB.out.2.1, HB.out.2.2⟩⟩
        case measure => simp [intOf]; omega
      | some p =>
        obtain ⟨g', n', t'⟩ := p
        have hp : accF k from_ half (j + 1) = if n' = 0 ∧ GN < g' then (j, g') else (SD, GN) := HA.out.1
        obtain ⟨TT, hTT⟩ : ∃ TT : ByteArray, TT = ⟨t'.toArray⟩ := ⟨_, rfl⟩
        unfold findV
        dsimp only
        rw [← hTT]
        clear hTT
        by_cases hn0 : n' = 0
        · subst hn0
          by_cases hgt : GN < g'
          · have hgi : (GN : Int) < (g' : Int) := by omega
            have HP := Lib.hid (hp.trans (if_pos ⟨rfl, hgt⟩))
            clear hp
            go_wp2
            have q3 := (HB.out.1.mem.set3 j (x := (j : Int)) rfl).set4 g' (x := (g' : Int)) rfl
            have r1 := Eff.setCell (S := (· = s)) (Eff.refl (· = s) w2) (p := ⟨s, 3, none⟩) (fun _ => rfl) (.int .i64 (j : Int))
            have r2 := Eff.setCell (S := (· = s)) r1 (p := ⟨s, 4, none⟩) (fun _ => rfl) (.int .i64 (g' : Int))
            generalize (w2.setCell ⟨s, 3, none⟩ (.int .i64 (j : Int))).setCell ⟨s, 4, none⟩ (.int .i64 (g' : Int)) = w9 at *
            have hS9 := HB.out.1.turn r2 q3 rfl
            have hb9 := Eff.below HB.out.2.2 r2 HB.out.2.2.size (fun x e => by have h1 : x = s := e; have := HSL.out; omega)
            refine ⟨⟨j + 1, by omega, by go_num, Lib.hid ⟨d2, tab2, by rw [HP.out]; exact hS9, HB.out.2.1, hb9⟩⟩, by simp [intOf]; omega⟩
          · have hgi : ¬ (GN : Int) < (g' : Int) := by omega
            have HP := Lib.hid (hp.trans (if_neg (fun h => hgt h.2)))
            clear hp d3 f3 f4
            go_wp2
            go_roundw
            case rel => exact ⟨j + 1, by omega, by go_num, Lib.hid ⟨d2, tab2, by rw [HP.out]; exact HB.out.1, HB.out.2.1, HB.out.2.2⟩⟩
            case measure => simp [intOf]; omega
        · have hni : ((n' : Int) == 0) = false := by rw [Bool.eq_false_iff]; intro e; have := beq_iff_eq.1 e; omega
          have HP := Lib.hid (hp.trans (if_neg (fun h => hn0 h.1)))
          clear hp d3 f3 f4
          go_wp2
          go_roundw
          case rel => exact ⟨j + 1, by omega, by go_num, Lib.hid ⟨d2, tab2, by rw [HP.out]; exact HB.out.1, HB.out.2.1, HB.out.2.2⟩⟩
          case measure => simp [intOf]; omega
    · obtain rfl : j = 2 := by omega
      rw [accF_two] at hS
      have hO := H.out.2
      unfold openF at hO
      obtain ⟨pk, hpk⟩ : ∃ pk, pk = pickF shaF k from_ half := ⟨_, rfl⟩
      have hsd := pickF_le k from_ half
      rw [← hpk] at hS hO hsd
      obtain ⟨SD, GN⟩ := pk
      dsimp only at hO hsd
      have d4 : wr.cell? ⟨s, 4, none⟩ = some (.int .i64 GN) := hS.mem.cells.2.2.2.2.1
      have HB := Lib.hid (And.intro hS (And.intro hd hbl))
      clear hrl hS hd hbl hpk
      by_cases hG : GN = 0
      · subst hG
        have HP := Lib.hid (hO.trans (if_pos rfl))
        clear hO
        go_wp2
        go_ret2
        rw [HP.out]
        exact ⟨HB.out.2.2, rfl⟩
      · have hGi : ((GN : Int) == 0) = false := by rw [Bool.eq_false_iff]; intro e; have := beq_iff_eq.1 e; omega
        rw [if_neg hG] at hO
        have HP := Lib.hid hO
        clear hO
        obtain ⟨WK, hWK⟩ : ∃ WK, WK = walkO shaF (rdS k from_ half SD) half GN (half + 1) 0 0 [] := ⟨_, rfl⟩
        have HP2 := HP.out
        rw [← hWK] at HP2
        have HQ := Lib.hid (And.intro HP2 hWK)
        clear HP2 hWK HP
        go_wp2
        go_loopw [] (fun wr => ∃ (x f n : Nat) (M : List Pr) (d : Int) (tab : List Int), Hid (StAt wr s mb g D c R k ⟨from_, half, SD, GN, n, f, M⟩ d tab ∧ SumOk d tab ∧ Below w.heap.size w wr ∧ Srt M ∧ M.length ≤ 64 * f ∧ WK = walkO shaF (rdS k from_ half SD) half GN x f n M ∧ half < f + x ∧ f ≤ half ∧ n ≤ f)) (fun wr => mzF s half wr)
        case atStart => exact ⟨half + 1, 0, 0, [], d, tab, Lib.hid ⟨HB.out.1, HB.out.2.1, HB.out.2.2, srt_nil, by simp, HQ.out.2, by omega, by omega, by omega⟩⟩
        case round =>
          obtain ⟨x, f, n, M, d, tab, hrl⟩ := hrel
          obtain ⟨hS, hd, hbl, hsrt, hml, hwk, hfx, hfh, hnf⟩ := hrl.out
          have e3 : wr.cell? ⟨s, 3, none⟩ = some (.int .i64 SD) := hS.mem.cells.2.2.2.1
          have e6 : wr.cell? ⟨s, 6, none⟩ = some (.int .i64 f) := hS.mem.cells.2.2.2.2.2.2.1
          have cf := find_any s mb g D c R k _ d tab SD f wr.drew (hS.keep (S := fun _ => False) (Eff.refl _ _).drew id id id id) hd hdn h3 hsd (by omega)
          change Calls _ _ _ _ (FindP s mb g D c R k _ (findF shaF (rdS k from_ half SD) half f) wr.drew) at cf
          obtain ⟨fo, hfo⟩ : ∃ fo, fo = findF shaF (rdS k from_ half SD) half f := ⟨_, rfl⟩
          rw [← hfo] at cf
          obtain ⟨G2, N3, T2, B2, hfv, hfb⟩ := findV_shape fo
          have cf2 : Calls Tryz.prog 41 #[.pointer (some ⟨s, 0, none⟩), .int .i64 SD, .int .i64 f] wr.drew fun e w' => ∃ d2 tab2, e = .returned (.tuple #[.int .i64 G2, .int .i64 N3, .string T2, .bool B2]) ∧ StAt w' s mb g D c R k ⟨from_, half, SD, GN, n, f, M⟩ d2 tab2 ∧ SumOk d2 tab2 ∧ Eff (fun x => x = s) wr.drew w' := by
            rw [← hfv]; exact cf
          rw [hfo] at hfb
          have HFB := Lib.hid hfb
          clear cf hfv hfb
          have HL := Lib.hid (And.intro hfo (And.intro hwk (And.intro hsrt hml)))
          have HBL := Lib.hid hbl
          have HE6 := Lib.hid e6
          clear hrl hS hd hbl hsrt hml hwk hfo d4
          go_upto_region 15 with fail
          go_region_law (go_simp; go_at_call 41; (with_reducible refine cf2.mono ?_); rintro e w2 ⟨d2, tab2, rfl, hS2, hd2, he2⟩)
          all_goals
            have hb2 := Eff.below HBL.out.drew he2 HBL.out.drew.size (fun y e => by have h1 : y = s := e; have := H1.out.2.2.1; omega)
            have t4 : w2.cell? ⟨s, 4, none⟩ = some (.int .i64 GN) := hS2.mem.cells.2.2.2.2.1
            have t5 : w2.cell? ⟨s, 5, none⟩ = some (.int .i64 n) := hS2.mem.cells.2.2.2.2.2.1
            have HY := Lib.hid (And.intro hS2 (And.intro hd2 hb2))
            clear cf2 hS2 hd2 he2 hb2 e3 e6
            have hstop : ¬ (B2 = true ∧ G2 = GN ∧ N3 = n) → O = some ⟨from_, half, SD, GN, n, f, M⟩ := fun hh => by
              rw [HQ.out.1, HL.out.2.1, walkO_stop (fun g' n' t e => ?_)]
              · rfl
              · have h1 := HFB.out
                rw [e] at h1
                cases B2 with
                | false => cases h1
                | true =>
                  injection h1 with h1
                  injection h1 with a1 a2
                  injection a2 with a2 _
                  rw [a1, a2]
                  exact fun q => hh ⟨rfl, q.1, q.2⟩
            have HST := Lib.hid hstop
            clear hstop
            cases B2 with
            | false =>
              have HO := Lib.hid (HST.out (fun h => by cases h.1))
              go_wp2
              go_ret2
              rw [HO.out]
              exact ⟨HY.out.2.2, s, mb, d2, tab2, rfl, HY.out.1, HY.out.2.1, by have := H1.out.2.2.1; omega, by have := H1.out.2.2.2; omega⟩
            | true =>
              by_cases hG2 : G2 = GN
              case neg =>
                have hne : ((G2 : Int) != (GN : Int)) = true := by rw [bne_iff_ne]; intro e; omega
                have HO := Lib.hid (HST.out (fun h => hG2 h.2.1))
                clear HST hG2
                go_wp2
                go_ret2
                rw [HO.out]
                exact ⟨HY.out.2.2, s, mb, d2, tab2, rfl, HY.out.1, HY.out.2.1, by have := H1.out.2.2.1; omega, by have := H1.out.2.2.2; omega⟩
              case pos =>
                subst hG2
                by_cases hN3 : N3 = n
                case neg =>
                  have hne : ((N3 : Int) != (n : Int)) = true := by rw [bne_iff_ne]; intro e; omega
                  have HO := Lib.hid (HST.out (fun h => hN3 h.2.2))
                  clear HST hN3
                  go_wp2
                  go_ret2
                  rw [HO.out]
                  exact ⟨HY.out.2.2, s, mb, d2, tab2, rfl, HY.out.1, HY.out.2.1, by have := H1.out.2.2.1; omega, by have := H1.out.2.2.2; omega⟩
                case pos =>
                  subst hN3
                  clear HST
                  have hff : findF shaF (rdS k from_ half SD) half f = some (G2, N3, T2.data.toList) := HFB.out.trans (if_pos rfl)
                  have hlen : ∀ i, i < half → (rdS k from_ half SD i).length = 64 := fun i hi => by
                    have h5 : SD * half ≤ 1 * half := Nat.mul_le_mul_right _ hsd
                    exact sec_len H.out.1.ok (by omega)
                  have hfit := (find_fit hlen hff).2
                  have hT2 : T2.data.toList.length = T2.size := bsize T2
                  rw [hT2] at hfit
                  have hTs : T2.size ≤ 200000 := by have := hfit; unfold secN at this; omega
                  obtain ⟨x1, hx1⟩ : ∃ x1, x = x1 + 1 := ⟨x - 1, by have := find_lt hff; omega⟩
                  have hwk2 := HL.out.2.1
                  rw [hx1] at hwk2
                  unfold walkO at hwk2
                  rw [hff] at hwk2
                  change WK = (if G2 = G2 ∧ N3 = N3 then _ else _) at hwk2
                  rw [if_pos ⟨rfl, rfl⟩] at hwk2
                  have cp := parse_any T2 w2 (by omega)
                  have hfl := find_lt hff
                  have HW := Lib.hid (And.intro hwk2 (And.intro hfit hx1))
                  clear hff hlen hfit hT2 hx1 hwk2 HFB
                  cases hp : paT T2.data.toList with
                  | none =>
                    have e1 : parseC T2.data.toList = 2 := by unfold parseC; rw [hp]
                    have hO : O = none := by
                      have h5 := HW.out.1
                      rw [hp] at h5
                      rw [HQ.out.1, h5]; rfl
                    rw [e1] at cp
                    have HO := Lib.hid hO
                    clear e1 hO hp
                    go_wp2_with fail
                    refine cp.mono ?_
                    rintro e w3 ⟨v, _, rfl, hb3⟩
                    have HB3 := Lib.hid (HY.out.2.2.trans (hb3.mono HY.out.2.2.size))
                    clear cp hb3
                    go_wp2
                    go_ret2
                    rw [HO.out]
                    exact ⟨HB3.out, rfl⟩
                  | some ls =>
                    have e1 : parseC T2.data.toList = 0 := by unfold parseC; rw [hp]
                    have e2 : parseL T2.data.toList = ls := by unfold parseL; rw [hp]; rfl
                    have hok := paT_ok hp
                    rw [bsize] at hok
                    rw [e1, e2] at cp
                    have h5 := HW.out.1
                    rw [hp] at h5
                    change WK = walkO shaF (rdS k from_ half SD) half G2 x1 (f + secN (46 + T2.data.toList.length)) (N3 + 1) (appM M ls) at h5
                    rw [bsize] at h5
                    have HWW := Lib.hid (And.intro h5 hok)
                    clear e1 e2 h5 hok hp
                    go_wp2_with fail
                    refine cp.mono ?_
                    rintro e w3 ⟨v, hv, rfl, hb3⟩
                    obtain ⟨ao, cap, rfl⟩ := hv.shape
                    have hin := hv.in_
                    have hS3 := HY.out.1.below hb3
                    have t7 : w3.cell? ⟨s, 7, none⟩ = some (.map (some mb)) := hS3.mem.cells.2.2.2.2.2.2.2.1
                    have hls : ls.length ≤ 200000 := by have := HWW.out.2.2; omega
                    have ca := apply_any ao ls.length cap mb ls M w3 hin (by omega) hS3.map HL.out.2.2.1 (by have := HL.out.2.2.2; omega) (fun c hc => (HWW.out.2.1 c hc).fit)
                    have hlen4 := appM_len HL.out.2.2.1 ls
                    have HS3 := Lib.hid hS3
                    have HB3 := Lib.hid (HY.out.2.2.trans (hb3.mono HY.out.2.2.size))
                    clear cp hv hin hS3 hb3
                    go_wp2_with fail
                    refine ca.mono ?_
                    rintro e w4 ⟨rfl, hm4, he4⟩
                    have hS4 : StAt w4 s mb g D c R k ⟨from_, half, SD, G2, N3, f, appM M ls⟩ d2 tab2 := ⟨HS3.out.mem.eff he4 HS3.out.ms, hm4, HS3.out.dk.keep he4 HS3.out.mg HS3.out.mD⟩
                    have u5 : w4.cell? ⟨s, 5, none⟩ = some (.int .i64 N3) := hS4.mem.cells.2.2.2.2.2.1
                    have fz5 := hS4.mem.free 5
                    have hbl4 := Eff.below HB3.out he4 HB3.out.size (fun y e => by have h1 : y = mb := e; have := H1.out.2.2.2; omega)
                    have q5 := hS4.mem.set5 (N3 + 1) (x := (N3 : Int) + 1) (by omega)
                    have r5 := Eff.setCell (S := (· = s)) (Eff.refl (· = s) w4) (p := ⟨s, 5, none⟩) (fun _ => rfl) (.int .i64 ((N3 : Int) + 1))
                    have hS5 := hS4.turn r5 q5 rfl
                    have hb5 := Eff.below hbl4 r5 hbl4.size (fun y e => by have h1 : y = s := e; have := H1.out.2.2.1; omega)
                    have HS5 := Lib.hid (And.intro hS5 hb5)
                    clear ca hm4 he4 hS4 hbl4 q5 r5 hS5 hb5
                    go_upto_region 23 with fail
                    clear u5 fz5
                    generalize w4.setCell ⟨s, 5, none⟩ (.int .i64 ((N3 : Int) + 1)) = w5 at *
                    obtain ⟨Q, hQ⟩ : ∃ Q, Q = secN (46 + T2.size) := ⟨_, rfl⟩
                    have cs := fun W => sectors_any (14 + T2.size + 32) W (by omega)
                    rw [show 14 + T2.size + 32 = 46 + T2.size by omega, ← hQ] at cs
                    have eT : ((46 + T2.size : Nat) : Int) = 14 + (T2.size : Int) + 32 := by omega
                    rw [eT] at cs
                    have hQ1 : 1 ≤ Q := by rw [hQ]; exact secN_pos _
                    have hQ2 : T2.size + 47 ≤ 64 * Q := by rw [hQ]; unfold secN; omega
                    have hQ3 : f + Q ≤ half := by rw [hQ]; exact HW.out.2.1
                    have u6 : w5.cell? ⟨s, 6, none⟩ = some (.int .i64 f) := HS5.out.1.mem.cells.2.2.2.2.2.2.1
                    have fz6 := HS5.out.1.mem.free 6
                    have hT0 : (0 : Int) ≤ (T2.size : Int) := by omega
                    have hwr1 : IntKind.i64.wrap ((f : Int) + (Q : Int)) = (f : Int) + (Q : Int) := by rw [IntKind.wrap_i64]; omega
                    have hwr2 : IntKind.i64.wrap (14 + (T2.size : Int)) = 14 + (T2.size : Int) := by rw [IntKind.wrap_i64]; omega
                    have hwr3 : IntKind.i64.wrap (14 + (T2.size : Int) + 32) = 14 + (T2.size : Int) + 32 := by rw [IntKind.wrap_i64]; omega
                    have CS := Lib.hid cs
                    have HQQ := Lib.hid hQ
                    clear cs eT hQ
                    go_region_law (go_simp; go_at_call 39; (with_reducible refine (CS.out _).mono ?_); rintro e wx ⟨rfl, rfl⟩)
                    all_goals
                      have q6 := HS5.out.1.mem.set6 (f + Q) (x := (f : Int) + (Q : Int)) (by omega)
                      have r6 := Eff.setCell (S := (· = s)) (Eff.refl (· = s) w5) (p := ⟨s, 6, none⟩) (fun _ => rfl) (.int .i64 ((f : Int) + (Q : Int)))
                      have hS6 := HS5.out.1.turn r6 q6 rfl
                      have hb6 := Eff.below HS5.out.2 r6 HS5.out.2.size (fun y e => by have h1 : y = s := e; have := H1.out.2.2.1; omega)
                      have hS7 := hS6.below (Below.refl _ _).drew
                      have hb7 := hb6.drew
                      have HS6 := Lib.hid (And.intro hS7 hb7)
                      have c6 : ((w5.setCell ⟨s, 6, none⟩ (.int .i64 ((f : Int) + (Q : Int)))).drew).cell? ⟨s, 6, none⟩ = some (.int .i64 ((f + Q : Nat) : Int)) := hS7.mem.cells.2.2.2.2.2.2.1
                      have HC6 := Lib.hid c6
                      clear q6 r6 hS6 hb6 hS7 hb7 c6 u6 fz6
                      go_wp2
                      refine ⟨⟨x1, f + Q, N3 + 1, appM M ls, d2, tab2, Lib.hid ⟨HS6.out.1, HY.out.2.1, HS6.out.2, HL.out.2.2.1.app ls, ?_, ?_, ?_, hQ3, by omega⟩⟩, ?_⟩
                      · have h5 := HWW.out.2.2
                        have h6 := HL.out.2.2.2
                        omega
                      · rw [HQQ.out]; exact HWW.out.1
                      · have h5 := HW.out.2.2
                        omega
                      · unfold mzF
                        rw [HC6.out, HE6.out]
                        show half + 1 - ((f + Q : Nat) : Int).toNat < half + 1 - (f : Int).toNat
                        omega
end Go.Proofs.YtnbefiaeihialaaGreat
