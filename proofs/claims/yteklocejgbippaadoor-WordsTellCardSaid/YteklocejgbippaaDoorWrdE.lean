/- Package words: Decode. -/
import Derived.Test.YteklocejgbippaaDoorWrdC
import Derived.Lib.SplitLaws
set_option linter.unusedVariables false
set_option linter.unusedSimpArgs false
namespace Go.Proofs.YteklocejgbippaaDoor
open Go.RowKit
def blk : ByteArray := ⟨#[32]⟩
def pcs (s : ByteArray) : List ByteArray := Lib.splitB blk 0 (Lib.countB s blk) s
theorem pcs_spl (s : ByteArray) : (pcs s).map (·.data.toList) = spl s.data.toList := by
  unfold pcs
  rw [Lib.splitB_data]
  exact split_spl _
theorem pcs_len (s : ByteArray) : (pcs s).length = Lib.countB s blk + 1 := Lib.splitB_all blk (by decide) 0 _ s rfl
theorem bb_below {w w' : World} {B b : Nat} {l : List UInt8} (h : BB w B b l) (hb : Below w.heap.size w w') : BB w' B b l := by
  have key : ∀ p, Lib.BuilderAtF 35 5 B b p (Lib.byteCells l) w → Lib.BuilderAtF 35 5 B b p (Lib.byteCells l) w' := by
    rintro p ⟨hB, v, hbk, hown, hne⟩
    exact ⟨hB, v, (hb.block _ (lt_of_block hbk)).trans hbk, hown.kept (row := none) ⟨hb.os, hb.tape, hb.output, hb.size, fun i hi _ => hb.block i hi⟩ (by cases h : v.ownBlock; exact .inl rfl; exact .inr (by simp)), hne⟩
  exact h.elim (fun x => .inl (key _ x)) (fun x => .inr (key _ x))
theorem mem_le_sum : ∀ {l : List Nat} {a : Nat}, a ∈ l → a ≤ l.sum
  | b :: r, a, h => by
    rw [List.sum_cons]
    rcases List.mem_cons.1 h with rfl | h
    · omega
    · have := mem_le_sum h; omega
theorem decStr_size' (s : List UInt8) : (decStr s).size ≤ s.length := by
  unfold decStr
  cases hd : dec s with
  | none => exact Nat.zero_le _
  | some o =>
    have h2 := congrArg List.length ((dec_iff _ _).1 hd)
    rw [enc_len] at h2
    show (⟨o.toArray⟩ : ByteArray).size ≤ _
    rw [lsize]; omega
theorem fail_any (w : World) : Calls Tryd.prog 14 #[] w fun e w' => e = .returned (.tuple #[.string ⟨#[]⟩, .int .i64 2]) ∧ w = w' := by
  go_enter Tryd.func14, Tryd.ntmps14
  go_wp2
  go_ret2
  exact ⟨rfl, rfl⟩
/-- Between two pieces: o is what they have said. -/
structure WdI (w wr : World) (b g : Nat) (ps : List ByteArray) (k : Nat) (o : List UInt8) : Prop where
  bb : BB wr w.heap.size b o
  row : wr.heap[g]? = some (.cells (ps.map Value.string).toArray 9 (0, 0))
  bel : Below w.heap.size w wr
  say : unws (ps.map (·.data.toList)) = (unws ((ps.map (·.data.toList)).drop k)).map (o ++ ·)
  few : o.length ≤ k * 100000
set_option maxRecDepth 100000 in
set_option maxHeartbeats 8000000 in
theorem wdecode_any (s : ByteArray) (w : World) (hm : MaxAt w) (hs : s.size ≤ 50000) :
    Calls Tryd.prog 8 #[.string s] w fun e w' => e = .returned (.tuple #[.string (wdStr s.data.toList), .int .i64 (wdCode s.data.toList)]) ∧ Below w.heap.size w w' := by
  have hsz := bsize s
  have c1 := plain_any s w hm (by omega)
  have hsi : (s.size : Int) ≤ 50000 := by omega
  by_cases hp : plainB s.data.toList = true
  · rw [hp] at c1
    have hd : wDec s.data.toList = some s.data.toList := by unfold wDec; rw [if_pos hp]
    have hd2 := wd_some hd
    rw [hd2.1, hd2.2]
    clear hp hd hd2
    go_enter Tryd.func8, Tryd.ntmps8
    go_wp2_with fail
    refine c1.mono ?_
    rintro e w1 ⟨rfl, rfl⟩
    go_wp2
    go_ret2
    exact ⟨rfl, Below.refl _ _⟩
  · have hp2 : plainB s.data.toList = false := by simpa using hp
    rw [hp2] at c1
    have hdd : wDec s.data.toList = (unws (spl s.data.toList)).bind fun o => if plainB o = false ∧ wEnc o = s.data.toList then some o else none := by unfold wDec; rw [if_neg hp]
    obtain ⟨SS, hSS⟩ : ∃ x, x = wdStr s.data.toList := ⟨_, rfl⟩
    obtain ⟨CC, hCC⟩ : ∃ x, x = wdCode s.data.toList := ⟨_, rfl⟩
    rw [← hSS, ← hCC]
    have hps := pcs_spl s
    have hpn := pcs_len s
    have hsum := spl_sum s.data.toList
    have HS := Lib.hid (And.intro hSS (And.intro hCC (And.intro hdd hsum)))
    have HM := Lib.hid hm
    have hpl : (pcs s).length ≤ 50001 := by
      have h1 : (pcs s).length = (spl s.data.toList).length := by rw [← hps, List.length_map]
      omega
    obtain ⟨m, hm2⟩ := hm
    have c2 := fun W (h : W.cell? _ = _) => Tryd.strings_Split s ⟨#[32]⟩ m W (by omega) h (by decide)
    rw [show Lib.countB s ⟨#[32]⟩ + 1 = (pcs s).length from hpn.symm, show Lib.splitB ⟨#[32]⟩ 0 (Lib.countB s ⟨#[32]⟩) s = pcs s from rfl] at c2
    generalize pcs s = ps at *
    have HP := Lib.hid (And.intro hps hm2)
    clear hSS hCC hdd hsum hp hp2 hps hpn hm2
    go_enter Tryd.func8, Tryd.ntmps8
    go_wp2_with fail
    refine c1.mono ?_
    rintro e w ⟨rfl, rfl⟩
    clear c1
    go_wp2_with fail
    refine (c2 _ ((((Below.refl _ w).alloc (Nat.le_refl _) _).cell (p := ⟨0, 0, none⟩) (World.block_lt_of_cell? _ _ HP.out.2)).trans HP.out.2)).mono ?_
    rintro e w2 ⟨rfl, hw2⟩
    have hI0 : WdI w w2 w.heap.size (w.heap.size + 1) ps 0 [] := by
      rw [hw2]
      refine ⟨(bb_new w w.heap.size (Nat.le_refl _)).alloc _, ?_, ((Below.refl _ w).alloc (Nat.le_refl _) _).alloc (by simp) _, ?_, by simp⟩
      · have h1 := heap_alloc_new (w.alloc (.cells #[.pointer none, .slice none 0 0] 35 (0, 0))) (.cells (ps.map Value.string).toArray 9 (0, 0))
        rwa [World.size_alloc] at h1
      · rw [List.drop_zero]
        have : (fun l : List UInt8 => [] ++ l) = id := by funext l; rfl
        rw [this, Option.map_id]; rfl
    have HI0 := Lib.hid hI0
    have hsl : (w.alloc (.cells #[.pointer none, .slice none 0 0] 35 (0, 0))).heap.size = w.heap.size + 1 := by simp
    have hpi : (ps.length : Int) ≤ 50001 := by omega
    clear c2 hw2 hI0
    rw [hsl]
    clear hsl
    go_wp2
    go_loopw [20] (fun i wr => ∃ (k : Nat) (o : List UInt8), k ≤ ps.length ∧ i = .int .i64 k ∧ WdI w wr w.heap.size (w.heap.size + 1) ps k o) (fun i _ => ps.length - (intOf i).toNat)
    case atStart => exact ⟨0, [], Nat.zero_le _, rfl, HI0.out⟩
    case round =>
      clear HI0
      obtain ⟨k, o, hk, rfl, hI⟩ := hrel
      have hk0 : (0 : Int) ≤ (k : Int) := by omega
      have hof := hI.few
      have hob : o.length ≤ 10000000000 := Nat.le_trans hof (by
        have := Nat.mul_le_mul_right 100000 (Nat.le_trans hk hpl)
        omega)
      have hwl : w.heap.size ≤ wr.heap.size := hI.bel.size
      by_cases hkb : k < ps.length
      · have hki : (k : Int) < ps.length := by omega
        have hcell : wr.cell? ⟨w.heap.size + 1, k, none⟩ = some (.string ps[k]) := by
          rw [cell_of_row _ _ _ _ _ _ hI.row, List.getElem?_toArray, List.getElem?_map, List.getElem?_eq_getElem hkb]; rfl
        have hkm : k < (ps.map (·.data.toList)).length := by rw [List.length_map]; exact hkb
        have hpk : (ps.map (·.data.toList))[k] = ps[k].data.toList := by rw [List.getElem_map]
        have hxz : ps[k].size ≤ 50000 := by
          have h1 := HS.out.2.2.2.1
          rw [← HP.out.1] at h1
          have h2 : ps[k].data.toList.length ∈ (ps.map (·.data.toList)).map List.length := List.mem_map.2 ⟨_, List.mem_map.2 ⟨_, List.getElem_mem hkb, rfl⟩, rfl⟩
          have h3 := mem_le_sum h2
          rw [bsize] at h3
          omega
        have huw := unw_cut ps[k].data.toList
        rw [← hpk] at huw
        have HU : Hid (unw (ps.map (·.data.toList))[k] = if Lib.hasPrefix ps[k].data.toList wHead = true ∧ Lib.hasSuffix (Lib.trimPrefix ps[k].data.toList wHead) wTail = true then dec (Lib.trimSuffix (Lib.trimPrefix ps[k].data.toList wHead) wTail) else none) := by rw [huw, hpk]; exact rfl
        have HI := Lib.hid hI
        generalize ps[k] = x at *
        have c3 := fun W => Tryd.strings_CutPrefix x ⟨#[61, 63, 85, 84, 70, 45, 56, 63, 66, 63]⟩ W
        have hPl : (Lib.trimPrefix x.data.toList wHead).length ≤ x.size := by
          unfold Lib.trimPrefix; split
          · rw [List.length_drop, bsize]; omega
          · rw [bsize]; omega
        obtain ⟨P, hP⟩ : ∃ P : ByteArray, P = ⟨(Lib.trimPrefix x.data.toList wHead).toArray⟩ := ⟨_, rfl⟩
        have hPd : P.data.toList = Lib.trimPrefix x.data.toList wHead := by rw [hP]
        have hPz : P.size ≤ 50000 := by rw [hP, lsize]; omega
        have c4 := fun W => Tryd.strings_CutSuffix P ⟨#[63, 61]⟩ W (by omega)
        have hQl : (Lib.trimSuffix P.data.toList wTail).length ≤ P.size := by
          unfold Lib.trimSuffix; split
          · rw [List.length_take, bsize]; omega
          · rw [bsize]; omega
        obtain ⟨Q, hQ⟩ : ∃ Q : ByteArray, Q = ⟨(Lib.trimSuffix P.data.toList wTail).toArray⟩ := ⟨_, rfl⟩
        have hQd : Q.data.toList = Lib.trimSuffix P.data.toList wTail := by rw [hQ]
        have hQz : Q.size ≤ 50000 := by rw [hQ, lsize]; omega
        have c5 := fun W => decode_any Q W (by omega)
        change ∀ W, Calls _ _ _ _ (fun e w' => e = .returned (.tuple #[.string ⟨(Lib.trimPrefix x.data.toList wHead).toArray⟩, .bool (Lib.hasPrefix x.data.toList wHead)]) ∧ w' = W) at c3
        change ∀ W, Calls _ _ _ _ (fun e w' => e = .returned (.tuple #[.string ⟨(Lib.trimSuffix P.data.toList wTail).toArray⟩, .bool (Lib.hasSuffix P.data.toList wTail)]) ∧ w' = W) at c4
        rw [← hP] at c3
        rw [← hQ] at c4
        rw [← hPd, ← hQd] at HU
        have hds := decStr_size' Q.data.toList
        generalize Lib.hasPrefix x.data.toList wHead = okb at *
        generalize Lib.hasSuffix P.data.toList wTail = isb at *
        obtain ⟨X, hX⟩ : ∃ X, X = decStr Q.data.toList := ⟨_, rfl⟩
        obtain ⟨C, hC⟩ : ∃ C, C = decCode Q.data.toList := ⟨_, rfl⟩
        rw [← hX, ← hC] at c5
        rw [← hX] at hds
        have HXC := Lib.hid (And.intro hX (And.intro hC (And.intro hds hQz)))
        clear hI hpk huw hP hPd hPz hQ hQd hQz hPl hQl hX hC hds
        go_wp2_with fail
        refine (c3 wr).mono ?_
        rintro e wr ⟨rfl, rfl⟩
        go_wp2_with fail
        refine (c4 wr).mono ?_
        rintro e wr ⟨rfl, rfl⟩
        go_wp2_with fail
        refine (c5 wr).mono ?_
        rintro e w5 ⟨rfl, hb5⟩
        have HB5 := Lib.hid hb5
        clear c3 c4 c5 hb5 hcell
        have hfail : unw (ps.map (·.data.toList))[k] = none → SS = ⟨#[]⟩ ∧ CC = 2 := by
          intro h
          have h1 := unws_stop hkm h HI.out.say
          rw [HP.out.1] at h1
          have h2 : wDec s.data.toList = none := by rw [HS.out.2.2.1, h1]; rfl
          have h3 := wd_none h2
          exact ⟨HS.out.1.trans h3.1, HS.out.2.1.trans h3.2⟩
        cases okb with
        | false =>
          have hno := hfail (by rw [HU.out, if_neg (by simp)])
          have HN := Lib.hid hno
          clear hno hfail
          go_wp2
          go_ret2
          exact ⟨ret_si HN.out.1.symm HN.out.2.symm, HI.out.bel.trans (HB5.out.mono HI.out.bel.size)⟩
        | true =>
          cases isb with
          | false =>
            have hno := hfail (by rw [HU.out, if_neg (by simp)])
            have HN := Lib.hid hno
            clear hno hfail
            go_wp2
            go_ret2
            exact ⟨ret_si HN.out.1.symm HN.out.2.symm, HI.out.bel.trans (HB5.out.mono HI.out.bel.size)⟩
          | true =>
            cases hd : dec Q.data.toList with
            | none =>
              have hno := hfail (by rw [HU.out, if_pos ⟨rfl, rfl⟩, hd])
              have hC2 : C = 2 := HXC.out.2.1.trans (decStr_none hd).2.1
              have HN := Lib.hid hno
              clear hno hfail hd
              subst hC2
              go_wp2
              go_ret2
              exact ⟨ret_si HN.out.1.symm HN.out.2.symm, HI.out.bel.trans (HB5.out.mono HI.out.bel.size)⟩
            | some y =>
              have hyes : unw (ps.map (·.data.toList))[k] = some y := by rw [HU.out, if_pos ⟨rfl, rfl⟩, hd]
              have hC0 : C = 0 := HXC.out.2.1.trans (decStr_some hd).2.1
              have hXy : X.data.toList = y := by rw [HXC.out.1, (decStr_some hd).1]
              have hXz : X.size ≤ 50000 := by
                have h1 := HXC.out.2.2.1
                have h2 := HXC.out.2.2.2
                rw [bsize] at h1; omega
              have hst := unws_step hkm hyes HI.out.say
              rw [← hXy] at hst
              have hb5 := bb_below HI.out.bb HB5.out
              have hwl5 : w.heap.size ≤ w5.heap.size := Nat.le_trans hwl HB5.out.size
              have c6 := wstr w.heap.size w.heap.size o X w5 hb5 (by omega) hwl5
              have HST := Lib.hid hst
              have HXZ := Lib.hid hXz
              clear hst hyes hfail hd hb5 hXy
              subst hC0
              go_wp2_with fail
              refine c6.mono ?_
              rintro e w6 ⟨rfl, hb6, hlo6, hok6⟩
              have H6 := Lib.hid (And.intro hb6 (And.intro (hok6 _ _ ((HB5.out.block _ (lt_of_block HI.out.row)).trans HI.out.row) (fun e => by have := Option.some.inj e; omega) (fun c fz e => by cases e)) ((HI.out.bel.trans (HB5.out.mono HI.out.bel.size)).trans hlo6)))
              clear hb6 hlo6 hok6 c6
              go_wp2
              go_roundw
              case rel =>
                refine ⟨k + 1, o ++ X.data.toList, by omega, by go_num, ⟨H6.out.1, H6.out.2.1, H6.out.2.2, HST.out, ?_⟩⟩
                have h1 := HXZ.out
                rw [List.length_append, bsize]
                omega
              case measure => simp [intOf]; omega
      · have hkE : k = ps.length := by omega
        have hki : ¬ (k : Int) < ps.length := by omega
        have hsay := hI.say
        rw [List.drop_of_length_le (by rw [List.length_map]; omega)] at hsay
        simp only [unws, Option.map_some, List.append_nil] at hsay
        rw [HP.out.1] at hsay
        have hol : o.length ≤ 50000 := by
          have h1 := unws_len hsay
          have h2 := HS.out.2.2.2.1
          rw [hsz] at h2; omega
        have hdd := HS.out.2.2.1
        rw [hsay] at hdd
        simp only [Option.bind_some] at hdd
        have c7 := bstr w.heap.size w.heap.size o wr hI.bb hwl
        obtain ⟨O, hO⟩ : ∃ O : ByteArray, O = ⟨o.toArray⟩ := ⟨_, rfl⟩
        have hOd : O.data.toList = o := by rw [hO]
        have hOz : O.size ≤ 50000 := by rw [hO, lsize]; exact hol
        rw [← hO] at c7
        have c8 := fun W hM => plain_any O W hM (by omega)
        have c9 := fun W hM => wencode_any O W hM (by omega)
        rw [hOd] at c8 c9
        have HB := Lib.hid hI.bel
        clear hI hsay hkE hkb hof hob hol
        by_cases hpo : plainB o = true
        · rw [if_neg (by rw [hpo]; simp)] at hdd
          have hds := wd_none hdd
          have HE := Lib.hid (And.intro (HS.out.1.trans hds.1) (HS.out.2.1.trans hds.2))
          rw [hpo] at c8
          clear hdd hds hpo hO hOd
          go_wp2_with fail
          refine c7.mono ?_
          rintro e w7 ⟨rfl, hb7, hlo7, hok7⟩
          have H7 := Lib.hid (HB.out.trans hlo7)
          clear c7 hb7 hlo7 hok7
          go_wp2_with fail
          refine (c8 w7 (HM.out.below (H7.out.mono (Nat.le_refl _)))).mono ?_
          rintro e w7 ⟨rfl, rfl⟩
          clear c8 c9
          go_wp2
          go_ret2
          exact ⟨ret_si HE.out.1.symm HE.out.2.symm, H7.out⟩
        · have hpo2 : plainB o = false := by simpa using hpo
          rw [hpo2] at c8
          by_cases hq : wEnc o = s.data.toList
          · rw [if_pos ⟨hpo2, hq⟩] at hdd
            have hds := wd_some hdd
            rw [← hO] at hds
            have HE := Lib.hid (And.intro (HS.out.1.trans hds.1) (HS.out.2.1.trans hds.2))
            have hes : (⟨(wEnc o).toArray⟩ : ByteArray) = s := by rw [hq]
            rw [hes] at c9
            clear hdd hds hpo hpo2 hO hOd hq hes
            go_wp2_with fail
            refine c7.mono ?_
            rintro e w7 ⟨rfl, hb7, hlo7, hok7⟩
            have H7 := Lib.hid (HB.out.trans hlo7)
            clear c7 hb7 hlo7 hok7
            go_wp2_with fail
            refine (c8 w7 (HM.out.below (H7.out.mono (Nat.le_refl _)))).mono ?_
            rintro e w7 ⟨rfl, rfl⟩
            go_wp2_with fail
            refine (c9 w7 (HM.out.below (H7.out.mono (Nat.le_refl _)))).mono ?_
            rintro e w8 ⟨rfl, hb8⟩
            have H8 := Lib.hid (H7.out.trans (hb8.mono H7.out.size))
            clear c8 c9 hb8
            go_wp2
            go_ret2
            exact ⟨ret_si HE.out.1.symm HE.out.2.symm, H8.out⟩
          · rw [if_neg (fun x => hq x.2)] at hdd
            have hds := wd_none hdd
            have HE := Lib.hid (And.intro (HS.out.1.trans hds.1) (HS.out.2.1.trans hds.2))
            have hes : ((⟨(wEnc o).toArray⟩ : ByteArray).toList == s.toList) = false := by
              rw [Lib.toList_data, Lib.toList_data]; exact beq_false_of_ne hq
            generalize (⟨(wEnc o).toArray⟩ : ByteArray) = TT at *
            clear hdd hds hpo hpo2 hO hOd hq
            go_wp2_with fail
            refine c7.mono ?_
            rintro e w7 ⟨rfl, hb7, hlo7, hok7⟩
            have H7 := Lib.hid (HB.out.trans hlo7)
            clear c7 hb7 hlo7 hok7
            go_wp2_with fail
            refine (c8 w7 (HM.out.below (H7.out.mono (Nat.le_refl _)))).mono ?_
            rintro e w7 ⟨rfl, rfl⟩
            go_wp2_with fail
            refine (c9 w7 (HM.out.below (H7.out.mono (Nat.le_refl _)))).mono ?_
            rintro e w8 ⟨rfl, hb8⟩
            have H8 := Lib.hid (H7.out.trans (hb8.mono H7.out.size))
            clear c8 c9 hb8
            go_wp2
            go_ret2
            exact ⟨ret_si HE.out.1.symm HE.out.2.symm, H8.out⟩
end Go.Proofs.YteklocejgbippaaDoor
