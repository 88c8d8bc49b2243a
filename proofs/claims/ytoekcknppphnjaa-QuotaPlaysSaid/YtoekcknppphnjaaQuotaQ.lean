/- Package quota's law folder: QuotaPlays' walk. -/
import Derived.Test.YtoekcknppphnjaaQuotaP
set_option linter.unusedVariables false
set_option linter.unusedSimpArgs false
namespace Go.Proofs.Ytoekcknppphnjaa
open Go.RowKit
theorem takeC_range (k : Book) (i n : Int) : 0 ≤ takeC k i n ∧ takeC k i n ≤ 5 := by unfold takeC; (repeat' split) <;> omega
theorem giveC_range (k : Book) (i n : Int) : 0 ≤ giveC k i n ∧ giveC k i n ≤ 4 := by unfold giveC; (repeat' split) <;> omega
theorem refTake_any (gB cB gT cT : Nat) (k : Book) (i n : Int) (w : World) (h : RefB w gB cB gT cT k) (ho : k.Ok) :
    Calls Try.prog 11 #[.agg #[.slice (some ⟨gB, 0, none⟩) k.L cB, .slice (some ⟨gT, 0, none⟩) k.L cT], .int .i64 i, .int .i64 n] w (RefPost k (takeB k i n) (takeC k i n) gB cB gT cT w) := by
  by_cases hi : 0 ≤ i ∧ i < k.L
  · obtain ⟨j, rfl⟩ := Int.eq_ofNat_of_zero_le hi.1
    have hj : j < k.L := by omega
    by_cases hz : takeC k j n = 0
    · rw [hz]; exact refTake_ok gB cB gT cT k j n w h ho hj hz
    · rw [take_not hz, takeC_eq hj]
      split
      · next h1 => exact refTake_neg gB cB gT cT k j n w h hj ho.le h1
      · next h1 =>
        split
        · next h2 => exact refTake_full gB cB gT cT k j n w h ho hj (by omega) h2
        · next h2 => exact absurd ((takeC_zero hj).2 ⟨by omega, by omega⟩) hz
  · have e : takeC k i n = 4 := by simp only [takeC]; rw [if_pos hi]
    rw [take_not (by rw [e]; decide), e]
    exact refTake_none gB cB gT cT k i n w h hi ho.le
theorem refGive_any (gB cB gT cT : Nat) (k : Book) (i n : Int) (w : World) (h : RefB w gB cB gT cT k) (ho : k.Ok) :
    Calls Try.prog 13 #[.agg #[.slice (some ⟨gB, 0, none⟩) k.L cB, .slice (some ⟨gT, 0, none⟩) k.L cT], .int .i64 i, .int .i64 n] w (RefPost k (giveB k i n) (giveC k i n) gB cB gT cT w) := by
  by_cases hi : 0 ≤ i ∧ i < k.L
  · obtain ⟨j, rfl⟩ := Int.eq_ofNat_of_zero_le hi.1
    have hj : j < k.L := by omega
    by_cases hz : giveC k j n = 0
    · rw [hz]; exact refGive_ok gB cB gT cT k j n w h ho hj hz
    · rw [give_not hz, giveC_eq hj]
      split
      · next h1 =>
        by_cases h2 : n < 0
        · exact refGive_neg gB cB gT cT k j n w h hj ho.le h2
        · exact refGive_less gB cB gT cT k j n w h ho hj (by omega) (by omega)
      · next h1 => exact absurd ((giveC_zero hj).2 ⟨by omega, by omega⟩) hz
  · have e : giveC k i n = 4 := by simp only [giveC]; rw [if_pos hi]
    rw [give_not (by rw [e]; decide), e]
    exact refGive_none gB cB gT cT k i n w h hi ho.le
set_option maxRecDepth 100000 in
set_option maxHeartbeats 8000000 in
theorem plays_law (b0 o0 l0 c0 : Nat) (xs : List Int) (A1 : Option Addr) (l1 c1 : Nat) (ys : List Act) (w : World) (hx : xs.length = l0) (hc0 : ∀ j, j < l0 → w.cell? ⟨b0, o0 + j, none⟩ = some (.int .i64 (nth xs j))) (h1 : ActsAt w A1 l1 ys)
    (hl0 : 1 ≤ l0) (hl0' : l0 ≤ 16) (hl1 : l1 ≤ 300) (hok : newOk xs = true) :
    Calls Try.prog 3 #[.slice (some ⟨b0, o0, none⟩) l0 c0, .slice A1 l1 c1] w fun e w' => e = .returned (.bool true) ∧ Below w.heap.size w w' := by
  have haw := awake_any w
  have hb0 : b0 < w.heap.size := World.block_lt_of_cell? _ _ (hc0 0 (by omega))
  have H1 := Lib.hid h1
  have HK := Lib.hid hok
  have HX := Lib.hid hx
  have HC := Lib.hid hc0
  obtain ⟨i0, hi0, hz0, hz1, hz2⟩ := info_parts Try.infoInt
  clear h1 hok hx hc0
  go_enter Try.func3, Try.ntmps3
  go_wp2_with fail
  refine haw.mono ?_
  rintro e w1 ⟨rfl, hb1⟩
  go_wp2_with (at_builtin; refine wpList_append_own_at _ rfl (.tmp 27) (.tmp 28) 22 rfl w1.heap.size 3 i0 (.int .i64 0) 1 8 Try.underlying22 hi0 hz0 hz1 hz2 rfl (by decide) (.slice (some ⟨w1.heap.size, 0, none⟩) 0 0) 0 [] rfl ?o1 ⟨b0, o0, none⟩ l0 c0 (xs.map (Value.int .i64)) rfl ?o2 ?o3 ?o4 ?o5 ?o6 ?o7 ?_)
  case o1 =>
    have h := World.ownsRow_lit (base := w1.heap.size) (e := 3) (size := 1) w1 #[] 0 (by simp) (by decide) rfl
    simpa using h
  case o2 => simp [HX.out]
  case o3 =>
    intro t u ht
    have htl : t < l0 := by have := (List.getElem?_eq_some_iff.1 ht).1; simp at this; have := HX.out; omega
    rw [Go.WideShapes.add_plain, World.cell?_alloc_lt _ _ _ (by have := hb1.size; simp; omega), hb1.cell hb0, HC.out t htl]
    rw [List.getElem?_map, get_nth (by rw [HX.out]; exact htl)] at ht
    simpa using ht
  case o4 => exact ints_oneCell _ _
  case o5 => simp only [maxLen]; omega
  case o6 => omega
  case o7 => simp
  intro v1 w2 hown hgrow _ hat
  try simp only [Nat.zero_add, List.nil_append] at hown
  obtain ⟨g0, cp, rfl, hgb, hgs⟩ := hown.form (by omega)
  have hb2 : Below w.heap.size w w2 := Below.grown (hb1.alloc hb1.size _) hgrow (by have := hb1.size; simp; omega) (fun k hk => by simp [Value.ownBlock] at hk; have := hb1.size; omega)
  have hcz : ∀ t, t < l0 → w2.cell? ⟨g0, 0 + t, none⟩ = some (.int .i64 (nth xs t)) := fun t ht => by
    rw [Nat.zero_add, hown.cellAt t (by omega), List.getElem?_map, get_nth (by rw [HX.out]; exact ht)]; rfl
  have HZ := Lib.hid hcz
  clear hown hgrow hat hcz hb1 haw
  go_wp2_with fail
  refine (new_some g0 0 l0 cp w2 xs HX.out hl0 hl0' HZ.out).mono ?_
  rintro e w3 ⟨hb3, ⟨_, rfl, hB⟩ | ⟨hf, _⟩⟩
  case inr => rw [HK.out] at hf; cases hf
  have hb33 : Below w.heap.size w w3 := hb2.trans (hb3.mono hb2.size)
  have hg2 : w.heap.size ≤ w2.heap.size := hb2.size
  have hlt3 := hB.lt
  go_wp2_with fail
  refine (refNew_some b0 o0 l0 c0 w3 xs HX.out hl0 hl0' (fun j hj => (hb33.cell hb0).trans (HC.out j hj))).mono ?_
  rintro e w4 ⟨hb4, ⟨_, gB, cB, gT, cT, rfl, hR, _, _⟩ | ⟨hf, _⟩⟩
  case inr => rw [HK.out] at hf; cases hf
  have hI0 : Inv w (w4.alloc (.cells #[.slice (some ⟨gB, 0, none⟩) l0 cB, .slice (some ⟨gT, 0, none⟩) l0 cT] 30)) w4.heap.size w2.heap.size gB cB gT cT (newBook xs) := by
    have hb44 : Below w.heap.size w w4 := hb33.trans (hb4.mono hb33.size)
    have hL : (newBook xs).L = l0 := HX.out
    refine ⟨hb44.alloc hb44.size _, hb44.size, hg2, by rw [hL]; exact heap_alloc_new _ _, (hB.keep hb4).keep ((Below.refl _ _).alloc (Nat.le_refl _) _), hR.below ((Below.refl _ _).alloc (Nat.le_refl _) _), by rw [hL]; exact hl0⟩
  have HI0 := Lib.hid hI0
  have HL0 : Hid ((newBook xs).L = l0) := HX.out
  have hxl := HX.out
  subst hxl
  clear hb4 hb33 hb3 hb2 hB hR hI0 hlt3
  generalize w2.heap.size = g' at *
  generalize newBook xs = k0 at *
  go_wp2
  generalize w4.heap.size = N at *
  go_loopw [5, 9] (fun b i wr => ∃ (j : Nat) (g gT cT : Nat) (k : Book), j ≤ l1 ∧ i = .int .i64 j ∧ b = .pointer (some ⟨g, 0, none⟩) ∧ Inv w wr N g gB cB gT cT k ∧ k.L = xs.length) (fun _ i _ => l1 - (intOf i).toNat)
  case atStart => exact ⟨0, g', gT, cT, k0, Nat.zero_le _, rfl, rfl, HI0.out, HL0.out⟩
  case round =>
    clear HI0 HL0
    obtain ⟨j, g, gT, cT, k, hj, rfl, rfl, hI, hkL⟩ := hrel
    obtain ⟨wo, rfl⟩ : ∃ wo : World, wo = wr := ⟨_, rfl⟩
    have HKL := Lib.hid hkL
    clear hkL
    by_cases hlt : j < l1
    · obtain ⟨b1, o1, rfl, hc1⟩ := H1.out.cells (by omega)
      obtain ⟨q1, q2, q3⟩ := act_cells hI.below (hc1 j hlt) hlt
      have hj1 : (0 : Int) ≤ (j : Int) := by omega
      have hj2 : (j : Int) < (l1 : Int) := by omega
      have HNN : Hid (N < wo.heap.size) := lt_of_block hI.mem
      have hb1s : b1 < wo.heap.size := World.block_lt_of_cell? _ _ q1
      clear hc1
      generalize act ys j = ac at *
      obtain ⟨kd, lv, m⟩ := ac
      simp only at q1 q2 q3
      by_cases hk : kd = 0
      · subst hk
        have c1 := take_any g k lv m (wo.alloc (.cells #[.int .i64 0, .int .i64 lv, .int .i64 m] 34)) (hI.alloc _).bk
        have hA := heap_alloc_new wo (.cells #[.int .i64 0, .int .i64 lv, .int .i64 m] 34)
        have hI1 := hI.alloc (.cells #[.int .i64 0, .int .i64 lv, .int .i64 m] 34)
        have hgs : g < wo.heap.size := hI.bk.lt
        have HI1 := Lib.hid hI1
        have HA := Lib.hid hA
        clear hI1 hA hI
        go_wp2_with fail
        refine c1.mono ?_
        rintro e w3 ⟨rfl, hE3, hB3⟩
        have hH := HI1.out.half hE3 hB3
        have hA3 := hE3.heap HA.out (show ¬ wo.heap.size = g by omega)
        have HH := Lib.hid hH
        have a1 := cell_of_row w3 _ 1 _ _ _ hA3
        have a2 := cell_of_row w3 _ 2 _ _ _ hA3
        have a0 := cell_of_row w3 _ 0 _ _ _ hA3
        simp at a0 a1 a2
        obtain ⟨m1, m2, _, _⟩ := cells5 hH.mem
        have HA3 := Lib.hid hA3
        clear hE3 hB3 hH hA3 c1
        go_wp2_with fail
        refine (refTake_any gB cB gT cT k lv m w3 HH.out.rf HH.out.ok).mono ?_
        rintro e w4 ⟨hb4, gT3, cT3, rfl, hr4, _⟩
        have hI4 := HH.out.stored hb4 hr4 take_same.1
        have HI4 := Lib.hid hI4
        obtain ⟨m3, m4, m5, m6⟩ := cells5 ((hb4.block _ (lt_of_block HH.out.mem)).trans HH.out.mem)
        have hA4 := (hb4.block _ (lt_of_block HA3.out)).trans HA3.out
        have hNa : ¬ N = wo.heap.size := by have := HNN.out; omega
        have b0' := cell_of_row w4 _ 0 _ _ _ hA4
        simp at b0'
        have HLB : Hid ((takeB k lv m).L = k.L) := take_same.1
        clear hI4 hA4 m1 m2 a0 a1 a2 hb4 hr4
        have HLB' : Hid ((takeB k lv m).L = xs.length) := HLB.out.trans HKL.out
        generalize takeC k lv m = cd at *
        generalize takeB k lv m = k3 at *
        clear HLB
        have HLB := HLB'
        clear HLB'
        have hI := HI4.out
        go_wp2

        -- the round's second half: the program's book and the reference's are held against one another
        have HI := Lib.hid hI
        have hL16 := hI.bk.ok.le
        have hpos := hI.pos
        have HBD := Lib.hid (fun n => sumTo_bd hI.bk.ok n)
        clear hI
        go_loopw [14, 15] (fun t x wr => ∃ y : Nat, y ≤ k3.L ∧ x = .int .i64 y ∧ t = .int .i64 (sumTo k3.T y) ∧ Inv w wr N g gB cB gT3 cT3 k3) (fun _ x _ => k3.L - (intOf x).toNat)
        case atStart => exact ⟨0, Nat.zero_le _, rfl, rfl, HI.out⟩
        case round =>
          obtain ⟨y, hy, rfl, rfl, hIy⟩ := hrel
          have m0 := cells5 hIy.mem
          obtain ⟨m1, m2, _, _⟩ := m0
          have hbx := HBD.out y
          have hbx' := HBD.out (y + 1)
          by_cases hyl : y < k3.L
          · have c1 := fun m => taken_in g k3 y _ (hIy.drewN m).bk hyl
            have c3 := fun m => left_in g k3 y _ (hIy.drewN m).bk hyl
            have d1 := hIy.rf.cellB hIy.bk.ok y hyl
            have d2 := hIy.rf.cellT hIy.bk.ok y hyl
            obtain ⟨i1, i2, i3⟩ := hIy.bk.ok.inv y
            have HN3 : Hid (sumTo k3.T (y + 1) = sumTo k3.T y + nth k3.T y) := (rfl : sumTo k3.T (y + 1) = sumTo k3.T y + nth k3.T y)
            rw [HN3.out] at hbx'
            have hq4 : (0 : Int) ≤ (y : Int) := by omega
            have hq5 : (y : Int) < (k3.L : Int) := by omega
            have HW := Lib.hid (fun m => hIy.drewN m)
            clear hIy
            generalize nth k3.T y = tx at *
            generalize nth k3.B y = bx at *
            generalize hsx : sumTo k3.T y = sx at *
            have HSX := Lib.hid hsx
            clear hsx
            go_wp2
            go_quiet ((first | (go_at_call 15; with_reducible exact quietly (c1 _)) | (go_at_call 16; with_reducible exact quietly2 (c3 _))))
            go_wp2
            go_roundw
            case rel => exact ⟨y + 1, by omega, by go_num, by rw [HN3.out], HW.out _⟩
            case measure => simp [intOf]; omega
          · obtain rfl : y = k3.L := by omega
            have t2 := total_any g k3 wr hIy.bk
            have t3 := taken_out g k3 (-1) wr hIy.bk (by omega)
            have t4 := left_out g k3 (k3.L : Int) wr hIy.bk (by omega)
            have HI2 := Lib.hid hIy
            clear hIy hbx' HBD HI
            generalize sumTo k3.T k3.L = s3 at *
            go_wp2_with (first | (go_at_call 17; (with_reducible refine t2.mono ?_); rintro e w4 ⟨rfl, rfl⟩) | (go_at_call 15; (with_reducible refine t3.mono ?_); rintro e w4 ⟨rfl, rfl⟩) | (go_at_call 16; (with_reducible refine t4.mono ?_); rintro e w4 ⟨rfl, rfl⟩))
            go_roundw
            case rel => exact ⟨j + 1, g, gT3, cT3, k3, by omega, by go_num, rfl, HI2.out, HLB.out⟩
            case measure => simp [intOf]; omega
      · by_cases hk1 : kd = 1
        · subst hk1
          clear hk
          have c1 := give_any g k lv m (wo.alloc (.cells #[.int .i64 1, .int .i64 lv, .int .i64 m] 34)) (hI.alloc _).bk
          have hA := heap_alloc_new wo (.cells #[.int .i64 1, .int .i64 lv, .int .i64 m] 34)
          have hI1 := hI.alloc (.cells #[.int .i64 1, .int .i64 lv, .int .i64 m] 34)
          have hgs : g < wo.heap.size := hI.bk.lt
          have HI1 := Lib.hid hI1
          have HA := Lib.hid hA
          clear hI1 hA hI
          go_wp2_with fail
          refine c1.mono ?_
          rintro e w3 ⟨rfl, hE3, hB3⟩
          have hH := HI1.out.half hE3 hB3
          have hA3 := hE3.heap HA.out (show ¬ wo.heap.size = g by omega)
          have HH := Lib.hid hH
          have a1 := cell_of_row w3 _ 1 _ _ _ hA3
          have a2 := cell_of_row w3 _ 2 _ _ _ hA3
          have a0 := cell_of_row w3 _ 0 _ _ _ hA3
          simp at a0 a1 a2
          obtain ⟨m1, m2, _, _⟩ := cells5 hH.mem
          have HA3 := Lib.hid hA3
          clear hE3 hB3 hH hA3 c1
          go_wp2_with fail
          refine (refGive_any gB cB gT cT k lv m w3 HH.out.rf HH.out.ok).mono ?_
          rintro e w4 ⟨hb4, gT3, cT3, rfl, hr4, _⟩
          have hI4 := HH.out.stored hb4 hr4 give_same.1
          have HI4 := Lib.hid hI4
          obtain ⟨m3, m4, m5, m6⟩ := cells5 ((hb4.block _ (lt_of_block HH.out.mem)).trans HH.out.mem)
          have hA4 := (hb4.block _ (lt_of_block HA3.out)).trans HA3.out
          have hNa : ¬ N = wo.heap.size := by have := HNN.out; omega
          have b0' := cell_of_row w4 _ 0 _ _ _ hA4
          simp at b0'
          have HLB : Hid ((giveB k lv m).L = k.L) := give_same.1
          clear hI4 hA4 m1 m2 a0 a1 a2 hb4 hr4
          have HLB' : Hid ((giveB k lv m).L = xs.length) := HLB.out.trans HKL.out
          generalize giveC k lv m = cd at *
          generalize giveB k lv m = k3 at *
          clear HLB
          have HLB := HLB'
          clear HLB'
          have hI := HI4.out
          go_wp2

          -- the round's second half: the program's book and the reference's are held against one another
          have HI := Lib.hid hI
          have hL16 := hI.bk.ok.le
          have hpos := hI.pos
          have HBD := Lib.hid (fun n => sumTo_bd hI.bk.ok n)
          clear hI
          go_loopw [14, 15] (fun t x wr => ∃ y : Nat, y ≤ k3.L ∧ x = .int .i64 y ∧ t = .int .i64 (sumTo k3.T y) ∧ Inv w wr N g gB cB gT3 cT3 k3) (fun _ x _ => k3.L - (intOf x).toNat)
          case atStart => exact ⟨0, Nat.zero_le _, rfl, rfl, HI.out⟩
          case round =>
            obtain ⟨y, hy, rfl, rfl, hIy⟩ := hrel
            have m0 := cells5 hIy.mem
            obtain ⟨m1, m2, _, _⟩ := m0
            have hbx := HBD.out y
            have hbx' := HBD.out (y + 1)
            by_cases hyl : y < k3.L
            · have c1 := fun m => taken_in g k3 y _ (hIy.drewN m).bk hyl
              have c3 := fun m => left_in g k3 y _ (hIy.drewN m).bk hyl
              have d1 := hIy.rf.cellB hIy.bk.ok y hyl
              have d2 := hIy.rf.cellT hIy.bk.ok y hyl
              obtain ⟨i1, i2, i3⟩ := hIy.bk.ok.inv y
              have HN3 : Hid (sumTo k3.T (y + 1) = sumTo k3.T y + nth k3.T y) := (rfl : sumTo k3.T (y + 1) = sumTo k3.T y + nth k3.T y)
              rw [HN3.out] at hbx'
              have hq4 : (0 : Int) ≤ (y : Int) := by omega
              have hq5 : (y : Int) < (k3.L : Int) := by omega
              have HW := Lib.hid (fun m => hIy.drewN m)
              clear hIy
              generalize nth k3.T y = tx at *
              generalize nth k3.B y = bx at *
              generalize hsx : sumTo k3.T y = sx at *
              have HSX := Lib.hid hsx
              clear hsx
              go_wp2
              go_quiet ((first | (go_at_call 15; with_reducible exact quietly (c1 _)) | (go_at_call 16; with_reducible exact quietly2 (c3 _))))
              go_wp2
              go_roundw
              case rel => exact ⟨y + 1, by omega, by go_num, by rw [HN3.out], HW.out _⟩
              case measure => simp [intOf]; omega
            · obtain rfl : y = k3.L := by omega
              have t2 := total_any g k3 wr hIy.bk
              have t3 := taken_out g k3 (-1) wr hIy.bk (by omega)
              have t4 := left_out g k3 (k3.L : Int) wr hIy.bk (by omega)
              have HI2 := Lib.hid hIy
              clear hIy hbx' HBD HI
              generalize sumTo k3.T k3.L = s3 at *
              go_wp2_with (first | (go_at_call 17; (with_reducible refine t2.mono ?_); rintro e w4 ⟨rfl, rfl⟩) | (go_at_call 15; (with_reducible refine t3.mono ?_); rintro e w4 ⟨rfl, rfl⟩) | (go_at_call 16; (with_reducible refine t4.mono ?_); rintro e w4 ⟨rfl, rfl⟩))
              go_roundw
              case rel => exact ⟨j + 1, g, gT3, cT3, k3, by omega, by go_num, rfl, HI2.out, HLB.out⟩
              case measure => simp [intOf]; omega
        · by_cases hk2 : kd = 2
          · subst hk2
            clear hk hk1
            have hI1 := hI.alloc (.cells #[.int .i64 2, .int .i64 lv, .int .i64 m] 34)
            have c1 := copy_any g k (wo.alloc (.cells #[.int .i64 2, .int .i64 lv, .int .i64 m] 34)) hI1.bk
            have HI1 := Lib.hid hI1
            clear hI1 hI
            go_wp2_with fail
            refine c1.mono ?_
            rintro e w3 ⟨rfl, hb3, hB3⟩
            have h4 := (HI1.out.keep hb3).bk
            go_wp2_with fail
            refine (take_any g k 0 1 w3 h4).mono ?_
            rintro e w4 ⟨rfl, hE4, hB4⟩
            have hI := HI1.out.copied hb3 hB3 hE4 hB4
            have HLB := HKL
            obtain ⟨gT3, hgT⟩ : ∃ t, t = gT := ⟨_, rfl⟩
            obtain ⟨cT3, hcT⟩ : ∃ t, t = cT := ⟨_, rfl⟩
            obtain ⟨k3, hk3⟩ : ∃ t, t = k := ⟨_, rfl⟩
            subst hgT hcT hk3
            clear c1 hb3 hB3 h4 hE4 hB4 HI1
            have hcz : ((0 : Int) != 0) = false := rfl
            clear hcz
            simp only [World.size_alloc] at hI
            obtain ⟨G, hG⟩ : ∃ t, t = wo.heap.size + 1 := ⟨_, rfl⟩
            have HG := Lib.hid hG
            rw [← hG] at hI
            clear hG
            go_wp2
            rw [← HG.out]

            -- the round's second half: the program's book and the reference's are held against one another
            have HI := Lib.hid hI
            have hL16 := hI.bk.ok.le
            have hpos := hI.pos
            have HBD := Lib.hid (fun n => sumTo_bd hI.bk.ok n)
            clear hI
            go_loopw [14, 15] (fun t x wr => ∃ y : Nat, y ≤ k3.L ∧ x = .int .i64 y ∧ t = .int .i64 (sumTo k3.T y) ∧ Inv w wr N G gB cB gT3 cT3 k3) (fun _ x _ => k3.L - (intOf x).toNat)
            case atStart => exact ⟨0, Nat.zero_le _, rfl, rfl, HI.out⟩
            case round =>
              obtain ⟨y, hy, rfl, rfl, hIy⟩ := hrel
              have m0 := cells5 hIy.mem
              obtain ⟨m1, m2, _, _⟩ := m0
              have hbx := HBD.out y
              have hbx' := HBD.out (y + 1)
              by_cases hyl : y < k3.L
              · have c1 := fun m => taken_in G k3 y _ (hIy.drewN m).bk hyl
                have c3 := fun m => left_in G k3 y _ (hIy.drewN m).bk hyl
                have d1 := hIy.rf.cellB hIy.bk.ok y hyl
                have d2 := hIy.rf.cellT hIy.bk.ok y hyl
                obtain ⟨i1, i2, i3⟩ := hIy.bk.ok.inv y
                have HN3 : Hid (sumTo k3.T (y + 1) = sumTo k3.T y + nth k3.T y) := (rfl : sumTo k3.T (y + 1) = sumTo k3.T y + nth k3.T y)
                rw [HN3.out] at hbx'
                have hq4 : (0 : Int) ≤ (y : Int) := by omega
                have hq5 : (y : Int) < (k3.L : Int) := by omega
                have HW := Lib.hid (fun m => hIy.drewN m)
                clear hIy
                generalize nth k3.T y = tx at *
                generalize nth k3.B y = bx at *
                generalize hsx : sumTo k3.T y = sx at *
                have HSX := Lib.hid hsx
                clear hsx
                go_wp2
                go_quiet ((first | (go_at_call 15; with_reducible exact quietly (c1 _)) | (go_at_call 16; with_reducible exact quietly2 (c3 _))))
                go_wp2
                go_roundw
                case rel => exact ⟨y + 1, by omega, by go_num, by rw [HN3.out], HW.out _⟩
                case measure => simp [intOf]; omega
              · obtain rfl : y = k3.L := by omega
                have t2 := total_any G k3 wr hIy.bk
                have t3 := taken_out G k3 (-1) wr hIy.bk (by omega)
                have t4 := left_out G k3 (k3.L : Int) wr hIy.bk (by omega)
                have HI2 := Lib.hid hIy
                clear hIy hbx' HBD HI
                generalize sumTo k3.T k3.L = s3 at *
                go_wp2_with (first | (go_at_call 17; (with_reducible refine t2.mono ?_); rintro e w4 ⟨rfl, rfl⟩) | (go_at_call 15; (with_reducible refine t3.mono ?_); rintro e w4 ⟨rfl, rfl⟩) | (go_at_call 16; (with_reducible refine t4.mono ?_); rintro e w4 ⟨rfl, rfl⟩))
                go_roundw
                case rel => exact ⟨j + 1, G, gT3, cT3, k3, by omega, by go_num, rfl, HI2.out, HLB.out⟩
                case measure => simp [intOf]; omega
          · have hkk : (kd == 0) = false := by simp [hk]
            have hkk1 : (kd == 1) = false := by simp [hk1]
            have hkk2 : (kd == 2) = false := by simp [hk2]
            clear hk hk1 hk2
            have hI1 := hI.alloc (.cells #[.int .i64 kd, .int .i64 lv, .int .i64 m] 34)
            clear hI
            have hI := hI1
            clear hI1
            have HLB := HKL
            obtain ⟨gT3, hgT⟩ : ∃ t, t = gT := ⟨_, rfl⟩
            obtain ⟨cT3, hcT⟩ : ∃ t, t = cT := ⟨_, rfl⟩
            obtain ⟨k3, hk3⟩ : ∃ t, t = k := ⟨_, rfl⟩
            subst hgT hcT hk3
            go_wp2

            -- the round's second half: the program's book and the reference's are held against one another
            have HI := Lib.hid hI
            have hL16 := hI.bk.ok.le
            have hpos := hI.pos
            have HBD := Lib.hid (fun n => sumTo_bd hI.bk.ok n)
            clear hI
            go_loopw [14, 15] (fun t x wr => ∃ y : Nat, y ≤ k3.L ∧ x = .int .i64 y ∧ t = .int .i64 (sumTo k3.T y) ∧ Inv w wr N g gB cB gT3 cT3 k3) (fun _ x _ => k3.L - (intOf x).toNat)
            case atStart => exact ⟨0, Nat.zero_le _, rfl, rfl, HI.out⟩
            case round =>
              obtain ⟨y, hy, rfl, rfl, hIy⟩ := hrel
              have m0 := cells5 hIy.mem
              obtain ⟨m1, m2, _, _⟩ := m0
              have hbx := HBD.out y
              have hbx' := HBD.out (y + 1)
              by_cases hyl : y < k3.L
              · have c1 := fun m => taken_in g k3 y _ (hIy.drewN m).bk hyl
                have c3 := fun m => left_in g k3 y _ (hIy.drewN m).bk hyl
                have d1 := hIy.rf.cellB hIy.bk.ok y hyl
                have d2 := hIy.rf.cellT hIy.bk.ok y hyl
                obtain ⟨i1, i2, i3⟩ := hIy.bk.ok.inv y
                have HN3 : Hid (sumTo k3.T (y + 1) = sumTo k3.T y + nth k3.T y) := (rfl : sumTo k3.T (y + 1) = sumTo k3.T y + nth k3.T y)
                rw [HN3.out] at hbx'
                have hq4 : (0 : Int) ≤ (y : Int) := by omega
                have hq5 : (y : Int) < (k3.L : Int) := by omega
                have HW := Lib.hid (fun m => hIy.drewN m)
                clear hIy
                generalize nth k3.T y = tx at *
                generalize nth k3.B y = bx at *
                generalize hsx : sumTo k3.T y = sx at *
                have HSX := Lib.hid hsx
                clear hsx
                go_wp2
                go_quiet ((first | (go_at_call 15; with_reducible exact quietly (c1 _)) | (go_at_call 16; with_reducible exact quietly2 (c3 _))))
                go_wp2
                go_roundw
                case rel => exact ⟨y + 1, by omega, by go_num, by rw [HN3.out], HW.out _⟩
                case measure => simp [intOf]; omega
              · obtain rfl : y = k3.L := by omega
                have t2 := total_any g k3 wr hIy.bk
                have t3 := taken_out g k3 (-1) wr hIy.bk (by omega)
                have t4 := left_out g k3 (k3.L : Int) wr hIy.bk (by omega)
                have HI2 := Lib.hid hIy
                clear hIy hbx' HBD HI
                generalize sumTo k3.T k3.L = s3 at *
                go_wp2_with (first | (go_at_call 17; (with_reducible refine t2.mono ?_); rintro e w4 ⟨rfl, rfl⟩) | (go_at_call 15; (with_reducible refine t3.mono ?_); rintro e w4 ⟨rfl, rfl⟩) | (go_at_call 16; (with_reducible refine t4.mono ?_); rintro e w4 ⟨rfl, rfl⟩))
                go_roundw
                case rel => exact ⟨j + 1, g, gT3, cT3, k3, by omega, by go_num, rfl, HI2.out, HLB.out⟩
                case measure => simp [intOf]; omega
    · obtain rfl : j = l1 := by omega
      have hb := hI.below
      clear hI
      go_wp2
      go_ret
      exact ⟨rfl, hb⟩
end Go.Proofs.Ytoekcknppphnjaa
