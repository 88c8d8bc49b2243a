/- Package sector's law folder: SectorTorn's walk. -/
import Derived.Test.YtolkofnlihbncaaSectorI
set_option linter.unusedVariables false
set_option linter.unusedSimpArgs false
namespace Go.Proofs.Ytolkofnlihbncaa
open Go.RowKit
/-- What holds of the world: the cut's variable (block C), the disk (g, D), the sectors that are kept (B). -/
structure TE (w wr : World) (g D B C : Nat) (a t : Int) (k : Dk) (f : Nat → List UInt8) (j : Nat) : Prop where
  below : Below w.heap.size w wr
  cut : wr.heap[C]? = some (.cells #[.int .i64 a, .int .i64 t] 24 (0, 0))
  dk : DkAt wr g D (8 * 64) [] k
  kept : Kept wr B (fun i => ⟨(f i).toArray⟩) j
theorem TE.keep {w wr w' : World} {g D B C : Nat} {a t : Int} {k : Dk} {f : Nat → List UInt8} {j : Nat} (h : TE w wr g D B C a t k f j) (hb : Below wr.heap.size wr w') : TE w w' g D B C a t k f j :=
  ⟨h.below.trans (hb.mono h.below.size), (hb.block _ (lt_of_block h.cut)).trans h.cut, h.dk.below hb, h.kept.eff (Eff.of_below hb (fun _ => False)) id⟩
theorem TE.turn {w wr w' : World} {g D B C : Nat} {a t : Int} {k k' : Dk} {f : Nat → List UInt8} {j : Nat} (h : TE w wr g D B C a t k f j) (he : Eff (fun b => b = g ∨ b = D) wr w') (hk : DkAt w' g D (8 * 64) [] k')
    (hg : w.heap.size ≤ g) (hD : w.heap.size ≤ D) (h1 : C ≠ g) (h2 : C ≠ D) (h3 : B ≠ g) (h4 : B ≠ D) : TE w w' g D B C a t k' f j :=
  ⟨dk_below h.below he hg hD, he.heap h.cut (fun e => by rcases e with e | e; exact h1 e; exact h2 e), hk, h.kept.eff he (fun e => by rcases e with e | e; exact h3 e; exact h4 e)⟩
theorem cells7 {w : World} {N : Nat} {T : TypeId} {a b : Value} (h : w.heap[N]? = some (.cells #[a, b] T (0, 0))) :
    w.cell? ⟨N, 0, none⟩ = some a ∧ w.cell? ⟨N, 1, none⟩ = some b ∧ w.frozen? ⟨N, 0, none⟩ = false ∧ w.frozen? ⟨N, 1, none⟩ = false := by
  refine ⟨?_, ?_, frozen_of_row _ _ _ _ _ h, frozen_of_row _ _ _ _ _ h⟩
  · rw [cell_of_row _ _ _ _ _ _ h]; rfl
  · rw [cell_of_row _ _ _ _ _ _ h]; rfl
theorem full_step (l : List UInt8) (y n : Nat) (h : n ≤ y) : (⟨(l ++ zeros (y + 1 - n)).toArray⟩ : ByteArray) = (⟨(l ++ zeros (y - n)).toArray⟩ : ByteArray) ++ (⟨#[0]⟩ : ByteArray) := by
  apply ByteArray.ext
  apply Array.ext'
  rw [show y + 1 - n = (y - n) + 1 by omega]
  simp [zeros, List.replicate_succ']
theorem ex_all (y : List UInt8) (h : y.length = 64) : (⟨y.toArray⟩ : ByteArray).extract 0 64 = ⟨y.toArray⟩ := by
  apply ByteArray.ext
  apply Array.ext'
  simp [← h]
theorem ex_cat (y z : List UInt8) (n : Nat) (h : z.length = 64) : (⟨y.toArray⟩ : ByteArray).extract 0 n ++ (⟨z.toArray⟩ : ByteArray).extract n 64 = ⟨(y.take n ++ z.drop n).toArray⟩ := by
  apply ByteArray.ext
  apply Array.ext'
  simp
  rw [List.take_of_length_le (l := z.drop n) (by rw [List.length_drop]; omega)]
set_option maxRecDepth 100000 in
set_option maxHeartbeats 8000000 in
theorem torn_law (A : Option Addr) (l c : Nat) (ys : List Act) (a t : Int) (w : World) (h1 : ActsAt w A l ys) (hf : Fewish ys) (wa : -9223372036854775808 ≤ t ∧ t ≤ 9223372036854775807) :
    Calls Try.prog 3 #[.slice A l c, .agg #[.int .i64 a, .int .i64 t]] w fun e w' => e = .returned (.bool true) ∧ Below w.heap.size w w' := by
  have hl : l ≤ 200 := by rw [← h1.len]; exact hf.1
  have H1 := Lib.hid h1
  have HF := Lib.hid hf
  obtain ⟨wa1, wa2⟩ := wa
  clear h1 hf
  go_enter Try.func3, Try.ntmps3
  go_wp2_with fail
  refine (awake_any (w.alloc (.cells #[.int .i64 a, .int .i64 t] 24))).mono ?_
  rintro e w1 ⟨rfl, hb1⟩
  have hm1 : w1.heap[w.heap.size]? = some (.cells #[.int .i64 a, .int .i64 t] 24 (0, 0)) := (hb1.block _ (by simp)).trans (heap_alloc_new _ _)
  have HB : Hid (Below w.heap.size w w1) := ((Below.refl _ w).alloc (Nat.le_refl _) _).trans (hb1.mono (by simp))
  have hs1 : w.heap.size < w1.heap.size := lt_of_block hm1
  clear hb1
  go_wp2_with fail
  refine (few_true A l c ys w1 (H1.out.below HB.out) HF.out).mono ?_
  rintro e _ ⟨rfl, rfl⟩
  go_wp2_with fail
  refine (new_in 8 w1 (by decide) (by decide)).mono ?_
  rintro e w2 ⟨rfl, hb2, hk⟩
  have hm2 := (hb2.block _ hs1).trans hm1
  replace HB : Hid (Below w.heap.size w w2) := HB.out.trans (hb2.mono (by omega))
  obtain ⟨g, hg⟩ : ∃ g, g = w1.heap.size + 1 := ⟨_, rfl⟩
  rw [← hg] at hk ⊢
  have hg2 : g < w2.heap.size := lt_of_block hk.mem
  have hD2 : w1.heap.size < w2.heap.size := lt_of_block hk.dat
  have hDw : w.heap.size ≤ w1.heap.size := by omega
  have hgw : w.heap.size ≤ g := by omega
  have HN : Hid (w.heap.size ≠ g ∧ w.heap.size ≠ w1.heap.size ∧ w2.heap.size ≠ g ∧ w2.heap.size ≠ w1.heap.size ∧ w.heap.size ≠ w2.heap.size) := ⟨by omega, by omega, by omega, by omega, by omega⟩
  have hBw : w.heap.size ≤ w2.heap.size := HB.out.size
  have HI0 : Hid (TornI a t 0 (fun i => sec (newK 8) i) (armK (newK 8) a t) (-1) ⟨#[]⟩) := by
    refine ⟨rfl, ⟨hk.ok.n1, hk.ok.n2, hk.ok.len⟩, fun i hi => sec_len hk.ok hi, ⟨Int.le_refl _, Int.le_refl _⟩, ⟨Int.le_refl _, Int.le_refl _⟩, .inl ⟨rfl, rfl, rfl, rfl, ?_, fun i _ => rfl⟩⟩
    show (if a < 1 then (0 : Int) else a) = 0 ∨ (0 : Int) < (if a < 1 then 0 else a)
    split
    · exact .inl rfl
    · exact .inr (by omega)
  have HT0 : Hid (TE w (w2.alloc (.cells #[.string ⟨#[]⟩, .string ⟨#[]⟩, .string ⟨#[]⟩, .string ⟨#[]⟩, .string ⟨#[]⟩, .string ⟨#[]⟩, .string ⟨#[]⟩, .string ⟨#[]⟩] 31)) g w1.heap.size w2.heap.size w.heap.size a t (newK 8) (fun i => sec (newK 8) i) 0) :=
    ⟨HB.out.alloc HB.out.size _, (Below.heap_alloc _ _ _ (by omega)).trans hm2, hk.below ((Below.refl _ _).alloc (Nat.le_refl _) _), _, rfl, heap_alloc_new _ _, fun i hi => absurd hi (by omega)⟩
  have hknew : (newK 8).n = 8 ∧ (newK 8).down = false := ⟨rfl, rfl⟩
  have HKN := Lib.hid hknew
  generalize newK 8 = k0 at *
  clear hm1 hm2 hb2 hk HB hg hknew
  go_wp2
  generalize w1.heap.size = D at *
  generalize w2.heap.size = B at *
  go_loopw [8] (fun i wr => ∃ x : Nat, x ≤ 8 ∧ i = .int .i64 x ∧ TE w wr g D B w.heap.size a t k0 (fun i => sec k0 i) x) (fun i _ => 8 - (intOf i).toNat)
  case atStart => exact ⟨0, by decide, rfl, HT0.out⟩
  case round =>
    clear HT0
    obtain ⟨x, hx, rfl, hte⟩ := hrel
    by_cases hxl : x < 8
    · have c1 := read_in g D (8 * 64) [] k0 x wr hte.dk HKN.out.2 (by rw [HKN.out.1]; exact hxl)
      obtain ⟨v0, hv0⟩ := hte.kept.some hxl
      have hfr := hte.kept.free x
      have hx1 : (0 : Int) ≤ (x : Int) := by omega
      have hx2 : (x : Int) < 8 := by omega
      have HS : Hid (TE w (wr.setCell ⟨B, x, none⟩ (.string ⟨(sec k0 x).toArray⟩)) g D B w.heap.size a t k0 (fun i => sec k0 i) (x + 1)) :=
        ⟨hte.below.setCell hBw _, (Eff.setAt (Eff.refl (· = B) _) x _).heap hte.cut HN.out.2.2.2.2, hte.dk.keep (Eff.setAt (Eff.refl (· = B) _) x _) (fun e => HN.out.2.2.1 e.symm) (fun e => HN.out.2.2.2.1 e.symm), hte.kept.store hxl⟩
      clear hte
      generalize (⟨(sec k0 x).toArray⟩ : ByteArray) = sx at *
      go_wp2_with (go_at_call 10; refine c1.mono ?_; rintro e w4 ⟨rfl, rfl⟩)
      go_roundw
      case rel => exact ⟨x + 1, by omega, by go_num, HS.out⟩
      case measure => simp [intOf]; omega
    · obtain rfl : x = 8 := by omega
      obtain ⟨q0, q1, _, _⟩ := cells7 hte.cut
      have c1 := arm_any g D (8 * 64) [] k0 a t wr hte.dk
      have HT := Lib.hid hte
      clear hte
      go_wp2_with fail
      refine c1.mono ?_
      rintro e w3 ⟨rfl, hE3, hk3⟩
      have HT3 : Hid (TE w w3 g D B w.heap.size a t (armK k0 a t) (fun i => sec k0 i) 8) := HT.out.turn (hE3.mono (fun _ _ e => .inl e)) hk3 hgw hDw HN.out.1 HN.out.2.1 HN.out.2.2.1 HN.out.2.2.2.1
      clear c1 hE3 hk3 HT q0 q1
      generalize armK k0 a t = k1 at *
      generalize (fun i => sec k0 i) = f0 at *
      go_wp2
      go_loopw [9, 10, 11] (fun tr wt i wr => ∃ (j : Nat) (k : Dk) (f : Nat → List UInt8) (trn : Int) (want : ByteArray), j ≤ l ∧ i = .int .i64 j ∧ tr = .int .i64 trn ∧ wt = .string want ∧ TE w wr g D B w.heap.size a t k f 8 ∧ TornI a t j f k trn want) (fun _ _ i _ => l - (intOf i).toNat)
      case atStart => exact ⟨0, k1, f0, -1, ⟨#[]⟩, Nat.zero_le _, rfl, rfl, rfl, HT3.out, HI0.out⟩
      case round =>
        clear HT3 HI0 HKN
        obtain ⟨j, k, f, trn, want, hj, rfl, rfl, rfl, hte, hti⟩ := hrel
        have HTI := Lib.hid hti
        clear hti
        obtain ⟨wo, rfl⟩ : ∃ wo : World, wo = wr := ⟨_, rfl⟩
        by_cases hlt : j < l
        · obtain ⟨b1, o1, rfl, hc1⟩ := H1.out.cells (by omega)
          obtain ⟨q1, q2, q3, q4, q5⟩ := act_cells hte.below (hc1 j hlt)
          have hsz := (hc1 j hlt).1.s
          have hj1 : (0 : Int) ≤ (j : Int) := by omega
          have hj2 : (j : Int) < (l : Int) := by omega
          clear hc1
          generalize act ys j = ac at *
          obtain ⟨kd, at0, dd, ca, ct⟩ := ac
          simp only at q1 q2 q3 q4 q5 hsz
          obtain ⟨A5, hA5⟩ : ∃ A5 : Obj, A5 = .cells #[.int .i64 kd, .int .i64 at0, .string dd, .int .i64 ca, .int .i64 ct] 36 := ⟨_, rfl⟩
          have HTE : Hid (TE w (wo.alloc (.cells #[.int .i64 kd, .int .i64 at0, .string dd, .int .i64 ca, .int .i64 ct] 36)) g D B w.heap.size a t k f 8) := hte.keep ((Below.refl _ _).alloc (Nat.le_refl _) _)
          have HA : Hid ((wo.alloc (.cells #[.int .i64 kd, .int .i64 at0, .string dd, .int .i64 ca, .int .i64 ct] 36)).heap[wo.heap.size]? = some (.cells #[.int .i64 kd, .int .i64 at0, .string dd, .int .i64 ca, .int .i64 ct] 36 (0, 0))) := heap_alloc_new _ _
          have hgo : g < wo.heap.size := lt_of_block hte.dk.mem
          have hDo : D < wo.heap.size := lt_of_block hte.dk.dat
          have hBo : B < wo.heap.size := World.block_lt_of_cell? _ _ (hte.kept.cell (i := 0) (by decide))
          clear hte hA5 A5
          by_cases hv : 0 ≤ at0 ∧ at0 < 8 ∧ dd.size ≤ 64
          · obtain ⟨hv1, hv2, hv3⟩ := hv
            obtain ⟨x, rfl⟩ := Int.eq_ofNat_of_zero_le hv1
            have hx : x < 8 := by omega
            have hdl : dd.data.toList.length = dd.size := by rw [Array.length_toList]; rfl
            cases hd : k.down with
            | true =>
              have c1 := write_no g (x : Int) dd 6 (wo.alloc (.cells #[.int .i64 kd, .int .i64 (x : Int), .string dd, .int .i64 ca, .int .i64 ct] 36)) rfl (place_down g D (8 * 64) [] k (x : Int) _ HTE.out.dk hd)
              have htr : 0 ≤ trn := by rcases HTI.out.st with h | ⟨_, z, _, h, _⟩; rw [hd] at h; cases h.1; omega
              have HD := Lib.hid hd
              clear hd
              have a1 := cell_of_row _ _ 1 _ _ _ HA.out
              have a2 := cell_of_row _ _ 2 _ _ _ HA.out
              simp at a1 a2
              go_wp2_with fail
              refine c1.mono ?_
              rintro e _ ⟨rfl, rfl⟩
              clear c1
              go_wp2
              go_loop [14] (fun fs => ∃ y : Nat, dd.size ≤ y ∧ y ≤ 64 ∧ fs = .string ⟨(dd.data.toList ++ zeros (y - dd.size)).toArray⟩) (fun fs => 64 - (match fs with | .string z => z.size | _ => 0))
              case atStart => exact ⟨dd.size, Nat.le_refl _, hv3, by rw [Nat.sub_self]; show Value.string dd = _; congr 1; simp [zeros]⟩
              case round =>
                obtain ⟨y, hy1, hy2, rfl⟩ := hrel
                have hys : (⟨(dd.data.toList ++ zeros (y - dd.size)).toArray⟩ : ByteArray).size = y := by show (dd.data.toList ++ zeros (y - dd.size)).toArray.size = y; rw [List.size_toArray, List.length_append, hdl, zeros_len]; omega
                have HST := Lib.hid (full_step dd.data.toList y dd.size hy1)
                by_cases hyl : y < 64
                · have hy1s : (⟨(dd.data.toList ++ zeros (y + 1 - dd.size)).toArray⟩ : ByteArray).size = y + 1 := by show (dd.data.toList ++ zeros (y + 1 - dd.size)).toArray.size = y + 1; rw [List.size_toArray, List.length_append, hdl, zeros_len]; omega
                  have HY := Lib.hid hy1s
                  clear hy1s
                  generalize (⟨(dd.data.toList ++ zeros (y - dd.size)).toArray⟩ : ByteArray) = fy at *
                  go_wp2
                  go_round
                  case rel => exact ⟨y + 1, by omega, by omega, by rw [HST.out]⟩
                  case measure => rw [← HST.out]; simp [HY.out, hys]; omega
                · obtain rfl : y = 64 := by omega
                  have HFL : Hid ((⟨(dd.data.toList ++ zeros (64 - dd.size)).toArray⟩ : ByteArray) = ⟨(fill dd.data.toList).toArray⟩) := by unfold Hid fill; rw [hdl]; rfl
                  rw [HFL.out] at hys ⊢
                  clear HST
                  generalize hfy : (⟨(fill dd.data.toList).toArray⟩ : ByteArray) = fy at *
                  have HFY := Lib.hid hfy
                  clear hfy HFL
                  go_wp2
                  go_roundw
                  case rel => exact ⟨j + 1, k, f, trn, want, by omega, by go_num, rfl, rfl, HTE.out, HTI.out.mono⟩
                  case measure => simp [intOf]; omega
            | false =>
              by_cases hcut : k.cut = k.since + 1
              · have c1 := write_in g D (8 * 64) [] k x dd (wo.alloc (.cells #[.int .i64 kd, .int .i64 (x : Int), .string dd, .int .i64 ca, .int .i64 ct] 36)) HTE.out.dk hd (by rw [HTI.out.n]; exact hx) hv3 HTI.out.since.1 (by have := HTI.out.since; omega) HTI.out.all.1 (by have := HTI.out.all; omega)
                rw [wroteC_hit hcut] at c1
                have HTI2 : Hid (TornI a t (j + 1) f (wroteK k x dd.data.toList) (x : Int) ⟨(fill dd.data.toList).toArray⟩) := HTI.out.hit hd hcut hx (by omega)
                have htr : trn = -1 := by rcases HTI.out.st with h | h; exact h.2.1; rw [hd] at h; cases h.1
                subst htr
                generalize wroteK k x dd.data.toList = k2 at *
                clear hd hcut
                go_wp2_with fail
                refine c1.mono ?_
                rintro e w3 ⟨rfl, hE3, hk3⟩
                have ht3 := HTE.out.turn hE3 hk3 hgw hDw HN.out.1 HN.out.2.1 HN.out.2.2.1 HN.out.2.2.2.1
                have hA3 := hE3.heap HA.out (show ¬ (wo.heap.size = g ∨ wo.heap.size = D) by omega)
                have a1 := cell_of_row w3 _ 1 _ _ _ hA3
                have a2 := cell_of_row w3 _ 2 _ _ _ hA3
                simp at a1 a2
                have HUP := Lib.hid ht3
                clear c1 hE3 hk3 ht3 hA3
                go_wp2
                go_loop [14] (fun fs => ∃ y : Nat, dd.size ≤ y ∧ y ≤ 64 ∧ fs = .string ⟨(dd.data.toList ++ zeros (y - dd.size)).toArray⟩) (fun fs => 64 - (match fs with | .string z => z.size | _ => 0))
                case atStart => exact ⟨dd.size, Nat.le_refl _, hv3, by rw [Nat.sub_self]; show Value.string dd = _; congr 1; simp [zeros]⟩
                case round =>
                  obtain ⟨y, hy1, hy2, rfl⟩ := hrel
                  have hys : (⟨(dd.data.toList ++ zeros (y - dd.size)).toArray⟩ : ByteArray).size = y := by show (dd.data.toList ++ zeros (y - dd.size)).toArray.size = y; rw [List.size_toArray, List.length_append, hdl, zeros_len]; omega
                  have HST := Lib.hid (full_step dd.data.toList y dd.size hy1)
                  by_cases hyl : y < 64
                  · have hy1s : (⟨(dd.data.toList ++ zeros (y + 1 - dd.size)).toArray⟩ : ByteArray).size = y + 1 := by show (dd.data.toList ++ zeros (y + 1 - dd.size)).toArray.size = y + 1; rw [List.size_toArray, List.length_append, hdl, zeros_len]; omega
                    have HY := Lib.hid hy1s
                    clear hy1s
                    generalize (⟨(dd.data.toList ++ zeros (y - dd.size)).toArray⟩ : ByteArray) = fy at *
                    go_wp2
                    go_round
                    case rel => exact ⟨y + 1, by omega, by omega, by rw [HST.out]⟩
                    case measure => rw [← HST.out]; simp [HY.out, hys]; omega
                  · obtain rfl : y = 64 := by omega
                    have HFL : Hid ((⟨(dd.data.toList ++ zeros (64 - dd.size)).toArray⟩ : ByteArray) = ⟨(fill dd.data.toList).toArray⟩) := by unfold Hid fill; rw [hdl]; rfl
                    rw [HFL.out] at hys ⊢
                    clear HST
                    generalize hfy : (⟨(fill dd.data.toList).toArray⟩ : ByteArray) = fy at *
                    have HFY := Lib.hid hfy
                    clear hfy HFL
                    go_wp2
                    go_roundw
                    case rel => exact ⟨j + 1, k2, f, (x : Int), fy, by omega, by go_num, rfl, rfl, HUP.out, HTI2.out⟩
                    case measure => simp [intOf]; omega
              · have c1 := write_in g D (8 * 64) [] k x dd (wo.alloc (.cells #[.int .i64 kd, .int .i64 (x : Int), .string dd, .int .i64 ca, .int .i64 ct] 36)) HTE.out.dk hd (by rw [HTI.out.n]; exact hx) hv3 HTI.out.since.1 (by have := HTI.out.since; omega) HTI.out.all.1 (by have := HTI.out.all; omega)
                rw [wroteC_miss hcut] at c1
                have HTI2 : Hid (TornI a t (j + 1) (upd f x (fill dd.data.toList)) (wroteK k x dd.data.toList) trn want) := HTI.out.miss hd hcut hx (by omega)
                generalize wroteK k x dd.data.toList = k2 at *
                clear hd hcut
                go_wp2_with fail
                refine c1.mono ?_
                rintro e w3 ⟨rfl, hE3, hk3⟩
                have ht3 := HTE.out.turn hE3 hk3 hgw hDw HN.out.1 HN.out.2.1 HN.out.2.2.1 HN.out.2.2.2.1
                have hA3 := hE3.heap HA.out (show ¬ (wo.heap.size = g ∨ wo.heap.size = D) by omega)
                have a1 := cell_of_row w3 _ 1 _ _ _ hA3
                have a2 := cell_of_row w3 _ 2 _ _ _ hA3
                simp at a1 a2
                obtain ⟨v0, hv0⟩ := ht3.kept.some hx
                have hfr := ht3.kept.free x
                have hx1 : (0 : Int) ≤ (x : Int) := by omega
                have HUP : Hid (TE w (w3.setCell ⟨B, x, none⟩ (.string ⟨(fill dd.data.toList).toArray⟩)) g D B w.heap.size a t k2 (upd f x (fill dd.data.toList)) 8) :=
                  ⟨ht3.below.setCell hBw _, (Eff.setAt (Eff.refl (· = B) _) x _).heap ht3.cut HN.out.2.2.2.2, ht3.dk.keep (Eff.setAt (Eff.refl (· = B) _) x _) (fun e => HN.out.2.2.1 e.symm) (fun e => HN.out.2.2.2.1 e.symm), ht3.kept.upd hx _⟩
                clear c1 hE3 hk3 ht3 hA3
                go_wp2
                go_loop [14] (fun fs => ∃ y : Nat, dd.size ≤ y ∧ y ≤ 64 ∧ fs = .string ⟨(dd.data.toList ++ zeros (y - dd.size)).toArray⟩) (fun fs => 64 - (match fs with | .string z => z.size | _ => 0))
                case atStart => exact ⟨dd.size, Nat.le_refl _, hv3, by rw [Nat.sub_self]; show Value.string dd = _; congr 1; simp [zeros]⟩
                case round =>
                  obtain ⟨y, hy1, hy2, rfl⟩ := hrel
                  have hys : (⟨(dd.data.toList ++ zeros (y - dd.size)).toArray⟩ : ByteArray).size = y := by show (dd.data.toList ++ zeros (y - dd.size)).toArray.size = y; rw [List.size_toArray, List.length_append, hdl, zeros_len]; omega
                  have HST := Lib.hid (full_step dd.data.toList y dd.size hy1)
                  by_cases hyl : y < 64
                  · have hy1s : (⟨(dd.data.toList ++ zeros (y + 1 - dd.size)).toArray⟩ : ByteArray).size = y + 1 := by show (dd.data.toList ++ zeros (y + 1 - dd.size)).toArray.size = y + 1; rw [List.size_toArray, List.length_append, hdl, zeros_len]; omega
                    have HY := Lib.hid hy1s
                    clear hy1s
                    generalize (⟨(dd.data.toList ++ zeros (y - dd.size)).toArray⟩ : ByteArray) = fy at *
                    go_wp2
                    go_round
                    case rel => exact ⟨y + 1, by omega, by omega, by rw [HST.out]⟩
                    case measure => rw [← HST.out]; simp [HY.out, hys]; omega
                  · obtain rfl : y = 64 := by omega
                    have HFL : Hid ((⟨(dd.data.toList ++ zeros (64 - dd.size)).toArray⟩ : ByteArray) = ⟨(fill dd.data.toList).toArray⟩) := by unfold Hid fill; rw [hdl]; rfl
                    rw [HFL.out] at hys ⊢
                    clear HST
                    generalize hfy : (⟨(fill dd.data.toList).toArray⟩ : ByteArray) = fy at *
                    have HFY := Lib.hid hfy
                    clear hfy HFL
                    go_wp2
                    go_roundw
                    case rel => exact ⟨j + 1, k2, upd f x (fill dd.data.toList), trn, want, by omega, by go_num, rfl, rfl, HUP.out, HTI2.out⟩
                    case measure => simp [intOf]; omega
          · rcases (show at0 < 0 ∨ (0 ≤ at0 ∧ 8 ≤ at0) ∨ (0 ≤ at0 ∧ at0 < 8 ∧ 64 < dd.size) by omega) with h | ⟨h, h'⟩ | ⟨h, h', h''⟩
            all_goals
              clear hv
              go_wp2
              go_roundw
              case rel => exact ⟨j + 1, k, f, trn, want, by omega, by go_num, rfl, rfl, HTE.out, HTI.out.mono⟩
              case measure => simp [intOf]; omega
        · obtain rfl : j = l := by omega
          have hdn : k.down = decide (0 ≤ trn) := by
            rcases HTI.out.st with ⟨h1, h2, _⟩ | ⟨h1, z, _, h2, _⟩
            · rw [h1, h2]; rfl
            · rw [h1]; exact (decide_eq_true (by omega)).symm
          have c1 := down_any g D (8 * 64) [] k wo hte.dk
          rw [hdn] at c1
          have c2 := start_any g D (8 * 64) [] k wo hte.dk
          have HTE := Lib.hid hte
          clear hte hdn
          go_wp2_with (go_at_call 13; refine c1.mono ?_; rintro e w4 ⟨rfl, rfl⟩)
          refine c2.mono ?_
          rintro e w4 ⟨rfl, hE4, hk4⟩
          have HT4 : Hid (TE w w4 g D B w.heap.size a t (startK k) f 8) := HTE.out.turn (hE4.mono (fun _ _ e => .inl e)) hk4 hgw hDw HN.out.1 HN.out.2.1 HN.out.2.2.1 HN.out.2.2.2.1
          clear c1 c2 hE4 hk4 HTE
          go_wp2
          generalize decide (0 ≤ trn) = bdn
          go_loopw [15] (fun i wr => ∃ x : Nat, x ≤ 8 ∧ i = .int .i64 x ∧ TE w wr g D B w.heap.size a t (startK k) f 8) (fun i _ => 8 - (intOf i).toNat)
          case atStart => exact ⟨0, by decide, rfl, HT4.out⟩
          case round =>
            clear HT4
            obtain ⟨x, hx, rfl, hte⟩ := hrel
            by_cases hxl : x < 8
            · have c1 := read_in g D (8 * 64) [] (startK k) x wr hte.dk rfl (by show x < k.n; rw [HTI.out.n]; exact hxl)
              have hcx := hte.kept.cell hxl
              obtain ⟨q0, q1, _, _⟩ := cells7 hte.cut
              have hx1 : (0 : Int) ≤ (x : Int) := by omega
              have hx2 : (x : Int) < 8 := by omega
              have hs64 : (⟨(sec (startK k) x).toArray⟩ : ByteArray).size = 64 := by show (sec (startK k) x).toArray.size = 64; rw [List.size_toArray]; exact sec_len hte.dk.ok (by show x < k.n; rw [HTI.out.n]; exact hxl)
              have HTE := Lib.hid hte
              clear hte
              by_cases hxt : (x : Int) = trn
              · have hst := HTI.out.st
                rcases hst with ⟨_, h2, _⟩ | ⟨h1, z, hz, h2, y, hy, hw, hsx, _⟩
                · omega
                · obtain rfl : z = x := by omega
                  subst hxt
                  have hfz := HTI.out.fl z hxl
                  have hse : sec (startK k) z = y.take (tN t) ++ (f z).drop (tN t) := hsx
                  rw [hse] at c1 hs64
                  have hkz := HTE.out.kept.cell hxl
                  have wz := HTI.out.fl z hxl
                  have hyz : (⟨y.toArray⟩ : ByteArray).size = 64 := by show y.toArray.size = 64; rw [List.size_toArray]; exact hy
                  have hfz2 : (⟨(f z).toArray⟩ : ByteArray).size = 64 := by show (f z).toArray.size = 64; rw [List.size_toArray]; exact wz
                  clear hse hsx h1 h2
                  subst hw
                  rcases (show t ≤ 0 ∨ (0 < t ∧ t ≤ 64) ∨ 64 < t by omega) with ht1 | ⟨ht1, ht2⟩ | ht1
                  · have ht : tN t = 0 := by unfold tN; omega
                    rw [ht] at c1 hs64
                    go_wp2_with (go_at_call 10; refine c1.mono ?_; rintro e w5 ⟨rfl, rfl⟩)
                    go_quiet (fail)
                    go_wp2
                    · rename_i hbad; exfalso; rw [ex_all _ wz] at hbad; simp at hbad
                    go_roundw
                    case rel => exact ⟨z + 1, by omega, by go_num, HTE.out.keep (⟨rfl, rfl, rfl, Nat.le_refl _, fun _ _ => rfl⟩)⟩
                    case measure => simp [intOf]; omega
                  · have ht : tN t = t.toNat := by unfold tN; omega
                    rw [ht] at c1 hs64
                    go_wp2_with (go_at_call 10; refine c1.mono ?_; rintro e w5 ⟨rfl, rfl⟩)
                    go_quiet (fail)
                    go_wp2
                    · rename_i hbad; exfalso; rw [ex_cat _ _ _ wz] at hbad; simp at hbad
                    go_roundw
                    case rel => exact ⟨z + 1, by omega, by go_num, HTE.out.keep (⟨rfl, rfl, rfl, Nat.le_refl _, fun _ _ => rfl⟩)⟩
                    case measure => simp [intOf]; omega
                  · have ht : tN t = 64 := by unfold tN; omega
                    rw [ht] at c1 hs64
                    go_wp2_with (go_at_call 10; refine c1.mono ?_; rintro e w5 ⟨rfl, rfl⟩)
                    go_quiet (fail)
                    go_wp2
                    · rename_i hbad; exfalso; rw [ex_all _ hy, List.take_of_length_le (by omega), List.drop_of_length_le (by omega), List.append_nil] at hbad; simp at hbad
                    go_roundw
                    case rel => exact ⟨z + 1, by omega, by go_num, HTE.out.keep (⟨rfl, rfl, rfl, Nat.le_refl _, fun _ _ => rfl⟩)⟩
                    case measure => simp [intOf]; omega
              · have hst := HTI.out.st
                have hse : sec (startK k) x = f x := by
                  rcases hst with ⟨_, _, _, _, _, h⟩ | ⟨_, z, hz, h2, y, hy, hw, hsx, h⟩
                  · exact h x hxl
                  · exact h x hxl (by omega)
                rw [hse] at c1 hs64
                have hne : ((x : Int) != trn) = true := by simp [hxt]
                clear hst hse hxt
                generalize (⟨(f x).toArray⟩ : ByteArray) = sx at *
                go_wp2_with (go_at_call 10; refine c1.mono ?_; rintro e w5 ⟨rfl, rfl⟩)
                go_roundw
                case rel => exact ⟨x + 1, by omega, by go_num, HTE.out⟩
                case measure => simp [intOf]; omega
            · obtain rfl : x = 8 := by omega
              have hb := hte.below
              clear hte
              go_wp2
              go_ret
              exact ⟨rfl, hb⟩
end Go.Proofs.Ytolkofnlihbncaa
