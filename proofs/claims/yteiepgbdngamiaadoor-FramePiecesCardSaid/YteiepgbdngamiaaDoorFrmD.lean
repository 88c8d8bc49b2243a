/- The document's frame: Stuff. -/
import Derived.Test.YteiepgbdngamiaaDoorFrmC
set_option linter.unusedVariables false
set_option linter.unusedSimpArgs false
namespace Go.Proofs.YteiepgbdngamiaaDoor
open Go.RowKit
theorem new2 (w : World) (a b : UInt8) (i : Nat) (hi : i < [a, b].length) : (w.alloc (.cells #[.int .u8 a.toNat, .int .u8 b.toNat] 5 (0, 0))).cell? ((⟨w.heap.size, 0, none⟩ : Addr).add i) = some (.int .u8 [a, b][i].toNat) := by
  have h1 := heap_alloc_new w (.cells #[.int .u8 a.toNat, .int .u8 b.toNat] 5 (0, 0))
  rw [Go.WideShapes.add_plain, Nat.zero_add, cell_of_row _ _ _ _ _ _ h1]
  match i, hi with
  | 0, _ => rfl
  | 1, _ => rfl
theorem head_46 (x : ByteArray) : x.data.toList.head? = some 46 ↔ ∃ h : 0 < x.size, x[0] = 46 := by
  have hsz := bsize x
  constructor
  · intro h
    have hl : 0 < x.data.toList.length := by
      cases hx : x.data.toList with
      | nil => rw [hx] at h; cases h
      | cons a b => simp
    refine ⟨by omega, ?_⟩
    rw [List.head?_eq_getElem?, List.getElem?_eq_getElem hl] at h
    exact Option.some.inj h
  · rintro ⟨h, e⟩
    have hl : 0 < x.data.toList.length := by omega
    rw [List.head?_eq_getElem?, List.getElem?_eq_getElem hl]
    exact congrArg some e
/-- What holds between the rounds. -/
structure RS (w1 wr : World) (v : Value) (o : List UInt8) : Prop where
  own : BS wr w1.heap.size v o
  low : Below w1.heap.size w1 wr
theorem RS.app {w1 wr w' : World} {v v' : Value} {o o' : List UInt8} (h : RS w1 wr v o) (h1 : BS w' w1.heap.size v' o') (h2 : Chg w1.heap.size (fun _ => False) wr w') : RS w1 w' v' o' := ⟨h1, h.low.trans h2.below⟩
theorem ba3' (l : List UInt8) : (⟨l.toArray⟩ : ByteArray) ++ (⟨#[46, 13, 10]⟩ : ByteArray) = ⟨(l ++ [46, 13, 10]).toArray⟩ := ba_app l [46, 13, 10]
set_option maxRecDepth 100000 in
set_option maxHeartbeats 4000000 in
theorem refstuff_any (s : ByteArray) (w : World) (hs : s.size ≤ 1000000) :
    Calls Tryd.prog 20 #[.string s] w (StuffPost s.data.toList w) := by
  have hsz := bsize s
  have c1 := reflines_any s w hs
  go_enter Tryd.func20, Tryd.ntmps20
  go_wp2_with fail
  refine c1.mono ?_
  rintro e w1 ⟨v, ls, rfl, hsv, hls, hb1⟩
  have HSV := Lib.hid hsv
  have HLS := Lib.hid hls
  have HB1 := Lib.hid hb1
  have hlf := lines_few hls
  obtain ⟨ao, cap, rfl, hcap1, hcap2⟩ := hsv.shape
  clear c1 hls hb1 hsv
  by_cases hr : restL s.data.toList = []
  · have HR := Lib.hid hr
    rw [lc_yes hr]
    clear hr
    obtain ⟨N, hN⟩ : ∃ N, N = ls.length := ⟨_, rfl⟩
    rw [← hN] at hcap1 hlf ⊢
    have HN := Lib.hid hN
    clear hN
    go_wp2
    go_loopw [6, 7] (fun v i wr => ∃ k : Nat, k ≤ N ∧ i = .int .i64 k ∧ RS w1 wr v (stK ls k)) (fun _ i _ => N - (intOf i).toNat)
    case atStart => exact ⟨0, Nat.zero_le _, rfl, ⟨BS.nil _ _, Below.refl _ _⟩⟩
    case round =>
      obtain ⟨k, hk, rfl, hrs⟩ := hrel
      have HRS := Lib.hid hrs
      have hwsz := hrs.low.size
      have hk0 : (0 : Int) ≤ k := by omega
      have hsl := stK_len ls _ HLS.out k
      rw [hsz] at hsl
      clear hrs
      by_cases hlt : k < N
      · have hkl : k < ls.length := by rw [← HN.out]; exact hlt
        have hk1 : (k : Int) < N := by omega
        obtain ⟨g, rfl, hcell1⟩ := HSV.out.cell hkl
        have hg1 := World.block_lt_of_cell? _ _ hcell1
        have HC : Hid (∀ W, Below w1.heap.size w1 W → W.cell? ⟨g, k, none⟩ = some (.string ls[k])) := fun W h => (h.cell (p := ⟨g, k, none⟩) hg1).trans hcell1
        have hcell := HC.out wr HRS.out.low
        have hxl := line_len HLS.out hkl
        have HST := Lib.hid (stK_succ hkl)
        have hhd := head_46 ls[k]
        rw [hsz] at hxl
        generalize ls[k] = x at *
        have hxs := bsize x
        have HX := Lib.hid hxs
        clear hcell1 hxs hg1
        by_cases hd : x.data.toList.head? = some 46
        · have HD : Hid (dotB x.data.toList = 46 :: x.data.toList) := if_pos hd
          obtain ⟨h0, h46⟩ := hhd.1 hd
          obtain ⟨t1, -⟩ := u8T (n := 46) h46 rfl
          have hx0 : (0 : Int) < x.size := by omega
          clear hd hhd h46
          go_wp2_with (at_builtin; refine wp_app1 rfl (.tmp 36) (.tmp 37) rfl w1.heap.size _ (stK ls k) rfl 46 _ rfl HRS.out.own rfl (by omega) hwsz ?_)
          intro v2 w2 hown2 hc2
          have HRS2 := Lib.hid (HRS.out.app hown2 hc2)
          have hwsz2 := HRS2.out.low.size
          have hcell2 := HC.out w2 HRS2.out.low
          clear hown2 hc2 HRS hcell
          go_wp2_with (at_builtin; refine wp_apps rfl (.tmp 39) (.tmp 43) rfl w1.heap.size _ _ rfl HRS2.out.own x rfl (by simp; omega) hwsz2 ?_)
          intro v3 w3 hown3 hc3
          have HRS3 := Lib.hid (HRS2.out.app hown3 hc3)
          have hwsz3 := HRS3.out.low.size
          clear hown3 hc3 HRS2 hcell2
          go_wp2_with (at_builtin; refine wp_app rfl (.tmp 45) (.tmp 46) rfl w1.heap.size _ _ rfl (HRS3.out.own.alloc _) ⟨w3.heap.size, 0, none⟩ 2 2 [13, 10] rfl rfl ?_ (by have := HX.out; simp; omega) (by simp; omega) ?_)
          · intro i hi
            exact new2 w3 _ _ i hi
          intro v4 w4 hown4 hc4
          have HRS4 : Hid (RS w1 w4 v4 (stK ls (k + 1))) := by
            have h := HRS3.out.app hown4 (((Chg.refl _ _ _).alloc hwsz3 _).trans hc4)
            unfold Hid
            rw [HST.out, HD.out]
            simpa using h
          clear hown4 hc4 HRS3
          go_wp2
          go_roundw
          case rel => exact ⟨k + 1, by omega, by go_num, HRS4.out⟩
          case measure => simp [intOf]; omega
        · have HD : Hid (dotB x.data.toList = x.data.toList) := if_neg hd
          rcases (show ((x.size : Int) ≤ 0) ∨ ∃ h0 : 0 < x.size, (0 : Int) < x.size ∧ ((x[0].toNat : Int) == 46) = false by
              rcases Nat.eq_zero_or_pos x.size with h | h
              · exact .inl (by omega)
              · exact .inr ⟨h, by omega, (u8F (d := 46) (fun e => hd (hhd.2 ⟨h, e⟩)) rfl).1⟩) with hx0 | ⟨h0, hx0, t1⟩
          all_goals
            clear hd hhd
            go_wp2_with (at_builtin; refine wp_apps rfl (.tmp 39) (.tmp 43) rfl w1.heap.size _ (stK ls k) rfl HRS.out.own x rfl (by omega) hwsz ?_)
            intro v3 w3 hown3 hc3
            have HRS3 := Lib.hid (HRS.out.app hown3 hc3)
            have hwsz3 := HRS3.out.low.size
            clear hown3 hc3 HRS hcell
            go_wp2_with (at_builtin; refine wp_app rfl (.tmp 45) (.tmp 46) rfl w1.heap.size _ _ rfl (HRS3.out.own.alloc _) ⟨w3.heap.size, 0, none⟩ 2 2 [13, 10] rfl rfl (fun i hi => new2 w3 _ _ i hi) (by have := HX.out; simp; omega) (by simp; omega) ?_)
            intro v4 w4 hown4 hc4
            have HRS4 : Hid (RS w1 w4 v4 (stK ls (k + 1))) := by
              have h := HRS3.out.app hown4 (((Chg.refl _ _ _).alloc hwsz3 _).trans hc4)
              unfold Hid
              rw [HST.out, HD.out]
              simpa using h
            clear hown4 hc4 HRS3
            go_wp2
            go_roundw
            case rel => exact ⟨k + 1, by omega, by go_num, HRS4.out⟩
            case measure => simp [intOf]; omega
      · obtain rfl : k = N := by omega
        have hcv := HRS.out.own.conv
        have HSY : Hid (stuffV s.data.toList = stK ls k ++ [46, 13, 10]) := by unfold Hid; rw [HN.out]; exact stuff_yes HLS.out HR.out
        have hzl : (⟨(stK ls k).toArray⟩ : ByteArray).size ≤ 2000000 := by rw [lsize]; omega
        have hb3 := Lib.hid (ba3' (stK ls k))
        have HLOW := Lib.hid HRS.out.low
        clear HRS
        generalize (⟨(stK ls k).toArray⟩ : ByteArray) = sb at *
        go_wp2
        go_ret2
        exact ⟨ret_si (by rw [HSY.out]; exact hb3.out) (lc_yes HR.out).symm, HB1.out.trans (HLOW.out.mono HB1.out.size)⟩
  · have HR := Lib.hid hr
    rw [lc_no hr]
    clear hr
    go_wp2
    go_ret2
    exact ⟨by rw [stuff_no HR.out, lc_no HR.out]; rfl, HB1.out⟩
end Go.Proofs.YteiepgbdngamiaaDoor
