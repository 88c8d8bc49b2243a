/- Package frame: Stuff, of the program and of the document. -/
import Derived.Test.YteiepgbdngamiaaDoorFrmB
set_option linter.unusedVariables false
set_option linter.unusedSimpArgs false
namespace Go.Proofs.YteiepgbdngamiaaDoor
open Go.RowKit
theorem ended_snoc (I : List (List UInt8)) (l : List UInt8) : ended (I ++ [l]) = ended I ++ l ++ [13, 10] := by
  induction I with
  | nil => simp [ended]
  | cons a I ih => simp [ended, ih]
theorem ended_dot_len (I : List (List UInt8)) : (ended (I.map dotB)).length ≤ 2 * (ended I).length := by
  induction I with
  | nil => simp [ended]
  | cons a I ih =>
    have : (dotB a).length ≤ a.length + 1 := by unfold dotB; split <;> simp
    simp [ended]; omega
theorem ended_take_len (I : List (List UInt8)) (k : Nat) : (ended (I.take k)).length ≤ (ended I).length := by
  induction I generalizing k with
  | nil => simp [ended]
  | cons a I ih =>
    cases k with
    | zero => simp [ended]
    | succ k => have := ih k; simp [ended]; omega
theorem ended_init_len (s : List UInt8) : (ended (initL s)).length ≤ s.length := by
  have h := congrArg List.length (whole s)
  simp at h; omega
theorem stuffV_len (s : List UInt8) : (stuffV s).length ≤ 2 * s.length + 3 := by
  unfold stuffV
  have h1 := ended_dot_len (initL s)
  have h2 := ended_init_len s
  split
  · simp; omega
  · simp
theorem prefix_dot (x : List UInt8) : Lib.hasPrefix x [46] = decide (x.head? = some 46) := by
  cases x with
  | nil => simp [Lib.hasPrefix]
  | cons a b =>
    rw [Bool.eq_iff_iff]
    simp only [Lib.hasPrefix, List.isPrefixOf, List.head?_cons, Option.some.injEq, decide_eq_true_eq, Bool.and_true, beq_iff_eq]
    exact ⟨fun h => h.symm, fun h => h.symm⟩
/-- What is told behind k lines. -/
def stK (ls : List ByteArray) (k : Nat) : List UInt8 := ended (((bytesL ls).take k).map dotB)
theorem stK_succ {ls : List ByteArray} {k : Nat} (h : k < ls.length) : stK ls (k + 1) = stK ls k ++ dotB ls[k].data.toList ++ [13, 10] := by
  unfold stK
  have hb : k < (bytesL ls).length := by unfold bytesL; rw [List.length_map]; exact h
  have he : (bytesL ls)[k] = ls[k].data.toList := by simp only [bytesL, List.getElem_map]
  rw [List.take_succ_eq_append_getElem hb, List.map_append, List.map_cons, List.map_nil, ended_snoc, he]
theorem stK_len (ls : List ByteArray) (s : List UInt8) (h : bytesL ls = linesV s) (k : Nat) : (stK ls k).length ≤ 2 * s.length := by
  unfold stK
  have h1 := ended_dot_len ((bytesL ls).take k)
  have h2 := ended_take_len (bytesL ls) k
  have h3 : (ended (bytesL ls)).length ≤ s.length := by
    rw [h]; unfold linesV
    split
    · exact ended_init_len s
    · simp [ended]
  omega
theorem StrsAt.low {w w' : World} {g cap B : Nat} {l : List ByteArray} (h : StrsAt w g cap l) (hb : Below B w w') (hg : g < B) : StrsAt w' g cap l := by
  obtain ⟨cur, hh, ht⟩ := h.cells
  exact ⟨⟨cur, (hb.block g hg).trans hh, ht⟩, h.room, h.max⟩
theorem SV.low {w w' : World} {B : Nat} {v : Value} {ls : List ByteArray} (h : SV w B v ls) (hb : Below w.heap.size w w') : SV w' B v ls := h.below hb
theorem line_len {ls : List ByteArray} {s : List UInt8} (h : bytesL ls = linesV s) {k : Nat} (hk : k < ls.length) : ls[k].size ≤ s.length := by
  have hm : ls[k].data.toList ∈ linesV s := by rw [← h]; exact List.mem_map_of_mem (List.getElem_mem _)
  unfold linesV at hm
  split at hm
  · have := (lns_sum s).1 _ (by rw [IR.of s]; exact List.mem_append_left _ hm)
    rw [bsize] at this; exact this
  · cases hm
theorem lines_few {ls : List ByteArray} {s : List UInt8} (h : bytesL ls = linesV s) : ls.length ≤ s.length := by
  have h2 : ls.length = (linesV s).length := by rw [← h]; simp [bytesL]
  rw [h2]
  unfold linesV
  split
  · have := (lns_sum s).2
    unfold initL; simp; omega
  · simp
theorem stuff_yes {s : List UInt8} {ls : List ByteArray} (h : bytesL ls = linesV s) (hr : restL s = []) : stuffV s = stK ls ls.length ++ [46, 13, 10] := by
  unfold stuffV stK
  rw [if_pos hr, List.take_of_length_le (by simp [bytesL]), h]
  unfold linesV
  rw [if_pos hr]
theorem stuff_no {s : List UInt8} (hr : restL s ≠ []) : stuffV s = [] := by unfold stuffV; rw [if_neg hr]
theorem lc_yes {s : List UInt8} (hr : restL s = []) : linesC s = 0 := by unfold linesC; rw [if_pos hr]
theorem lc_no {s : List UInt8} (hr : restL s ≠ []) : linesC s = 2 := by unfold linesC; rw [if_neg hr]
theorem flipW {P : Program} {f : FuncId} {args : Array Value} {w : World} {v : Value} (h : Calls P f args w fun e w' => e = .returned v ∧ w' = w) : Calls P f args w fun e w' => e = .returned v ∧ w = w' := h.mono fun _ _ ⟨a, b⟩ => ⟨a, b.symm⟩
def StuffPost (s : List UInt8) (w : World) (e : Ending) (w' : World) : Prop := e = .returned (.tuple #[.string ⟨(stuffV s).toArray⟩, .int .i64 (linesC s)]) ∧ Below w.heap.size w w'
theorem ba3 (l : List UInt8) : (⟨l.toArray⟩ : ByteArray) ++ (⟨#[46]⟩ : ByteArray) ++ (⟨#[13, 10]⟩ : ByteArray) = ⟨(l ++ [46, 13, 10]).toArray⟩ := by
  have h1 := ba_app l [46]
  have h2 := ba_app (l ++ [46]) [13, 10]
  rw [show (⟨#[46]⟩ : ByteArray) = ⟨[46].toArray⟩ from rfl, h1, show (⟨#[13, 10]⟩ : ByteArray) = ⟨[13, 10].toArray⟩ from rfl, h2]
  simp
set_option maxRecDepth 100000 in
set_option maxHeartbeats 2000000 in
theorem stuff_any (s : ByteArray) (w : World) (hs : s.size ≤ 1000000) (hm : MaxAt w) :
    Calls Tryd.prog 19 #[.string s] w (StuffPost s.data.toList w) := by
  have hsz := bsize s
  have c1 := lines_any s w hs hm
  clear hm
  go_enter Tryd.func19, Tryd.ntmps19
  go_wp2_with fail
  refine c1.mono ?_
  rintro e w1 ⟨v, ls, rfl, hsv, hls, hb1⟩
  have HSV := Lib.hid hsv
  have HLS := Lib.hid hls
  have HB1 := Lib.hid hb1
  have hlf := lines_few hls
  obtain ⟨ao, cap, rfl, hcap1, hcap2⟩ := hsv.shape
  clear c1 hls hb1 hsv
  by_cases hr : restL s.data.toList = []
  · have HR := Lib.hid hr
    rw [lc_yes hr]
    clear hr
    obtain ⟨N, hN⟩ : ∃ N, N = ls.length := ⟨_, rfl⟩
    rw [← hN] at hcap1 hlf ⊢
    have HN := Lib.hid hN
    have hb0 := Lib.hid (bb_new w1 w1.heap.size (Nat.le_refl _))
    have hl0 : Hid (Below w1.heap.size w1 (w1.alloc (.cells #[.pointer none, .slice none 0 0] 68 (0, 0)))) := (Below.refl _ _).alloc (Nat.le_refl _) _
    clear hN
    go_wp2
    go_loopw [19] (fun i wr => ∃ k : Nat, k ≤ N ∧ i = .int .i64 k ∧ BB wr w1.heap.size w1.heap.size (stK ls k) ∧ Below w1.heap.size w1 wr) (fun i _ => N - (intOf i).toNat)
    case atStart => exact ⟨0, Nat.zero_le _, rfl, hb0.out, hl0.out⟩
    case round =>
      clear hb0 hl0
      obtain ⟨k, hk, rfl, hbb, hbl⟩ := hrel
      have HBB := Lib.hid hbb
      have HBL := Lib.hid hbl
      have hwsz := hbl.size
      have hk0 : (0 : Int) ≤ k := by omega
      have hsl := stK_len ls _ HLS.out k
      rw [hsz] at hsl
      clear hbb hbl
      by_cases hlt : k < N
      · have hkl : k < ls.length := by rw [← HN.out]; exact hlt
        have hk1 : (k : Int) < N := by omega
        obtain ⟨g, rfl, hcell1⟩ := HSV.out.cell hkl
        have hcell := (HBL.out.cell (p := ⟨g, k, none⟩) (World.block_lt_of_cell? _ _ hcell1)).trans hcell1
        have hxl := line_len HLS.out hkl
        have HST := Lib.hid (stK_succ hkl)
        have hpd := prefix_dot ls[k].data.toList
        rw [hsz] at hxl
        generalize ls[k] = x at *
        have c2 := Tryd.strings_HasPrefix x ⟨#[46]⟩ wr
        rw [show (⟨#[46]⟩ : ByteArray).data.toList = [46] from rfl, hpd] at c2
        have hxs := bsize x
        have HX := Lib.hid hxs
        have hxe : (x ++ (⟨#[13, 10]⟩ : ByteArray)).size = x.size + 2 := by rw [ByteArray.size_append]; rfl
        have hxd : (x ++ (⟨#[13, 10]⟩ : ByteArray)).data.toList = x.data.toList ++ [13, 10] := by simp
        have HXD := Lib.hid hxd
        clear hcell1 hpd hxs hxd
        by_cases hd : x.data.toList.head? = some 46
        · have HD : Hid (dotB x.data.toList = 46 :: x.data.toList) := if_pos hd
          rw [decide_eq_true hd] at c2
          have c3 := wstr w1.heap.size w1.heap.size (stK ls k) ⟨#[46]⟩ wr HBB.out (by show _ + 1 ≤ _; omega) hwsz
          clear hd
          go_wp2_with (go_at_call 27; refine (flipW c2).mono ?_; rintro e w' ⟨rfl, rfl⟩)
          clear c2
          refine c3.mono ?_
          rintro e w2 ⟨rfl, hbb2, hbl2, -⟩
          have HBL2 := Lib.hid (HBL.out.trans hbl2)
          have hwsz2 := HBL2.out.size
          have c4 := wstr w1.heap.size w1.heap.size _ (x ++ ⟨#[13, 10]⟩) w2 hbb2 (by rw [hxe, List.length_append]; show _ + 1 + _ ≤ _; omega) hwsz2
          clear c3 hbb2 hbl2 hcell
          go_wp2_with fail
          refine c4.mono ?_
          rintro e w3 ⟨rfl, hbb3, hbl3, -⟩
          have HBB3 : Hid (BB w3 w1.heap.size w1.heap.size (stK ls (k + 1))) := by
            unfold Hid
            rw [HST.out, HD.out]
            rw [HXD.out] at hbb3
            simpa using hbb3
          have HBL3 := Lib.hid (HBL2.out.trans hbl3)
          clear hbb3 hbl3 c4
          go_wp2
          go_roundw
          case rel => exact ⟨k + 1, by omega, by go_num, HBB3.out, HBL3.out⟩
          case measure => simp [intOf]; omega
        · have HD : Hid (dotB x.data.toList = x.data.toList) := if_neg hd
          rw [decide_eq_false hd] at c2
          have c4 := wstr w1.heap.size w1.heap.size (stK ls k) (x ++ ⟨#[13, 10]⟩) wr HBB.out (by rw [hxe]; omega) hwsz
          clear hd
          go_wp2_with (go_at_call 27; refine (flipW c2).mono ?_; rintro e w' ⟨rfl, rfl⟩)
          clear c2
          refine c4.mono ?_
          rintro e w3 ⟨rfl, hbb3, hbl3, -⟩
          have HBB3 : Hid (BB w3 w1.heap.size w1.heap.size (stK ls (k + 1))) := by
            unfold Hid
            rw [HST.out, HD.out]
            rw [HXD.out] at hbb3
            simpa using hbb3
          have HBL3 := Lib.hid (HBL.out.trans hbl3)
          clear hbb3 hbl3 c4
          go_wp2
          go_roundw
          case rel => exact ⟨k + 1, by omega, by go_num, HBB3.out, HBL3.out⟩
          case measure => simp [intOf]; omega
      · obtain rfl : k = N := by omega
        have c2 := bstr w1.heap.size w1.heap.size _ wr HBB.out hwsz
        have HSY : Hid (stuffV s.data.toList = stK ls k ++ [46, 13, 10]) := by unfold Hid; rw [HN.out]; exact stuff_yes HLS.out HR.out
        have hzl : (⟨(stK ls k).toArray⟩ : ByteArray).size ≤ 2000000 := by rw [lsize]; omega
        have hb3 := Lib.hid (ba3 (stK ls k))
        generalize (⟨(stK ls k).toArray⟩ : ByteArray) = sb at *
        go_wp2_with fail
        refine c2.mono ?_
        rintro e w2 ⟨rfl, -, hbl2, -⟩
        have HBL2 := Lib.hid (HBL.out.trans hbl2)
        clear c2 hbl2
        go_wp2
        go_ret2
        exact ⟨ret_si (by rw [HSY.out]; exact hb3.out) (lc_yes HR.out).symm, HB1.out.trans (HBL2.out.mono HB1.out.size)⟩
  · have HR := Lib.hid hr
    rw [lc_no hr]
    clear hr
    go_wp2
    go_ret2
    exact ⟨by rw [stuff_no HR.out, lc_no HR.out]; rfl, HB1.out⟩
end Go.Proofs.YteiepgbdngamiaaDoor
