/- Package frame's law folder: awake. -/
import Derived.Test.YteiepgbdngamiaaDoorFrmH
set_option linter.unusedVariables false
set_option linter.unusedSimpArgs false
namespace Go.Proofs.YteiepgbdngamiaaDoor
open Go.RowKit
theorem FS.below {w w' : World} {g B : Nat} {v : Value} (h : Eff (FS g v) w w') (hB : B ≤ w.heap.size) (hg : B ≤ g) (hv : ∀ k, v.ownBlock = some k → B ≤ k) : Below B w w' :=
  h.to_below hB fun k hk => by
    rcases hk with e | e
    · omega
    · exact hv k e
theorem FrAt.belowW {w w' : World} {g B : Nat} {v : Value} {r : List UInt8} {fed : Int} (h : FrAt w g B v r fed) (hb : Below w.heap.size w w') : FrAt w' g B v r fed := h.eff (Eff.of_below hb (fun _ => False)) id (fun _ _ => id)
theorem FrAt.ownB {w : World} {g B : Nat} {v : Value} {r : List UInt8} {fed : Int} (h : FrAt w g B v r fed) : ∀ k, v.ownBlock = some k → B ≤ k := fun k hk => (World.ownsRow.lt h.own k hk).1
theorem LV.belowW {w w' : World} {B : Nat} {v : Value} {ls : List LnV} (h : LV w B v ls) (hb : Below w.heap.size w w') : LV w' B v ls := h.eff (Eff.of_below hb (fun _ => False)) (fun _ _ => id)
theorem LV.shape {w : World} {B : Nat} {v : Value} {ls : List LnV} (h : LV w B v ls) : ∃ ao cap, v = .slice ao ls.length cap ∧ ls.length ≤ cap ∧ cap ≤ 9223372036854775807 := by
  rcases h.2 with ⟨hv, h0⟩ | ⟨g, cap, cur, hv, _, _, h1, h2, _⟩
  · exact ⟨none, 0, by rw [hv, h0], by omega, by decide⟩
  · exact ⟨_, _, hv, h1, by unfold maxLen at h2; omega⟩
theorem lcells_get (ls : List LnV) {j : Nat} (h : j < ls.length) : (lcells ls)[2 * j]? = some (.string ls[j].1) ∧ (lcells ls)[2 * j + 1]? = some (.bool ls[j].2) := by
  induction ls generalizing j with
  | nil => cases h
  | cons a b ih =>
    cases j with
    | zero => exact ⟨rfl, rfl⟩
    | succ j => exact ih (Nat.lt_of_succ_lt_succ h)
theorem LV.cell {w : World} {B : Nat} {ao : Option Addr} {n cap : Nat} {ls : List LnV} (h : LV w B (.slice ao n cap) ls) {j : Nat} (hj : j < ls.length) :
    ∃ g, ao = some ⟨g, 0, none⟩ ∧ w.cell? ⟨g, j * 2, none⟩ = some (.string ls[j].1) ∧ w.cell? ⟨g, j * 2 + 1, none⟩ = some (.bool ls[j].2) := by
  rcases h.2 with ⟨hv, h0⟩ | ⟨g, cap', cur, hv, hr⟩
  · omega
  · cases hv
    have hc := World.ownsRow.cells h (g := g) rfl
    obtain ⟨a, b⟩ := lcells_get ls hj
    have h1 := hc _ _ a
    have h2 := hc _ _ b
    rw [Go.WideShapes.add_plain, Nat.zero_add] at h1 h2
    exact ⟨g, rfl, by rw [Nat.mul_comm]; exact h1, by rw [Nat.mul_comm]; exact h2⟩
theorem aw1 : (initL ([] ++ [97])).map mkLn = [] ∧ restL ([] ++ [97]) = [97] := ⟨by rfl, by rfl⟩
theorem aw2 : (initL ([97] ++ [13, 10, 98])).map mkLn = [(⟨#[97]⟩, false)] ∧ restL ([97] ++ [13, 10, 98]) = [98] := ⟨by rfl, by rfl⟩
theorem aw3 : stuffV [46, 120, 13, 10] = [46, 46, 120, 13, 10, 46, 13, 10] ∧ linesC [46, 120, 13, 10] = 0 := ⟨by decide +kernel, by decide +kernel⟩
theorem aw4 : unT [46, 46, 120, 13, 10, 46, 13, 10, 109, 111, 114, 101] = [46, 120, 13, 10] ∧ unR [46, 46, 120, 13, 10, 46, 13, 10, 109, 111, 114, 101] = [109, 111, 114, 101] ∧ unC [46, 46, 120, 13, 10, 46, 13, 10, 109, 111, 114, 101] = 0 := ⟨by decide +kernel, by decide +kernel, by decide +kernel⟩
theorem aw5 : unC [120, 13, 10] = 2 := by decide +kernel
theorem aw6 : linesV [97, 13, 10, 13, 10] = [[97], []] ∧ linesC [97, 13, 10, 13, 10] = 0 := ⟨by decide +kernel, by decide +kernel⟩
set_option maxRecDepth 100000 in
set_option maxHeartbeats 2000000 in
theorem awake_any (w : World) (hm : MaxAt w) : Calls Tryd.prog 9 #[] w fun e w' => e = .returned (.bool true) ∧ Below w.heap.size w w' := by
  have HM := Lib.hid hm
  have c1 := new_any w
  clear hm
  go_enter Tryd.func9, Tryd.ntmps9
  go_wp2_with fail
  refine c1.mono ?_
  rintro e w1 ⟨rfl, hf1, hb1⟩
  clear c1
  have hg1 := lt_of_block hf1.mem
  have c2 := feed_any w.heap.size w.heap.size _ [] 0 ⟨#[97]⟩ w1 hf1 rfl hb1.size (by omega) (by omega) (by simp) (by decide)
  obtain ⟨g, hgg⟩ : ∃ g, g = w.heap.size := ⟨_, rfl⟩
  have HG := Lib.hid hgg
  rw [← hgg]
  rw [← hgg] at c2
  have HB1 := Lib.hid hb1
  clear hb1 hf1 hgg
  go_wp2_with fail
  refine c2.mono ?_
  rintro e w2 ⟨vo1, v1, rfl, hl2, hf2, he2, ho2⟩
  try rw [show (⟨#[97]⟩ : ByteArray).data.toList = [97] from rfl] at hl2
  rw [aw1.1] at hl2
  try rw [show (⟨#[97]⟩ : ByteArray).data.toList = [97] from rfl] at hf2
  rw [aw1.2] at hf2
  obtain ⟨ao1, cap1, rfl, _, _⟩ := hl2.shape
  have hb2 : Below g w1 w2 := FS.below he2 (by rw [HG.out]; exact HB1.out.size) (by omega) (fun k hk => by simp [Value.ownBlock] at hk)
  have HB2 : Hid (Below w.heap.size w w2) := HB1.out.trans (by rw [← HG.out]; exact hb2)
  have hsz2 := HB2.out.size
  have c3 := feed_any g g _ [97] _ ⟨#[13, 10, 98]⟩ w2 hf2 rfl (by rw [HG.out]; exact hsz2) (by simp) (by simp) (by simp) (by decide)
  have hv1 := hf2.ownB
  clear hl2 hf2 he2 ho2 hb2 HB1 c2
  go_wp2_with fail
  refine c3.mono ?_
  rintro e w3 ⟨vo2, v2, rfl, hl3, hf3, he3, ho3⟩
  try rw [show (⟨#[13, 10, 98]⟩ : ByteArray).data.toList = [13, 10, 98] from rfl] at hl3
  rw [aw2.1] at hl3
  try rw [show (⟨#[13, 10, 98]⟩ : ByteArray).data.toList = [13, 10, 98] from rfl] at hf3
  rw [aw2.2] at hf3
  obtain ⟨ao2, cap2, rfl, _, _⟩ := hl3.shape
  have hb3 : Below g w2 w3 := FS.below he3 (by rw [HG.out]; exact hsz2) (by omega) hv1
  have HB3 : Hid (Below w.heap.size w w3) := HB2.out.trans (by rw [← HG.out]; exact hb3)
  have HL3 := Lib.hid hl3
  have HF3 := Lib.hid hf3
  have c4 := stuff_any ⟨#[46, 120, 13, 10]⟩ w3 (by decide) (HM.out.up HB3.out)
  clear hl3 hf3 he3 ho3 hb3 HB2 c3 hsz2 hv1
  go_wp2_with fail
  refine c4.mono ?_
  rintro e w4 ⟨rfl, hb4⟩
  try rw [show (⟨#[46, 120, 13, 10]⟩ : ByteArray).data.toList = [46, 120, 13, 10] from rfl]
  rw [aw3.1, aw3.2]
  have HB4 := Lib.hid (HB3.out.trans (hb4.mono HB3.out.size))
  have HL4 := Lib.hid (HL3.out.belowW hb4)
  have HF4 := Lib.hid (HF3.out.belowW hb4)
  have c5 := unstuff_any ⟨#[46, 46, 120, 13, 10, 46, 13, 10, 109, 111, 114, 101]⟩ w4 (by decide) (HM.out.up HB4.out)
  clear c4 hb4 HB3 HL3 HF3
  go_wp2_with fail
  refine c5.mono ?_
  rintro e w5 ⟨rfl, hb5⟩
  try rw [show (⟨#[46, 46, 120, 13, 10, 46, 13, 10, 109, 111, 114, 101]⟩ : ByteArray).data.toList = [46, 46, 120, 13, 10, 46, 13, 10, 109, 111, 114, 101] from rfl]
  rw [aw4.1, aw4.2.1, aw4.2.2]
  have HB5 := Lib.hid (HB4.out.trans (hb5.mono HB4.out.size))
  have HL5 := Lib.hid (HL4.out.belowW hb5)
  have HF5 := Lib.hid (HF4.out.belowW hb5)
  have c6 := unstuff_any ⟨#[120, 13, 10]⟩ w5 (by decide) (HM.out.up HB5.out)
  clear c5 hb5 HB4 HL4 HF4
  go_wp2_with fail
  refine c6.mono ?_
  rintro e w6 ⟨rfl, hb6⟩
  try rw [show (⟨#[120, 13, 10]⟩ : ByteArray).data.toList = [120, 13, 10] from rfl]
  rw [aw5]
  have HB6 := Lib.hid (HB5.out.trans (hb6.mono HB5.out.size))
  have HL6 := Lib.hid (HL5.out.belowW hb6)
  have HF6 := Lib.hid (HF5.out.belowW hb6)
  have c7 := lines_any ⟨#[97, 13, 10, 13, 10]⟩ w6 (by decide) (HM.out.up HB6.out)
  generalize unT [120, 13, 10] = uu at *
  generalize unR [120, 13, 10] = ur at *
  clear c6 hb6 HB5 HL5 HF5
  go_wp2_with fail
  refine c7.mono ?_
  rintro e w7 ⟨v7, ls7, rfl, hsv7, hls7, hb7⟩
  try rw [show (⟨#[97, 13, 10, 13, 10]⟩ : ByteArray).data.toList = [97, 13, 10, 13, 10] from rfl] at hls7
  rw [aw6.1] at hls7
  try rw [show (⟨#[97, 13, 10, 13, 10]⟩ : ByteArray).data.toList = [97, 13, 10, 13, 10] from rfl]
  rw [aw6.2]
  have hl2 : ls7.length = 2 := by
    have := congrArg List.length hls7
    simpa [bytesL] using this
  obtain ⟨ao7, cap7, rfl, _, _⟩ := hsv7.shape
  rw [hl2]
  have HB7 := Lib.hid (HB6.out.trans (hb7.mono HB6.out.size))
  have hl7 := HL6.out.belowW hb7
  have hf7 := HF6.out.belowW hb7
  obtain ⟨g2, rfl, hcA, hcB⟩ := hl7.cell (j := 0) (by decide)
  have c8 := waiting_any _ _ _ _ _ w7 hf7 (by simp)
  have c9 := fed_any _ _ _ _ _ w7 hf7
  have hcap2 : 1 ≤ cap2 := by simpa using ‹[((⟨#[97]⟩ : ByteArray), false)].length ≤ cap2›
  clear c7 hb7 HB6 HL6 HF6 hl7 hf7 hsv7 hls7 hl2
  simp at hcA hcB
  go_wp2_with fail
  refine c8.mono ?_
  rintro e _ ⟨rfl, rfl⟩
  go_wp2_with fail
  refine c9.mono ?_
  rintro e _ ⟨rfl, rfl⟩
  go_wp2
  go_ret
  exact ⟨rfl, HB7.out⟩
end Go.Proofs.YteiepgbdngamiaaDoor
