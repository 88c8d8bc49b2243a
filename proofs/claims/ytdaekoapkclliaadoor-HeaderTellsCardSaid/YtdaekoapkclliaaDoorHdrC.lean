/- strings.IndexAny, ContainsAny at whatever bytes, for two or three ASCII ones; strings.Cut. -/
import Derived.Test.YtdaekoapkclliaaDoorHdrCl
import Derived.Lib.RuneCount
import Derived.Lib.TrimUEq
import Derived.Lib.SpaceUEq
import Derived.Lib.OthersKept
set_option linter.unusedVariables false
set_option linter.unusedSimpArgs false
namespace Go.Proofs.YtdaekoapkclliaaDoor
open Go.RowKit
/-- A rune that is no ASCII one has no ASCII byte. -/
theorem rune_bytes (s : ByteArray) (i : Nat) (hi : i < s.size) (h : 128 ≤ (s[i]'hi).toNat) :
    i + (Utf8.decode s i).2 ≤ s.size ∧ ∀ k, i ≤ k → k < i + (Utf8.decode s i).2 → ∀ b, s.data.toList[k]? = some b → 128 ≤ b.toNat := by
  have hl := bsize s
  have hw := Lib.decode_width_pos s i hi
  have hc := Lib.decodeN_conts (s.data.toList.length - i) (s.data.toList.getD i 0).toNat (s.data.toList.getD (i + 1) 0).toNat (s.data.toList.getD (i + 2) 0).toNat (s.data.toList.getD (i + 3) 0).toNat
  rw [← Lib.decode_N] at hc
  obtain ⟨c1, c2, c3, c4⟩ := hc
  generalize (Utf8.decode s i).2 = n at *
  have g : ∀ k b, s.data.toList[k]? = some b → s.data.toList.getD k 0 = b := fun k b hb => by rw [List.getD_eq_getElem?_getD, hb]; rfl
  refine ⟨?_, fun k h1 h2 b hb => ?_⟩
  · rcases (show n = 1 ∨ 2 ≤ n by omega) with hn | hn
    · omega
    · have := c1 hn
      rcases (show n = 2 ∨ 3 ≤ n by omega) with hn3 | hn3
      · omega
      · have := c2 hn3
        rcases (show n = 3 ∨ 4 ≤ n by omega) with hn4 | hn4
        · omega
        · have := c3 hn4; omega
  · have hb' := g k b hb
    rcases (show k = i ∨ k = i + 1 ∨ k = i + 2 ∨ k = i + 3 by omega) with rfl | rfl | rfl | rfl
    · have e : s.data.toList[k]? = some (s[k]'hi) := by rw [List.getElem?_eq_getElem (by omega)]; rfl
      rw [hb] at e; cases e; exact h
    · have := (c1 (by omega)).1; rw [hb'] at this; omega
    · have := (c2 (by omega)).1; rw [hb'] at this; omega
    · have := (c3 (by omega)).1; rw [hb'] at this; omega
theorem noany_skip {s : ByteArray} {chars : Bs} {i n : Nat} (h : Lib.NoAny s.data.toList chars i) (ha : ∀ b ∈ chars, b.toNat < 128) (hs : ∀ k, i ≤ k → k < i + n → ∀ b, s.data.toList[k]? = some b → 128 ≤ b.toNat) : Lib.NoAny s.data.toList chars (i + n) := fun j b hj hb => by
  by_cases e : j < i
  · exact h j b e hb
  · have := hs j (by omega) hj b hb
    rw [Bool.eq_false_iff]
    intro hc
    have := ha b (by simpa using hc)
    omega
set_option maxRecDepth 100000 in
set_option maxHeartbeats 8000000 in
theorem iany_short (s chars : ByteArray) (w : World) (h2 : 2 ≤ chars.size) (h3 : chars.size ≤ 3) (hasc : ∀ b ∈ chars.data.toList, b.toNat < 128) (h8 : s.size ≤ 8) :
    Calls Tryd.prog 36 #[.string s, .string chars] w fun e w' => e = .returned (.int .i64 (Lib.indexAny s.data.toList chars.data.toList)) ∧ Below w.heap.size w w' := by
  have HA := Lib.hid hasc
  have hemp : chars.toList.isEmpty = false := by
    rw [Lib.toList_data]
    cases h : chars.data.toList with
    | nil => have := Lib.size_eq chars; rw [h, List.length_nil] at this; omega
    | cons _ _ => rfl
  have hn1 : ((chars.size : Int) == 1) = false := beq_eq_false_iff_ne.2 (by omega)
  have h8z : decide ((8 : Int) < (s.size : Int)) = false := decide_eq_false (by omega)
  have h8i : ¬ (8 : Int) < (s.size : Int) := by omega
  have hb0 := iter_below w s 0
  have hk0 := World.iter_heap w s 0
  have HB0 := Lib.hid (And.intro hb0 hk0)
  have HH := Lib.hid (And.intro h2 h3)
  clear hasc hb0 hk0 h2 h3
  go_enter Tryd.func36, Tryd.ntmps36
  go_wp2_with (go_at_call 48; refine (Tryd.strings_shouldUseASCIISet _ _).mono ?_; rintro e w' ⟨rfl, hw⟩; rw [hw, h8z])
  go_loopg [9, 10] s.size (fun g _ _ wx => ∃ i : Nat, i ≤ s.size ∧ s.size ≤ i + g ∧ wx.heap[w.heap.size]? = some (.stringIter s i) ∧ Below w.heap.size w wx ∧ Hid (Lib.NoAny s.data.toList chars.data.toList i))
  case atStart => exact ⟨0, Nat.zero_le _, by omega, HB0.out.2, HB0.out.1, Lib.hid (Lib.NoAny.zero _ _)⟩
  case round =>
    obtain ⟨i, hi, hig, hk, hbl, hno⟩ := hrel
    cases gk with
    | zero =>
      obtain rfl : i = s.size := by omega
      have hnx := fun ty => Lib.run_next_end_at (P := Tryd.prog) wr w.heap.size s s.size ty hk (by omega)
      have HF := Lib.hid hbl
      have hR : Lib.indexAny s.data.toList chars.data.toList = -1 := Lib.indexAny_none (by rw [bsize]; exact hno.out)
      have HR := Lib.hid hR
      clear hbl hk hR hno
      go_wp2
      go_ret
      exact ⟨by rw [HR.out]; rfl, HF.out⟩
    | succ g =>
      by_cases hlt : i < s.size
      · obtain ⟨x, hx⟩ : ∃ x : UInt8, s[i]'hlt = x := ⟨_, rfl⟩
        have hxl : s.data.toList[i]? = some x := by rw [← hx]; exact Lib.data_getElem? s i hlt
        by_cases hasci : x.toNat < 128
        · have hnx := fun ty => Lib.run_next_ascii_at (P := Tryd.prog) wr w.heap.size s i ty hk hlt (by rw [hx]; exact hasci)
          rw [hx] at hnx
          have hback : ((x.toNat : Int)).toNat.toUInt8 = x := by simp
          have hkn := Lib.iterAt_heap wr w.heap.size s i (i + 1) hk
          have hbn := Lib.below_iterAt hbl (Nat.le_refl _) s (i + 1)
          have c1 := fun W : World => Tryd.strings_IndexRune_ascii chars (x.toNat : Int) W (by omega) (by omega)
          rw [hback] at c1
          have hcon := Lib.contains_iff_indexByte chars.data.toList x
          have HX := Lib.hid (And.intro hxl (And.intro hkn hbn))
          clear hxl hx hk hbl hkn hbn hback
          cases hin : chars.data.toList.contains x with
          | false =>
            rw [hin] at hcon
            have hlt2 : ¬ ((0 : Int) ≤ Lib.indexByte chars.data.toList x) := of_decide_eq_false hcon.symm
            have HN := Lib.hid (hno.out.succ HX.out.1 hin)
            generalize Lib.indexByte chars.data.toList x = ib at *
            clear hcon hin hno hasci
            go_wp2_with fail
            refine (c1 _).mono ?_
            rintro e w' ⟨rfl, rfl⟩
            clear c1
            go_wp2
            go_roundg g
            case measure => omega
            case rel => exact ⟨i + 1, by omega, by omega, HX.out.2.1, HX.out.2.2, HN.out⟩
          | true =>
            rw [hin] at hcon
            have hge : (0 : Int) ≤ Lib.indexByte chars.data.toList x := of_decide_eq_true hcon.symm
            have HR := Lib.hid (Lib.indexAny_hit hno.out HX.out.1 hin)
            generalize Lib.indexByte chars.data.toList x = ib at *
            clear hcon hin hno hasci
            go_wp2_with fail
            refine (c1 _).mono ?_
            rintro e w' ⟨rfl, rfl⟩
            clear c1
            go_wp2
            go_ret
            exact ⟨by rw [HR.out]; rfl, HX.out.2.2⟩
        · have hh : 128 ≤ (s[i]'hlt).toNat := by rw [hx]; omega
          have hnx := fun ty => Lib.run_next_any_at (P := Tryd.prog) wr w.heap.size s i ty hk hlt
          obtain ⟨q1, q2⟩ := rune_bytes s i hlt hh
          have q3 := decode_high s i hlt hh
          have q4 := decode_le s i
          have hwd := Lib.decode_width_pos s i hlt
          have HN := Lib.hid (noany_skip hno.out HA.out q2)
          obtain ⟨n, hn⟩ : ∃ n, n = (Utf8.decode s i).2 := ⟨_, rfl⟩
          obtain ⟨r, hr⟩ : ∃ r : Int, r = ((Utf8.decode s i).1 : Int) := ⟨_, rfl⟩
          rw [← hn] at hnx HN q1 hwd
          rw [← hr] at hnx
          have hr1 : 128 ≤ r := by omega
          have hr2 : r ≤ 2147483647 := by omega
          have hkn := Lib.iterAt_heap wr w.heap.size s i (i + n) hk
          have hbn := Lib.below_iterAt hbl (Nat.le_refl _) s (i + n)
          have c1 := fun W : World => irune_high chars r W HH.out.1 HH.out.2 HA.out hr1 hr2
          have HX := Lib.hid (And.intro hkn hbn)
          clear hxl hx hk hbl hkn hbn hno q2 q3 q4 hn hr hh hasci hr1 hr2
          go_wp2_with fail
          refine (c1 _).mono ?_
          rintro e w9 ⟨rfl, hb9⟩
          have hk9 := (hb9.block _ (lt_of_block HX.out.1)).trans HX.out.1
          have HF := Lib.hid (And.intro hk9 (HX.out.2.trans (hb9.mono HX.out.2.size)))
          clear c1 hb9 hk9
          go_wp2
          go_roundg g
          case measure => omega
          case rel => exact ⟨i + n, by omega, by omega, HF.out.1, HF.out.2, HN.out⟩
      · obtain rfl : i = s.size := by omega
        have hnx := fun ty => Lib.run_next_end_at (P := Tryd.prog) wr w.heap.size s s.size ty hk (by omega)
        have HF := Lib.hid hbl
        have hR : Lib.indexAny s.data.toList chars.data.toList = -1 := Lib.indexAny_none (by rw [bsize]; exact hno.out)
        have HR := Lib.hid hR
        clear hbl hk hR hno
        go_wp2
        go_ret
        exact ⟨by rw [HR.out]; rfl, HF.out⟩
theorem iany_any (s chars : ByteArray) (w : World) (h2 : 2 ≤ chars.size) (h3 : chars.size ≤ 3) (hasc : ∀ b ∈ chars.data.toList, b.toNat < 128) (hs : s.size ≤ 9223372036854775807) :
    Calls Tryd.prog 36 #[.string s, .string chars] w fun e w' => e = .returned (.int .i64 (Lib.indexAny s.data.toList chars.data.toList)) ∧ Below w.heap.size w w' := by
  by_cases h8 : s.size ≤ 8
  · exact iany_short s chars w h2 h3 hasc h8
  · exact iany_long s chars w h2 h3 hasc (by omega) hs
theorem indexAny_any (s chars : Bs) : decide (0 ≤ Lib.indexAny s chars) = s.any fun c => chars.contains c := by
  induction s with
  | nil => rfl
  | cons b l ih =>
    rw [Lib.indexAny, List.any_cons]
    cases hc : chars.contains b with
    | true => rw [if_pos rfl]; rfl
    | false =>
      rw [if_neg (by decide), Bool.false_or, ← ih]
      have := Lib.indexAny_ge chars l
      by_cases h : Lib.indexAny l chars = -1
      · rw [h]; rfl
      · rw [if_neg (by rw [beq_iff_eq]; exact h)]
        rw [Bool.eq_iff_iff, decide_eq_true_iff, decide_eq_true_iff]; omega
theorem cany_any (s chars : ByteArray) (w : World) (h2 : 2 ≤ chars.size) (h3 : chars.size ≤ 3) (hasc : ∀ b ∈ chars.data.toList, b.toNat < 128) (hs : s.size ≤ 9223372036854775807) :
    Calls Tryd.prog 27 #[.string s, .string chars] w fun e w' => e = .returned (.bool (s.data.toList.any fun c => chars.data.toList.contains c)) ∧ Below w.heap.size w w' := by
  have c1 := iany_any s chars w h2 h3 hasc hs
  have hR := indexAny_any s.data.toList chars.data.toList
  generalize (s.data.toList.any fun c => chars.data.toList.contains c) = R at *
  generalize Lib.indexAny s.data.toList chars.data.toList = z at *
  clear hasc
  go_enter Tryd.func27, Tryd.ntmps27
  go_wp2_with fail
  refine c1.mono ?_
  rintro e w1 ⟨rfl, hb⟩
  have HB := Lib.hid hb
  have HR := Lib.hid hR
  clear c1 hb hR
  go_wp2
  go_ret
  exact ⟨ret_bool HR.out, HB.out⟩
/-- Does a body hold a byte that it must not? -/
theorem cbad_any (s : ByteArray) (w : World) (hs : s.size ≤ 9223372036854775807) :
    Calls Tryd.prog 27 #[.string s, .string ⟨#[0, 13, 10]⟩] w fun e w' => e = .returned (.bool (s.data.toList.any isBad)) ∧ Below w.heap.size w w' :=
  cany_any s ⟨#[0, 13, 10]⟩ w (by decide) (by decide) (by decide) hs
theorem cbl_any (s : ByteArray) (w : World) (hs : s.size ≤ 9223372036854775807) :
    Calls Tryd.prog 27 #[.string s, .string ⟨#[32, 9]⟩] w fun e w' => e = .returned (.bool (s.data.toList.any isBl)) ∧ Below w.heap.size w w' :=
  cany_any s ⟨#[32, 9]⟩ w (by decide) (by decide) (by decide) hs
end Go.Proofs.YtdaekoapkclliaaDoor
