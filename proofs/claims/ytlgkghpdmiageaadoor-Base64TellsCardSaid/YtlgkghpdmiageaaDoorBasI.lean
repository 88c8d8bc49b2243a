/- Package base64's law folder: awake. -/
import Derived.Test.YtlgkghpdmiageaaDoorBasH
set_option linter.unusedVariables false
set_option linter.unusedSimpArgs false
namespace Go.Proofs.YtlgkghpdmiageaaDoor
open Go.RowKit
theorem aw1 : decStr [97, 71, 86, 115, 98, 71, 56, 61] = ⟨#[104, 101, 108, 108, 111]⟩ ∧ decCode [97, 71, 86, 115, 98, 71, 56, 61] = 0 := ⟨by rfl, by rfl⟩
theorem aw2 : decStr [97, 71, 86, 115, 98, 71, 56] = ⟨#[]⟩ ∧ decCode [97, 71, 86, 115, 98, 71, 56] = 2 := ⟨by rfl, by rfl⟩
theorem aw3 : decStr [89, 81, 61, 61] = ⟨#[97]⟩ ∧ decCode [89, 81, 61, 61] = 0 ∧ decLen [89, 81, 61, 61] = 1 := ⟨by rfl, by rfl, by rfl⟩
theorem aw4 : enc [97] = [89, 81, 61, 61] := by decide +kernel
theorem aw5 : foldL (enc [97]) = [89, 81, 61, 61, 13, 10] := by decide +kernel
theorem aw6 : unf [89, 81, 61, 61, 13, 10] = some [97] := (unf_iff _ _).2 (by rw [← foldL_R, aw5])
theorem aw7 : unfStr [89, 81, 61, 61, 13, 10] = ⟨#[97]⟩ ∧ unfCode [89, 81, 61, 61, 13, 10] = 0 := by unfold unfStr unfCode; rw [aw6]; exact ⟨rfl, rfl⟩
set_option maxRecDepth 100000 in
set_option maxHeartbeats 4000000 in
theorem awake_any (w : World) (hm : MaxAt w) : Calls Tryd.prog 9 #[] w fun e w' => e = .returned (.bool true) ∧ Below w.heap.size w w' := by
  have c1 := decode_any ⟨#[97, 71, 86, 115, 98, 71, 56, 61]⟩ w (by decide)
  change Calls _ _ _ _ (fun e w' => e = .returned (.tuple #[.string (decStr [97, 71, 86, 115, 98, 71, 56, 61]), .int .i64 (decCode [97, 71, 86, 115, 98, 71, 56, 61])]) ∧ Below w.heap.size w w') at c1
  rw [aw1.1, aw1.2] at c1
  have HM := Lib.hid hm
  clear hm
  go_enter Tryd.func9, Tryd.ntmps9
  go_wp2_with fail
  refine c1.mono ?_
  rintro e w1 ⟨rfl, hb1⟩
  have c2 := decode_any ⟨#[97, 71, 86, 115, 98, 71, 56]⟩ w1 (by decide)
  change Calls _ _ _ _ (fun e w' => e = .returned (.tuple #[.string (decStr [97, 71, 86, 115, 98, 71, 56]), .int .i64 (decCode [97, 71, 86, 115, 98, 71, 56])]) ∧ Below w1.heap.size w1 w') at c2
  rw [aw2.1, aw2.2] at c2
  have H1 := Lib.hid hb1
  clear c1 hb1
  go_wp2_with fail
  refine c2.mono ?_
  rintro e w2 ⟨rfl, hb2⟩
  have H2 := Lib.hid (H1.out.trans (hb2.mono H1.out.size))
  have c3 := new_any w2
  clear c2 hb2
  go_wp2_with fail
  refine c3.mono ?_
  rintro e w3 ⟨rfl, hco, hb3⟩
  have H3 := Lib.hid (H2.out.trans (hb3.mono H2.out.size))
  have hgl : w.heap.size ≤ w2.heap.size := H2.out.size
  generalize w2.heap.size = g at *
  have c4 := codec_any g 0 ⟨#[89, 81, 61, 61]⟩ w3 hco (by decide) (by decide) (by decide)
  change Calls _ _ _ _ (fun e w' => e = .returned (.tuple #[.string (decStr [89, 81, 61, 61]), .int .i64 (decCode [89, 81, 61, 61])]) ∧ CoAt w' g (0 + ((decLen [89, 81, 61, 61] : Nat) : Int)) ∧ Eff (· = g) w3 w') at c4
  rw [aw3.1, aw3.2.1, aw3.2.2] at c4
  clear c3 hb3 hco
  go_wp2_with fail
  refine c4.mono ?_
  rintro e w4 ⟨rfl, hco4, he4⟩
  have H4 := Lib.hid (And.intro (H3.out.trans (he4.to_below H3.out.size (fun k hk => by rw [hk]; exact hgl))) hco4)
  have c5 := unfold_any ⟨#[89, 81, 61, 61, 13, 10]⟩ w4 (HM.out.below H4.out.1) (by decide)
  change Calls _ _ _ _ (fun e w' => e = .returned (.tuple #[.string (unfStr [89, 81, 61, 61, 13, 10]), .int .i64 (unfCode [89, 81, 61, 61, 13, 10])]) ∧ Below w4.heap.size w4 w') at c5
  rw [aw7.1, aw7.2] at c5
  clear c4 hco4 he4
  go_wp2_with fail
  refine c5.mono ?_
  rintro e w5 ⟨rfl, hb5⟩
  have H5 := Lib.hid (And.intro (H4.out.1.trans (hb5.mono H4.out.1.size)) (H4.out.2.belowW hb5))
  have c6 := encode_any ⟨#[97]⟩ w5 (by decide)
  change Calls _ _ _ _ (fun e w' => e = .returned (.string ⟨(enc [97]).toArray⟩) ∧ Below w5.heap.size w5 w') at c6
  rw [aw4] at c6
  clear c5 hb5
  go_wp2_with fail
  refine c6.mono ?_
  rintro e w6 ⟨rfl, hb6⟩
  have H6 := Lib.hid (And.intro (H5.out.1.trans (hb6.mono H5.out.1.size)) (H5.out.2.belowW hb6))
  have c7 := count_any g 1 w6 H6.out.2
  have c8 := fold_any ⟨#[97]⟩ w6 (by decide)
  change Calls _ _ _ _ (fun e w' => e = .returned (.string ⟨(foldL (enc [97])).toArray⟩) ∧ Below w6.heap.size w6 w') at c8
  rw [aw5] at c8
  clear c6 hb6
  go_wp2_with fail
  refine c7.mono ?_
  rintro e w6 ⟨rfl, rfl⟩
  go_wp2_with fail
  refine c8.mono ?_
  rintro e w8 ⟨rfl, hb8⟩
  have H8 := Lib.hid (H6.out.1.trans (hb8.mono H6.out.1.size))
  clear c7 c8 hb8
  go_wp2
  go_ret
  exact ⟨rfl, H8.out⟩
end Go.Proofs.YtlgkghpdmiageaaDoor
