/- The marking laws' folder: awake. -/
import Derived.Test.YtkmcifimhbmgnaaGreatDoorMrkC
set_option linter.unusedVariables false
set_option linter.unusedSimpArgs false
namespace Go.Proofs.YtkmcifimhbmgnaaGreatDoor
open Go.RowKit
def hello : Bs := [104, 101, 108, 108, 111]
def awM : List Bs := [[76, 79, 87], [72, 73, 71, 72]]
theorem awm_ok : LatOk awM [] := (latR_iff _ _).1 (by decide)
def awS : Bs := [77, 65, 82, 75, 58, 32, 72, 73, 71, 72, 13, 10, 104, 101, 108, 108, 111]
theorem awm_mk : mkT awM [] 1 0 hello = awS ∧ lprE awM [] 1 0 = 0 := by decide
theorem awm_eq : mlF awM [] 1 0 ++ 13 :: 10 :: hello = awS := by decide
theorem awm_rd : rdF awM [] awS = (1, 0, hello, 0) := by rw [← awm_eq]; exact rdF_mark awm_ok (by decide) (by decide) hello
theorem awm_rd2 : rdF awM [] hello = (0, 0, [], 11) := by
  unfold rdF
  rw [(latR_iff _ _).2 awm_ok, show Lib.hasPrefix (mLine hello) mword = false by decide +kernel]; rfl
theorem awm_ck : ckF awM [] 0 0 awS = 8 := by
  unfold ckF
  rw [awm_rd, if_pos rfl, if_neg]
  rw [Bool.not_eq_true, domB_false]; rintro ⟨h, _⟩; revert h; decide
theorem awm_ck2 : ckF awM [] 1 0 awS = 0 := by
  unfold ckF
  rw [awm_rd, if_pos rfl, if_pos]
  rw [domB_true]; exact ⟨by decide, subB.zero _⟩
theorem nms_awL : nms awL = awM := rfl
theorem nms_nil : nms ([] : List ByteArray) = [] := rfl
set_option maxRecDepth 100000 in
set_option maxHeartbeats 8000000 in
theorem awake2_any (w : World) (hm : MaxAt w) : Calls Tryz.prog 6 #[] w fun e w' => e = .returned (.bool true) ∧ Below w.heap.size w w' := by
  have g1 := heap_alloc_new w (.cells #[.string ⟨#[76, 79, 87]⟩, .string ⟨#[72, 73, 71, 72]⟩] 9 (0, 0))
  have b1 : Below w.heap.size w (w.alloc (.cells #[.string ⟨#[76, 79, 87]⟩, .string ⟨#[72, 73, 71, 72]⟩] 9 (0, 0))) := (Below.refl _ w).alloc (Nat.le_refl _) _
  have e1 : (w.alloc (.cells #[.string ⟨#[76, 79, 87]⟩, .string ⟨#[72, 73, 71, 72]⟩] 9 (0, 0))).heap.size = w.heap.size + 1 := by show (w.heap.push _).size = _; rw [Array.size_push]
  have hm1 := hm.below b1
  go_enter Tryz.func6, Tryz.ntmps6
  go_wp2_with fail
  generalize w.alloc (.cells #[.string ⟨#[76, 79, 87]⟩, .string ⟨#[72, 73, 71, 72]⟩] 9 (0, 0)) = x2 at *
  have s1 : SlIn x2 (.slice (some ⟨w.heap.size, 0, none⟩) 2 2) awL := slIn_row (l := awL) g1 (by decide)
  have s2 : SlIn x2 (.slice none 0 0) [] := ⟨none, 0, rfl, ⟨rfl, by decide, fun h => absurd h (by decide)⟩, fun _ => rfl⟩
  generalize Value.slice (some ⟨w.heap.size, 0, none⟩) 2 2 = V1 at *
  generalize Value.slice none 0 0 = V2 at *
  have g3 := heap_alloc_new x2 (.cells #[V1, V2] 24 (0, 0))
  have b3 : Below x2.heap.size x2 (x2.alloc (.cells #[V1, V2] 24 (0, 0))) := (Below.refl _ x2).alloc (Nat.le_refl _) _
  have hm3 := hm1.below b3
  have s1 := s1.below b3
  have s2 := s2.below b3
  have b3 := b1.trans (b3.mono b1.size)
  rw [e1] at g3
  generalize x2.alloc (.cells #[V1, V2] 24 (0, 0)) = wa at *
  have HA := Lib.hid (And.intro s1 (And.intro s2 (And.intro g3 (And.intro hm3 b3))))
  clear s1 s2 g1 g3 hm hm1 hm3 b1 b3 e1
  have c1 := mark_any V1 V2 awL [] 1 0 ⟨#[104, 101, 108, 108, 111]⟩ wa HA.out.1 HA.out.2.1 (by decide) (by decide) (by decide)
  rw [show (⟨#[104, 101, 108, 108, 111]⟩ : ByteArray).data.toList = hello from rfl, nms_awL, nms_nil, awm_mk.1, awm_mk.2] at c1
  unfold labV at c1
  refine c1.mono ?_
  rintro e w1 ⟨rfl, hb1⟩
  obtain ⟨k0, k1⟩ := agg_keep HA.out.2.2.1 hb1
  have H1 := Lib.hid hb1
  clear c1 hb1
  have c2 := read_any V1 V2 awL [] ⟨awS.toArray⟩ w1 (HA.out.1.below H1.out) (HA.out.2.1.below H1.out) (by decide) (by decide) (HA.out.2.2.2.1.below H1.out)
  rw [show (⟨awS.toArray⟩ : ByteArray).data.toList = awS by simp, nms_awL, nms_nil, awm_rd] at c2
  go_wp2_with fail
  refine c2.mono ?_
  rintro e w2 ⟨rfl, hb2⟩
  have hb2a := H1.out.trans (hb2.mono H1.out.size)
  have hbl : Below w2.heap.size w2 (w2.alloc (.cells #[.int .i64 1, .int .u64 0] 27 (0, 0))) := (Below.refl _ w2).alloc (Nat.le_refl _) _
  have gl := heap_alloc_new w2 (.cells #[.int .i64 1, .int .u64 0] 27 (0, 0))
  have hb3 := hb2a.trans (hbl.mono hb2a.size)
  obtain ⟨k0', k1'⟩ := agg_keep HA.out.2.2.1 hb3
  have H3 := Lib.hid (And.intro hb3 gl)
  clear k0 k1 hb2 hb2a hbl gl hb3 c2
  unfold labV
  go_wp2_with fail
  generalize w2.alloc (.cells #[.int .i64 1, .int .u64 0] 27 (0, 0)) = w3 at *
  have c3 := read_any V1 V2 awL [] ⟨#[104, 101, 108, 108, 111]⟩ w3 (HA.out.1.below H3.out.1) (HA.out.2.1.below H3.out.1) (by decide) (by decide) (HA.out.2.2.2.1.below H3.out.1)
  rw [show (⟨#[104, 101, 108, 108, 111]⟩ : ByteArray).data.toList = hello from rfl, nms_awL, nms_nil, awm_rd2] at c3
  refine c3.mono ?_
  rintro e w4 ⟨rfl, hb4⟩
  have hb4a := H3.out.1.trans (hb4.mono H3.out.1.size)
  have hbl : Below w4.heap.size w4 (w4.alloc (.cells #[.int .i64 0, .int .u64 0] 27 (0, 0))) := (Below.refl _ w4).alloc (Nat.le_refl _) _
  have gl := (hbl.block _ (Nat.lt_of_lt_of_le (lt_of_block H3.out.2) hb4.size)).trans ((hb4.block _ (lt_of_block H3.out.2)).trans H3.out.2)
  have hb5 := hb4a.trans (hbl.mono hb4a.size)
  obtain ⟨k0, k1⟩ := agg_keep HA.out.2.2.1 hb5
  obtain ⟨q0, q1⟩ := agg_keep gl (Below.refl _ _)
  have H5 := Lib.hid (And.intro hb5 gl)
  clear k0' k1' hb4 hb4a hbl gl hb5 c3
  unfold labV
  go_wp2_with fail
  generalize w4.alloc (.cells #[.int .i64 0, .int .u64 0] 27 (0, 0)) = w5 at *
  have c4 := mcheck_any V1 V2 awL [] 0 0 ⟨awS.toArray⟩ w5 (HA.out.1.below H5.out.1) (HA.out.2.1.below H5.out.1) (by decide) (by decide) (by decide) (HA.out.2.2.2.1.below H5.out.1)
  rw [show (⟨awS.toArray⟩ : ByteArray).data.toList = awS by simp, nms_awL, nms_nil, awm_ck] at c4
  unfold labV at c4
  refine c4.mono ?_
  rintro e w6 ⟨rfl, hb6⟩
  have hb6a := H5.out.1.trans (hb6.mono H5.out.1.size)
  have gl := (hb6.block _ (lt_of_block H5.out.2)).trans H5.out.2
  obtain ⟨k0', k1'⟩ := agg_keep HA.out.2.2.1 hb6a
  obtain ⟨q0', q1'⟩ := agg_keep gl (Below.refl _ _)
  have H6 := Lib.hid hb6a
  clear k0 k1 q0 q1 hb6 hb6a gl c4
  have c5 := mcheck_any V1 V2 awL [] 1 0 ⟨awS.toArray⟩ w6 (HA.out.1.below H6.out) (HA.out.2.1.below H6.out) (by decide) (by decide) (by decide) (HA.out.2.2.2.1.below H6.out)
  rw [show (⟨awS.toArray⟩ : ByteArray).data.toList = awS by simp, nms_awL, nms_nil, awm_ck2] at c5
  unfold labV at c5
  go_wp2_with fail
  refine c5.mono ?_
  rintro e w9 ⟨rfl, hb9⟩
  have H9 := Lib.hid ((HA.out.2.2.2.2.trans (H6.out.mono HA.out.2.2.2.2.size)).trans (hb9.mono (Nat.le_trans HA.out.2.2.2.2.size H6.out.size)))
  clear hb9 c5
  go_wp2
  go_ret
  exact ⟨rfl, H9.out⟩
end Go.Proofs.YtkmcifimhbmgnaaGreatDoor
