/- The header laws' folder: awake. -/
import Derived.Test.YtdaekoapkclliaaDoorHdrM
set_option linter.unusedVariables false
set_option linter.unusedSimpArgs false
namespace Go.Proofs.YtdaekoapkclliaaDoor
open Go.RowKit
theorem fds_inj : ∀ {a b : List Fld}, fds a = fds b → a = b
  | [], [], _ => rfl
  | [], y :: b, h => by simp [fds] at h
  | x :: a, [], h => by simp [fds] at h
  | x :: a, y :: b, h => by
    obtain ⟨h1, h2⟩ := List.cons.inj (show fdb x :: fds a = fdb y :: fds b from h)
    obtain ⟨e1, e2⟩ := Prod.mk.inj h1
    rw [fds_inj h2, show x = y from Prod.ext (eq_data.2 e1) (eq_data.2 e2)]
def awA : List Fld := [(⟨#[83, 117, 98, 106, 101, 99, 116]⟩, ⟨#[97, 32, 98]⟩), (⟨#[88]⟩, ⟨#[]⟩)]
def awB : List Fld := [(⟨#[115, 117, 98, 106, 101, 99, 116]⟩, ⟨#[97, 32, 98]⟩)]
def awS : ByteArray := ⟨#[115, 117, 98, 106, 101, 99, 116, 58, 32, 97, 13, 10, 32, 98, 13, 10, 13, 10, 98, 111, 100, 121]⟩
theorem aw_pr : prE (fds awA) = 0 ∧ prT (fds awA) = [83, 117, 98, 106, 101, 99, 116, 58, 32, 97, 32, 98, 13, 10, 88, 58, 13, 10, 13, 10] := by decide +kernel
theorem aw_pa : paF awS.data.toList = (fds awB, [98, 111, 100, 121], 0) := by decide +kernel
theorem aw_pb : paF (⟨#[120]⟩ : ByteArray).data.toList = ([], [], 2) := by decide +kernel
theorem aw_get : getB awB (⟨#[83, 85, 66, 74, 69, 67, 84]⟩ : ByteArray).data.toList = (⟨#[97, 32, 98]⟩, true) := by decide +kernel
theorem aw_same : sameF (⟨#[65]⟩ : ByteArray).data.toList (⟨#[97]⟩ : ByteArray).data.toList = true := by decide +kernel
theorem aw_right : rtF (⟨#[115, 117, 98, 106, 101, 99, 116]⟩ : ByteArray).data.toList (⟨#[97, 32, 98]⟩ : ByteArray).data.toList = true := by decide +kernel
theorem aw_small : Small awA := by
  intro f hf
  simp only [awA, List.mem_cons, List.not_mem_nil, or_false] at hf
  rcases hf with rfl | rfl <;> decide
theorem aw_small2 : Small awB := by
  intro f hf
  simp only [awB, List.mem_cons, List.not_mem_nil, or_false] at hf
  subst hf; decide
theorem fldsIn_new (w : World) (xs : List Fld) (c : Nat) (hx : xs.length ≤ 1000) (cs : Array Value) (hcs : cs.toList = fcells xs) : FldsIn (w.alloc (.cells cs 38 (0, 0))) (some ⟨w.heap.size, 0, none⟩) xs.length xs := by
  refine ⟨rfl, by omega, fun _ => ⟨w.heap.size, 0, rfl, fun j hj => ?_⟩⟩
  have hg := heap_alloc_new w (.cells cs 38 (0, 0))
  obtain ⟨q1, q2⟩ := fcells_at xs j hj
  rw [cell_of_row _ _ _ _ _ _ hg, cell_of_row _ _ _ _ _ _ hg, Nat.zero_add, ← Array.getElem?_toList, ← Array.getElem?_toList, hcs]
  exact ⟨q1, q2⟩
set_option maxRecDepth 100000 in
set_option maxHeartbeats 8000000 in
theorem awake_any (w : World) (hm : MaxAt w) : Calls Tryd.prog 9 #[] w fun e w' => e = .returned (.bool true) ∧ Below w.heap.size w w' := by
  have b1 : Below w.heap.size w (w.alloc (.cells #[.string ⟨#[83, 117, 98, 106, 101, 99, 116]⟩, .string ⟨#[97, 32, 98]⟩, .string ⟨#[88]⟩, .string ⟨#[]⟩] 38 (0, 0))) := (Below.refl _ w).alloc (Nat.le_refl _) _
  have f1 := fldsIn_new w awA 2 (by decide) #[.string ⟨#[83, 117, 98, 106, 101, 99, 116]⟩, .string ⟨#[97, 32, 98]⟩, .string ⟨#[88]⟩, .string ⟨#[]⟩] rfl
  have hm1 := hm.below b1
  have c1 := print_any _ _ 2 awA _ f1 aw_small hm1
  rw [aw_pr.1, aw_pr.2] at c1
  go_enter Tryd.func9, Tryd.ntmps9
  go_wp2_with fail
  refine c1.mono ?_
  rintro e w2 ⟨rfl, hb2⟩
  have H2 := Lib.hid (b1.trans (hb2.mono b1.size))
  have hm2 := hm.below H2.out
  have c2 := parse_any awS w2 (by decide) hm2
  clear c1 b1 f1 hm1 hb2
  unfold awS at c2
  go_wp2_with fail
  refine c2.mono ?_
  rintro e w3 ⟨fs, A, n, c, hfs, hin, hsm, hle, rfl, hb3⟩
  have haw := aw_pa
  unfold awS at haw
  rw [haw] at hfs
  obtain rfl : fs = awB := fds_inj hfs
  obtain rfl : n = 1 := hin.len.symm
  have H3 := Lib.hid (H2.out.trans (hb3.mono H2.out.size))
  have c3 := parse_any ⟨#[120]⟩ w3 (by decide) (hm.below H3.out)
  rw [haw]
  clear c2 hm2 hb3 hle hfs haw
  go_wp2_with fail
  refine c3.mono ?_
  rintro e w4 ⟨fs2, A2, n2, c2, hfs2, hin2, hsm2, hle2, rfl, hb4⟩
  rw [aw_pb]
  have H4 := Lib.hid (H3.out.trans (hb4.mono H3.out.size))
  have hin4 := hin.below hb4
  have c4 := get_any A 1 c awB ⟨#[83, 85, 66, 74, 69, 67, 84]⟩ w4 hin4 aw_small2 (by decide)
  rw [aw_get] at c4
  clear c3 hb4 hle2 hfs2 hin2 hsm2 hin
  go_wp2_with fail
  refine c4.mono ?_
  rintro e w5 ⟨rfl, hb5⟩
  have H5 := Lib.hid (H4.out.trans (hb5.mono H4.out.size))
  obtain ⟨b, off, rfl, hc⟩ := (hin4.below hb5).cells (by omega)
  obtain ⟨e1, e2⟩ := hc 0 (by omega)
  have c5 := fun W => same_any ⟨#[65]⟩ ⟨#[97]⟩ W (by decide) (by decide)
  rw [aw_same] at c5
  have c6 := fun W => right_any ⟨#[115, 117, 98, 106, 101, 99, 116]⟩ ⟨#[97, 32, 98]⟩ W (by decide) (by decide)
  rw [aw_right] at c6
  have HC := Lib.hid (And.intro e1 e2)
  rw [show (fl awB 0).1 = ⟨#[115, 117, 98, 106, 101, 99, 116]⟩ from rfl] at e1
  rw [show (fl awB 0).2 = ⟨#[97, 32, 98]⟩ from rfl] at e2
  rw [Nat.zero_mul, Nat.add_zero] at e1 e2
  clear hc hin4 hb5 c4 hm
  go_wp2_with fail
  refine (c5 _).mono ?_
  rintro e w6 ⟨rfl, hb6⟩
  have k1 := (hb6.cell (p := ⟨b, off, none⟩) (World.block_lt_of_cell? _ _ e1)).trans e1
  have k2 := (hb6.cell (p := ⟨b, off + 1, none⟩) (World.block_lt_of_cell? _ _ e2)).trans e2
  have H6 := Lib.hid (H5.out.trans (hb6.mono H5.out.size))
  clear e1 e2 hb6 c5
  go_wp2_with fail
  refine (c6 _).mono ?_
  rintro e w7 ⟨rfl, hb7⟩
  have H7 := Lib.hid (H6.out.trans (hb7.mono H6.out.size))
  go_wp2
  go_ret
  exact ⟨rfl, H7.out⟩
end Go.Proofs.YtdaekoapkclliaaDoor
