/- Package sector's law folder: awake answers true; what a write does to a disk's numbers. -/
import Derived.Test.YtolkofnlihbncaaSectorC
set_option linter.unusedVariables false
set_option linter.unusedSimpArgs false
namespace Go.Proofs.Ytolkofnlihbncaa
open Go.RowKit
theorem wroteK_miss {k : Dk} {i : Nat} {s : List UInt8} (h : k.cut ≠ k.since + 1) : wroteK k i s = { k with data := putAt k.data (i * 64) (fill s), since := k.since + 1, all := k.all + 1 } := by unfold wroteK; rw [if_neg h]
theorem wroteK_hit {k : Dk} {i : Nat} {s : List UInt8} (h : k.cut = k.since + 1) : wroteK k i s = { k with data := putAt k.data (i * 64) ((fill s).take (tornN k)), cut := 0, torn := 0, since := k.since + 1, all := k.all + 1, down := true } := by unfold wroteK; rw [if_pos h]
theorem wroteC_miss {k : Dk} (h : k.cut ≠ k.since + 1) : wroteC k = 0 := by unfold wroteC; rw [if_neg h]
theorem wroteC_hit {k : Dk} (h : k.cut = k.since + 1) : wroteC k = 6 := by unfold wroteC; rw [if_pos h]
theorem writeK_in {k : Dk} {i : Nat} {s : List UInt8} (hd : k.down = false) (hi : i < k.n) (hs : s.length ≤ 64) : writeK k i s = wroteK k i s ∧ writeC k i s = wroteC k := by
  constructor
  · unfold writeK; rw [if_pos ⟨hd, ⟨by omega, by omega⟩, hs⟩]; rfl
  · unfold writeC; rw [if_neg (by simp [hd]), if_neg (fun h => h ⟨by omega, by omega⟩), if_neg (by omega)]
/-- An effect on a disk's own blocks, which lie behind 'base'. -/
theorem dk_below {w0 w w' : World} {g D : Nat} (hb : Below w0.heap.size w0 w) (he : Eff (fun b => b = g ∨ b = D) w w') (hg : w0.heap.size ≤ g) (hD : w0.heap.size ≤ D) : Below w0.heap.size w0 w' :=
  Eff.below (S := fun b => b = g ∨ b = D) hb he hb.size (fun x hx => by rcases hx with rfl | rfl <;> omega)
theorem dk_below1 {w0 w w' : World} {g : Nat} (hb : Below w0.heap.size w0 w) (he : Eff (· = g) w w') (hg : w0.heap.size ≤ g) : Below w0.heap.size w0 w' :=
  Eff.below (S := (· = g)) hb he hb.size (fun x hx => by subst hx; exact hg)
def K0 : Dk := newK 2
def K1 : Dk := armK K0 1 1
def K2 : Dk := writeK K1 0 [97, 98]
def K3 : Dk := startK K2
def K4 : Dk := writeK K3 1 [120]
set_option maxRecDepth 100000 in
theorem sec30 : readS K3 0 = ⟨(97 :: List.replicate 63 0).toArray⟩ := by rfl
set_option maxRecDepth 100000 in
set_option maxHeartbeats 2000000 in
theorem awake_any (w : World) : Calls Try.prog 7 #[] w fun e w' => e = .returned (.bool true) ∧ Below w.heap.size w w' := by
  go_enter Try.func7, Try.ntmps7
  go_wp2_with fail
  refine (new_in 2 w (by decide) (by decide)).mono ?_
  rintro e w1 ⟨rfl, hb1, hk⟩
  change DkAt w1 (w.heap.size + 1) w.heap.size 128 [] K0 at hk
  have HB : Hid (Below w.heap.size w w1) := hb1
  obtain ⟨g, hg⟩ : ∃ g, g = w.heap.size + 1 := ⟨_, rfl⟩
  rw [← hg] at hk ⊢
  have hgw : w.heap.size ≤ g := by omega
  clear hb1 hg
  go_wp2_with fail
  refine (new_no 0 w1 (.inl (by decide))).mono ?_
  rintro e _ ⟨rfl, rfl⟩
  go_wp2_with fail
  refine (arm_any g w.heap.size 128 [] K0 1 1 w1 hk).mono ?_
  rintro e w2 ⟨rfl, hE, hk2⟩
  replace HB : Hid (Below w.heap.size w w2) := dk_below1 HB.out hE hgw
  clear hk hE
  change DkAt w2 g w.heap.size 128 [] K1 at hk2
  go_wp2_with fail
  refine (write_any g w.heap.size 128 [] K1 0 ⟨#[97, 98]⟩ w2 hk2 (by decide) (by decide) (by decide) (by decide) (by decide)).mono ?_
  rw [show writeC K1 0 (⟨#[97, 98]⟩ : ByteArray).data.toList = 6 by decide]
  rintro e w3 ⟨rfl, hE, hk3⟩
  replace HB : Hid (Below w.heap.size w w3) := dk_below HB.out hE hgw (Nat.le_refl _)
  clear hk2 hE
  change DkAt w3 g w.heap.size 128 [] K2 at hk3
  go_wp2_with fail
  refine (down_any g w.heap.size 128 [] K2 w3 hk3).mono ?_
  rw [show K2.down = true by decide]
  rintro e _ ⟨rfl, rfl⟩
  go_wp2_with fail
  refine (start_any g w.heap.size 128 [] K2 w3 hk3).mono ?_
  rintro e w4 ⟨rfl, hE, hk4⟩
  replace HB : Hid (Below w.heap.size w w4) := dk_below1 HB.out hE hgw
  clear hk3 hE
  change DkAt w4 g w.heap.size 128 [] K3 at hk4
  go_wp2_with fail
  refine (read_any g w.heap.size 128 [] K3 0 w4 hk4).mono ?_
  rw [show readC K3 0 = 0 by decide, sec30]
  rintro e _ ⟨rfl, rfl⟩
  go_wp2_with fail
  refine (write_any g w.heap.size 128 [] K3 1 ⟨#[120]⟩ w4 hk4 (by decide) (by decide) (by decide) (by decide) (by decide)).mono ?_
  rw [show writeC K3 1 (⟨#[120]⟩ : ByteArray).data.toList = 0 by decide]
  rintro e w5 ⟨rfl, hE, hk5⟩
  replace HB : Hid (Below w.heap.size w w5) := dk_below HB.out hE hgw (Nat.le_refl _)
  clear hk4 hE
  change DkAt w5 g w.heap.size 128 [] K4 at hk5
  go_wp2_with fail
  refine (write_any g w.heap.size 128 [] K4 2 ⟨#[]⟩ w5 hk5 (by decide) (by decide) (by decide) (by decide) (by decide)).mono ?_
  rw [show writeC K4 2 (⟨#[]⟩ : ByteArray).data.toList = 1 by decide, show writeK K4 2 (⟨#[]⟩ : ByteArray).data.toList = K4 by rfl]
  rintro e w6 ⟨rfl, hE, hk6⟩
  replace HB : Hid (Below w.heap.size w w6) := dk_below HB.out hE hgw (Nat.le_refl _)
  clear hk5 hE
  go_wp2_with fail
  refine (size_any g w.heap.size 128 [] K4 w6 hk6).mono ?_
  rw [show ((K4.n : Nat) : Int) = 2 by decide]
  rintro e _ ⟨rfl, rfl⟩
  go_wp2_with fail
  refine (writes_any g w.heap.size 128 [] K4 w6 hk6).mono ?_
  rw [show K4.all = 2 by decide]
  rintro e _ ⟨rfl, rfl⟩
  go_wp2_with fail
  refine (down_any g w.heap.size 128 [] K4 w6 hk6).mono ?_
  rw [show K4.down = false by decide]
  rintro e _ ⟨rfl, rfl⟩
  go_wp2_with fail
  go_ret
  exact ⟨rfl, HB.out⟩
end Go.Proofs.Ytolkofnlihbncaa
