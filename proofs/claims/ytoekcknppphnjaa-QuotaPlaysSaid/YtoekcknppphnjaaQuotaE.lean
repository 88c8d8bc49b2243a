/- Package quota's law folder: awake answers true. -/
import Derived.Test.YtoekcknppphnjaaQuotaD
set_option linter.unusedVariables false
set_option linter.unusedSimpArgs false
namespace Go.Proofs.Ytoekcknppphnjaa
open Go.RowKit
def K0 : Book := newBook [5, 7]
def K1 : Book := takeB K0 0 5
def K2 : Book := giveB K1 0 2
theorem Bk.keep {w w' : World} {b : Nat} {k : Book} (h : Bk w b k) (he : Below w.heap.size w w') : Bk w' b k := ⟨h.ok, (he.block b h.lt).trans h.heap⟩
theorem left_b (b : Nat) (k : Book) (i : Int) (w : World) (h : Bk w b k) :
    Calls Try.prog 16 #[.pointer (some ⟨b, 0, none⟩), .int .i64 i] w fun e w' => e = .returned (.int .i64 (lf k i)) ∧ Below w.heap.size w w' :=
  (left_any b k i w h).mono fun _ _ ⟨p, _, q⟩ => ⟨p, q ▸ ⟨rfl, rfl, rfl, Nat.le_refl _, fun _ _ => rfl⟩⟩
set_option maxHeartbeats 1000000 in
theorem awake_any (w : World) : Calls Try.prog 7 #[] w fun e w' => e = .returned (.bool true) ∧ Below w.heap.size w w' := by
  have hcs : ∀ j, j < 2 → (w.alloc (.cells #[.int .i64 5, .int .i64 7] 3)).cell? ⟨w.heap.size, 0 + j, none⟩ = some (.int .i64 (nth [5, 7] j)) := by
    intro j hj
    match j, hj with
    | 0, _ => simp [nth]
    | 1, _ => simp [nth]
  have n1 := new_some w.heap.size 0 2 2 (w.alloc (.cells #[.int .i64 5, .int .i64 7] 3)) [5, 7] rfl (by decide) (by decide) hcs
  have N1 := Lib.hid n1
  clear n1 hcs
  go_enter Try.func7, Try.ntmps7
  go_wp2_with fail
  refine N1.out.mono ?_
  clear N1
  generalize hg0 : (w.alloc (.cells #[.int .i64 5, .int .i64 7] 3)).heap.size = g0
  rintro e w1 ⟨hb1, ⟨_, rfl, hB⟩ | ⟨hf, _⟩⟩
  · have hg : w.heap.size < g0 := by rw [← hg0]; simp
    have hw1 := hb1.size
    go_wp2_with fail
    refine (new_len none 0 0 w1 [] rfl (by decide) (.inl (by decide))).mono ?_
    rintro e w2 ⟨hb2, ⟨hf, _⟩ | ⟨_, rfl⟩⟩
    · exact absurd hf (by decide)
    have hB2 : Bk w2 g0 K0 := by rw [← hg0]; exact hB.keep hb2
    go_wp2_with fail
    have HW : Hid (Below w.heap.size w w2) := (((Below.refl _ w).alloc (Nat.le_refl _) _).trans (hb1.mono (by simp))).trans (hb2.mono (by have := hb1.size; simp at this; omega))
    have HG := Lib.hid hg
    clear hb1 hb2 hB hw1 hg0 hg
    refine (take_any g0 K0 0 5 w2 hB2).mono ?_
    rw [show takeC K0 0 5 = 0 by decide]
    rintro e w3 ⟨rfl, hE3, hB3⟩
    clear hB2
    go_wp2_with fail
    refine (take_any g0 K1 0 1 w3 hB3).mono ?_
    rw [show takeC K1 0 1 = 5 by decide]
    rintro e w4 ⟨rfl, hE4, hB4⟩
    clear hB3
    go_wp2_with fail
    refine (give_any g0 K1 0 2 w4 hB4).mono ?_
    rw [show giveC K1 0 2 = 0 by decide]
    rintro e w5 ⟨rfl, hE5, hB5⟩
    clear hB4
    have HW5 : Hid (Below w.heap.size w w5) := Eff.below (Eff.below (Eff.below HW.out hE3 HW.out.size fun k hk => by have := HG.out; omega) hE4 (Nat.le_trans HW.out.size hE3.size) fun k hk => by have := HG.out; omega) hE5
      (Nat.le_trans (Nat.le_trans HW.out.size hE3.size) hE4.size) fun k hk => by have := HG.out; omega
    clear HW hE3 hE4 hE5
    go_wp2_with fail
    refine (taken_any g0 K2 0 w5 hB5).mono ?_
    rw [show tk K2 0 = 3 by decide]
    rintro e _ ⟨rfl, rfl⟩
    go_wp2_with fail
    refine (left_b g0 K2 0 w5 hB5).mono ?_
    rw [show lf K2 0 = 2 by decide]
    rintro e w6 ⟨rfl, hb6⟩
    have hB6 := hB5.keep hb6
    have HW6 : Hid (Below w.heap.size w w6) := HW5.out.trans (hb6.mono HW5.out.size)
    clear hB5 hb6 HW5
    go_wp2_with fail
    refine (left_b g0 K2 1 _ hB6).mono ?_
    rw [show lf K2 1 = 7 by decide]
    rintro e w7 ⟨rfl, hb7⟩
    have hB7 := hB6.keep hb7
    have HW7 : Hid (Below w.heap.size w w7) := HW6.out.trans (hb7.mono HW6.out.size)
    clear hB6 hb7 HW6
    go_wp2_with fail
    refine (total_any g0 K2 _ hB7).mono ?_
    rw [show sumTo K2.T K2.L = 3 by decide]
    rintro e _ ⟨rfl, rfl⟩
    go_wp2_with fail
    refine (take_any g0 K2 2 0 w7 hB7).mono ?_
    rw [show takeC K2 2 0 = 4 by decide, show takeB K2 2 0 = K2 by rfl]
    rintro e w8 ⟨rfl, hE8, hB8⟩
    have HW8 : Hid (Below w.heap.size w w8) := Eff.below HW7.out hE8 HW7.out.size fun k hk => by have := HG.out; omega
    clear hB7 hE8 HW7
    go_wp2_with fail
    refine (copy_any g0 K2 w8 hB8).mono ?_
    rintro e w9 ⟨rfl, hb9, hB9⟩
    have HW9 : Hid (Below w.heap.size w w9) := HW8.out.trans (hb9.mono HW8.out.size)
    generalize w8.heap.size = g1 at *
    clear hB8 hb9 HW8
    go_wp2_with fail
    refine (taken_any g1 K2 0 w9 hB9).mono ?_
    rw [show tk K2 0 = 3 by decide]
    rintro e _ ⟨rfl, rfl⟩
    go_wp2_with fail
    go_ret
    exact ⟨rfl, HW9.out⟩
  · exact absurd hf (by decide)
end Go.Proofs.Ytoekcknppphnjaa
