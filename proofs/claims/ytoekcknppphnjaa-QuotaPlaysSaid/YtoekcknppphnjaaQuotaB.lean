/- More contracts of package quota: Give, Total, Copy. -/
import Derived.Test.YtoekcknppphnjaaQuotaA
import Derived.Deep.LoopGhost
set_option linter.unusedVariables false
set_option linter.unusedSimpArgs false
namespace Go.Proofs.Ytoekcknppphnjaa
open Go.RowKit

theorem drewN_heap (w : World) (n : Nat) : (w.drewN n).heap = w.heap := rfl
theorem take_any (b : Nat) (k : Book) (i n : Int) (w : World) (h : Bk w b k) :
    Calls Try.prog 10 #[.pointer (some ⟨b, 0, none⟩), .int .i64 i, .int .i64 n] w fun e w' => e = .returned (.int .i64 (takeC k i n)) ∧ Eff (· = b) w w' ∧ Bk w' b (takeB k i n) := by
  by_cases hi : 0 ≤ i ∧ i < k.L
  · obtain ⟨j, rfl⟩ := Int.eq_ofNat_of_zero_le hi.1
    by_cases hn : n < 0
    · have e : takeC k j n = 1 := by simp only [takeC]; rw [if_neg (by omega), if_pos hn]
      rw [takeB, e, if_neg (by decide)]
      exact (take_neg b k j n w h (by omega) (by omega) hn).mono fun _ _ ⟨a, q⟩ => ⟨a, q ▸ Eff.refl _ _, q ▸ h⟩
    · have hl : lf k j = nth k.B j - nth k.T j := by simp only [lf]; rw [if_pos hi]; rfl
      have ht : tk k j = nth k.T j := by simp only [tk]; rw [if_pos hi]; rfl
      by_cases hf : nth k.B j - nth k.T j < n
      · have e : takeC k j n = 5 := by simp only [takeC]; rw [if_neg (by omega), if_neg hn, hl, if_pos hf]
        rw [takeB, e, if_neg (by decide)]
        exact (take_full b k j n w h (by omega) (by omega) hf).mono fun _ _ ⟨a, m, q⟩ => ⟨a, q ▸ (Eff.refl _ _).drewN m, q ▸ h.drewN m⟩
      · have e : takeC k j n = 0 := by simp only [takeC]; rw [if_neg (by omega), if_neg hn, hl, if_neg hf]
        rw [takeB, e, if_pos rfl, ht]
        exact take_ok b k j n w h (by omega) (by omega) (by omega)
  · have e : takeC k i n = 4 := by simp only [takeC]; rw [if_pos hi]
    rw [takeB, e, if_neg (by decide)]
    exact (take_none b k i n w h hi).mono fun _ _ ⟨a, q⟩ => ⟨a, q ▸ Eff.refl _ _, q ▸ h⟩

set_option maxHeartbeats 400000 in
theorem give_none (b : Nat) (k : Book) (i n : Int) (w : World) (h : Bk w b k) (hi : ¬ (0 ≤ i ∧ i < k.L)) :
    Calls Try.prog 12 #[.pointer (some ⟨b, 0, none⟩), .int .i64 i, .int .i64 n] w fun e w' => e = .returned (.int .i64 4) ∧ w = w' := by
  have c1 := there_out b k i w h hi
  clear h hi
  go_enter Try.func12, Try.ntmps12
  go_wp2_with (go_at_call 18; refine c1.mono ?_; rintro e w' ⟨rfl, rfl⟩)
  go_ret
  exact ⟨rfl, rfl⟩
set_option maxHeartbeats 400000 in
theorem give_neg (b : Nat) (k : Book) (i n : Int) (w : World) (h : Bk w b k) (h1 : 0 ≤ i) (h2 : i < k.L) (hn : n < 0) :
    Calls Try.prog 12 #[.pointer (some ⟨b, 0, none⟩), .int .i64 i, .int .i64 n] w fun e w' => e = .returned (.int .i64 1) ∧ w = w' := by
  have c1 := there_in b k i w h h1 h2
  clear h h1 h2
  go_enter Try.func12, Try.ntmps12
  go_wp2_with (go_at_call 18; refine c1.mono ?_; rintro e w' ⟨rfl, rfl⟩)
  go_ret
  exact ⟨rfl, rfl⟩
set_option maxHeartbeats 400000 in
theorem give_less (b : Nat) (k : Book) (i : Nat) (n : Int) (w : World) (h : Bk w b k) (h2 : i < k.L) (hn : 0 ≤ n) (hf : nth k.T i < n) :
    Calls Try.prog 12 #[.pointer (some ⟨b, 0, none⟩), .int .i64 i, .int .i64 n] w fun e w' => e = .returned (.int .i64 1) ∧ w = w' := by
  have c1 := there_in b k i w h (by omega) (by omega)
  have c2 := taken_in b k i w h h2
  clear h h2
  generalize nth k.T i = q at *
  go_enter Try.func12, Try.ntmps12
  go_wp2_with (first | (go_at_call 18; refine c1.mono ?_; rintro e w' ⟨rfl, rfl⟩) | (go_at_call 15; refine c2.mono ?_; rintro e w' ⟨rfl, rfl⟩))
  go_ret
  exact ⟨rfl, rfl⟩
set_option maxHeartbeats 400000 in
theorem give_ok (b : Nat) (k : Book) (i : Nat) (n : Int) (w : World) (h : Bk w b k) (h2 : i < k.L) (hn : 0 ≤ n) (hf : n ≤ nth k.T i) :
    Calls Try.prog 12 #[.pointer (some ⟨b, 0, none⟩), .int .i64 i, .int .i64 n] w fun e w' => e = .returned (.int .i64 0) ∧ Eff (· = b) w w' ∧ Bk w' b (k.set i (nth k.T i - n)) := by
  have hL := h.ok.le
  have c1 := there_in b k i w h (by omega) (by omega)
  have c2 := taken_in b k i w h h2
  obtain ⟨i1, i2, i3⟩ := h.ok.inv i
  have hi1 : (0 : Int) ≤ (i : Int) := by omega
  have hi2 : (i : Int) < 16 := by omega
  have c3 := add_any ⟨b, 17 + i, none⟩ (nth k.T i) (-n) w (h.cellT i (by omega)) (h.free _) (by omega) (by omega)
  have hfin : Eff (· = b) w (w.setCell ⟨b, 17 + i, none⟩ (.int .i64 (nth k.T i + -n))) ∧ Bk (w.setCell ⟨b, 17 + i, none⟩ (.int .i64 (nth k.T i + -n))) b (k.set i (nth k.T i - n)) :=
    ⟨(Eff.refl (· = b) w).setCell (p := ⟨b, 17 + i, none⟩) (fun _ => rfl) _, by rw [← Int.sub_eq_add_neg]; exact h.set i h2 _ (by omega) (by omega)⟩
  have HF := Lib.hid hfin
  clear hfin h h2 hL
  generalize nth k.T i = t at *
  generalize nth k.B i = q at *
  go_enter Try.func12, Try.ntmps12
  go_wp2_with (first | (go_at_call 18; refine c1.mono ?_; rintro e w' ⟨rfl, rfl⟩) | (go_at_call 15; refine c2.mono ?_; rintro e w' ⟨rfl, rfl⟩) | (go_at_call 19; refine c3.mono ?_; rintro e w' ⟨rfl, rfl⟩))
  go_ret
  exact ⟨rfl, HF.out⟩
theorem give_any (b : Nat) (k : Book) (i n : Int) (w : World) (h : Bk w b k) :
    Calls Try.prog 12 #[.pointer (some ⟨b, 0, none⟩), .int .i64 i, .int .i64 n] w fun e w' => e = .returned (.int .i64 (giveC k i n)) ∧ Eff (· = b) w w' ∧ Bk w' b (giveB k i n) := by
  by_cases hi : 0 ≤ i ∧ i < k.L
  · obtain ⟨j, rfl⟩ := Int.eq_ofNat_of_zero_le hi.1
    have ht : tk k j = nth k.T j := by simp only [tk]; rw [if_pos hi]; rfl
    by_cases hn : n < 0
    · have e : giveC k j n = 1 := by simp only [giveC]; rw [if_neg (by omega), if_pos (.inl hn)]
      rw [giveB, e, if_neg (by decide)]
      exact (give_neg b k j n w h (by omega) (by omega) hn).mono fun _ _ ⟨a, q⟩ => ⟨a, q ▸ Eff.refl _ _, q ▸ h⟩
    · by_cases hf : nth k.T j < n
      · have e : giveC k j n = 1 := by simp only [giveC]; rw [if_neg (by omega), ht, if_pos (.inr hf)]
        rw [giveB, e, if_neg (by decide)]
        exact (give_less b k j n w h (by omega) (by omega) hf).mono fun _ _ ⟨a, q⟩ => ⟨a, q ▸ Eff.refl _ _, q ▸ h⟩
      · have e : giveC k j n = 0 := by simp only [giveC]; rw [if_neg (by omega), ht, if_neg (by omega)]
        rw [giveB, e, if_pos rfl, ht]
        exact give_ok b k j n w h (by omega) (by omega) (by omega)
  · have e : giveC k i n = 4 := by simp only [giveC]; rw [if_pos hi]
    rw [giveB, e, if_neg (by decide)]
    exact (give_none b k i n w h hi).mono fun _ _ ⟨a, q⟩ => ⟨a, q ▸ Eff.refl _ _, q ▸ h⟩

def sumTo (l : List Int) : Nat → Int
  | 0 => 0
  | n + 1 => sumTo l n + nth l n
theorem sumTo_bd {k : Book} (h : k.Ok) (n : Nat) : 0 ≤ sumTo k.T n ∧ sumTo k.T n ≤ n * 1099511627776 := by
  induction n with
  | zero => simp [sumTo]
  | succ n ih => have := h.inv n; simp only [sumTo]; omega

set_option maxHeartbeats 400000 in
theorem total_any (b : Nat) (k : Book) (w : World) (h : Bk w b k) :
    Calls Try.prog 17 #[.pointer (some ⟨b, 0, none⟩)] w fun e w' => e = .returned (.int .i64 (sumTo k.T k.L)) ∧ w = w' := by
  have h0 := h.cell0
  have hL := h.ok.le
  have c := fun (i : Nat) (hi : i < k.L) => taken_in b k i w h hi
  have hbd := fun n => sumTo_bd h.ok n
  clear h
  obtain ⟨L, B, T⟩ := k
  simp only at *
  go_enter Try.func17, Try.ntmps17
  go_wp2
  go_loop [3, 9] (fun t i => ∃ j : Nat, j ≤ L ∧ i = .int .i64 j ∧ t = .int .i64 (sumTo T j)) (fun _ i => L - (intOf i).toNat)
  case atStart => exact ⟨0, Nat.zero_le _, rfl, rfl⟩
  case round =>
    obtain ⟨j, hj, rfl, rfl⟩ := hrel
    have hb := hbd j
    have hb' := hbd (j + 1)
    have hs : sumTo T (j + 1) = sumTo T j + nth T j := rfl
    have HS := Lib.hid hs
    rw [hs] at hb'
    clear hs hbd
    by_cases hlt : j < L
    · have c1 := c j hlt
      clear c
      generalize sumTo T j = s0 at *
      generalize nth T j = t0 at *
      go_wp2_with (go_at_call 15; refine c1.mono ?_; rintro e w' ⟨rfl, rfl⟩)
      go_round
      case rel => exact ⟨j + 1, by omega, by go_num, by rw [HS.out]⟩
      case measure => simp [intOf]; omega
    · obtain rfl : j = L := by omega
      clear c
      go_wp2
      go_ret
      exact ⟨rfl, rfl⟩
end Go.Proofs.Ytoekcknppphnjaa
