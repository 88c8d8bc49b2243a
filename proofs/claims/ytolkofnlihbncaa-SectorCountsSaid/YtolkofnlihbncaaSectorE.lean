/- Package sector's law folder: SectorCounts' walk. -/
import Derived.Test.YtolkofnlihbncaaSectorD
set_option linter.unusedVariables false
set_option linter.unusedSimpArgs false
namespace Go.Proofs.Ytolkofnlihbncaa
open Go.RowKit
set_option maxRecDepth 100000 in
set_option maxHeartbeats 4000000 in
theorem counts_all (a t : Int) (nn : Int) (w : World) (wa : (Lit.int .i64 a).wf = true ∧ (Lit.int .i64 t).wf = true) (wn : (Lit.int .u8 nn).wf = true) :
    Calls Try.prog 5 #[.agg #[.int .i64 a, .int .i64 t], .int .u8 nn] w fun e w' => e = .returned (.bool true) ∧ Below w.heap.size w w' := by
  have bn : 0 ≤ nn ∧ nn ≤ 255 := by simpa [Lit.wf, IntKind.min, IntKind.max, IntKind.signed, IntKind.bits] using wn
  obtain ⟨n, rfl⟩ := Int.eq_ofNat_of_zero_le bn.1
  obtain ⟨bn1, bn2⟩ := bn
  clear wa wn
  go_enter Try.func5, Try.ntmps5
  go_wp2_with fail
  have haw := awake_any (w.alloc (.cells #[.int .i64 a, .int .i64 t] 24))
  refine haw.mono ?_
  rintro e w1 ⟨rfl, hb1⟩
  have hm1 : w1.heap[w.heap.size]? = some (.cells #[.int .i64 a, .int .i64 t] 24 (0, 0)) := (hb1.block _ (by simp)).trans (heap_alloc_new _ _)
  have HB : Hid (Below w.heap.size w w1) := ((Below.refl _ w).alloc (Nat.le_refl _) _).trans (hb1.mono (by simp))
  have hs1 : w.heap.size < w1.heap.size := lt_of_block hm1
  clear haw hb1
  go_wp2_with fail
  refine (new_in 1 w1 (by decide) (by decide)).mono ?_
  rintro e w2 ⟨rfl, hb2, hk⟩
  have hm2 := (hb2.block _ hs1).trans hm1
  replace HB : Hid (Below w.heap.size w w2) := HB.out.trans (hb2.mono (by omega))
  obtain ⟨g, hg⟩ : ∃ g, g = w1.heap.size + 1 := ⟨_, rfl⟩
  rw [← hg] at hk ⊢
  generalize w1.heap.size = D at *
  have hDw : w.heap.size ≤ D := by omega
  have hgw : w.heap.size ≤ g := by omega
  have hCg : w.heap.size ≠ g := by omega
  have hCD : w.heap.size ≠ D := by omega
  clear hm1 hb2 hg hs1
  obtain ⟨q0, q1, _, _⟩ : w2.cell? ⟨w.heap.size, 0, none⟩ = some (.int .i64 a) ∧ w2.cell? ⟨w.heap.size, 1, none⟩ = some (.int .i64 t) ∧ True ∧ True := ⟨by rw [cell_of_row _ _ _ _ _ _ hm2]; rfl, by rw [cell_of_row _ _ _ _ _ _ hm2]; rfl, trivial, trivial⟩
  have HC := Lib.hid hCg
  have HCD := Lib.hid hCD
  clear hCg hCD
  go_wp2_with fail
  refine (arm_any g D (1 * 64) [] (newK 1) a t w2 hk).mono ?_
  rintro e w3 ⟨rfl, hE, hk3⟩
  replace HB : Hid (Below w.heap.size w w3) := dk_below1 HB.out hE hgw
  have hm3 := hE.heap hm2 HC.out
  clear hk hE hm2 q0 q1
  have HK : Hid ((armK (newK 1) a t).cut = (if a < 1 then 0 else a) ∧ (armK (newK 1) a t).since = 0 ∧ (armK (newK 1) a t).all = 0 ∧ (armK (newK 1) a t).down = false ∧ (armK (newK 1) a t).n = 1) := ⟨rfl, rfl, rfl, rfl, rfl⟩
  generalize armK (newK 1) a t = k1 at *
  go_wp2
  go_loopw [7] (fun i wr => ∃ (j : Nat) (k : Dk), 1 ≤ j ∧ j ≤ n + 1 ∧ i = .int .i64 j ∧ Below w.heap.size w wr ∧ wr.heap[w.heap.size]? = some (.cells #[.int .i64 a, .int .i64 t] 24 (0, 0)) ∧ DkAt wr g D (1 * 64) [] k ∧
      k.cut = (if a < 1 then 0 else a) ∧ k.since = (j : Int) - 1 ∧ k.all = (j : Int) - 1 ∧ k.down = false ∧ k.n = 1) (fun i _ => n + 1 - (intOf i).toNat)
  case atStart => exact ⟨1, k1, by decide, by omega, rfl, HB.out, hm3, hk3, HK.out.1, HK.out.2.1, HK.out.2.2.1, HK.out.2.2.2.1, HK.out.2.2.2.2⟩
  case round =>
    clear HB hm3 hk3 HK
    obtain ⟨j, k, hj1, hj, rfl, hbl, hm, hk, r1, r2, r3, r4, r5⟩ := hrel
    obtain ⟨wo, rfl⟩ : ∃ wo : World, wo = wr := ⟨_, rfl⟩
    by_cases hlt : j ≤ n
    · have HB : Hid (Below w.heap.size w wo) := hbl
      have hcut : k.cut = k.since + 1 ↔ a = (j : Int) := by rw [r1, r2]; split <;> omega
      have hin := writeK_in (k := k) (i := 0) (s := (⟨#[120]⟩ : ByteArray).data.toList) r4 (by omega) (by decide)
      have c1 := write_any g D (1 * 64) [] k 0 ⟨#[120]⟩ wo hk (by decide) (by omega) (by omega) (by omega) (by omega)
      rw [show (0 : Int) = ((0 : Nat) : Int) from rfl, hin.1, hin.2] at c1
      by_cases ha : a = (j : Int)
      · have hc := hcut.2 ha
        rw [wroteK_hit hc, wroteC_hit hc] at c1
        have HR := Lib.hid (And.intro r3 (And.intro r5 r2))
        clear r1 r2 r3 r4 r5 hcut hin hbl hc
        subst ha
        go_wp2_with fail
        refine c1.mono ?_
        rintro e w4 ⟨rfl, hE, hk4⟩
        replace HB : Hid (Below w.heap.size w w4) := dk_below HB.out hE hgw hDw
        have hm4 := hE.heap hm (fun e => by rcases e with e | e; exact HC.out e; exact HCD.out e)
        have q0 : w4.cell? ⟨w.heap.size, 0, none⟩ = some (.int .i64 (j : Int)) := by rw [cell_of_row _ _ _ _ _ _ hm4]; rfl
        clear hm hE c1 hk
        generalize hk' : ({ k with data := putAt k.data (0 * 64) (List.take (tornN k) (fill (⟨#[120]⟩ : ByteArray).data.toList)), cut := 0, torn := 0, since := k.since + 1, all := k.all + 1, down := true } : Dk) = k' at *
        have HK' : Hid (k'.cut = 0 ∧ k'.since = (j : Int) ∧ k'.all = (j : Int) ∧ k'.down = true ∧ k'.n = 1) := by subst hk'; exact ⟨rfl, by show k.since + 1 = _; have := HR.out.2.2; omega, by show k.all + 1 = _; have := HR.out.1; omega, rfl, HR.out.2.1⟩
        clear hk' HR
        have c2 := fun m => down_any g D (1 * 64) [] k' _ (hk4.drewN m)
        rw [HK'.out.2.2.2.1] at c2
        go_wp2
        go_quiet ((go_at_call 13; with_reducible exact quietly (c2 _)))
        go_wp2_with fail
        refine (c2 _).mono ?_
        rintro e _ ⟨rfl, rfl⟩
        go_wp2_with fail
        refine (start_any g D (1 * 64) [] k' _ (hk4.drewN nq)).mono ?_
        rintro e w5 ⟨rfl, hE5, hk5⟩
        replace HB : Hid (Below w.heap.size w w5) := dk_below1 (w := w4.drewN nq) ⟨HB.out.os, HB.out.tape, HB.out.output, HB.out.size, HB.out.block⟩ hE5 hgw
        clear hE5 c2 hk4 hm4 q0
        go_wp2
        go_loopw [9] (fun x wr => ∃ (y : Nat) (k : Dk), y ≤ 5 ∧ x = .int .i64 y ∧ Below w.heap.size w wr ∧ DkAt wr g D (1 * 64) [] k ∧ k.cut = 0 ∧ k.since = (y : Int) ∧ k.all = (j : Int) + y ∧ k.down = false ∧ k.n = 1) (fun x _ => 5 - (intOf x).toNat)
        case atStart => exact ⟨0, startK k', by decide, rfl, HB.out, hk5, HK'.out.1, rfl, by show k'.all = _; rw [HK'.out.2.2.1]; omega, rfl, HK'.out.2.2.2.2⟩
        case round =>
          clear HB hk5 HK'
          obtain ⟨y, k, hy, rfl, hbl, hk, r1, r2, r3, r4, r5⟩ := hrel
          by_cases hyl : y < 5
          · have hin := writeK_in (k := k) (i := 0) (s := (⟨#[121]⟩ : ByteArray).data.toList) r4 (by omega) (by decide)
            have c1 := write_any g D (1 * 64) [] k 0 ⟨#[121]⟩ wr hk (by decide) (by omega) (by omega) (by omega) (by omega)
            have hc : k.cut ≠ k.since + 1 := by omega
            rw [show (0 : Int) = ((0 : Nat) : Int) from rfl, hin.1, hin.2, wroteK_miss hc, wroteC_miss hc] at c1
            have HR := Lib.hid (And.intro r1 (And.intro r2 (And.intro r3 (And.intro r4 r5))))
            have HB : Hid (Below w.heap.size w wr) := hbl
            clear r1 r2 r3 r4 r5 hin hbl hc hk
            go_wp2_with fail
            refine c1.mono ?_
            rintro e w6 ⟨rfl, hE, hk6⟩
            replace HB : Hid (Below w.heap.size w w6) := dk_below HB.out hE hgw hDw
            clear c1 hE
            go_wp2_with fail
            go_roundw
            case rel => exact ⟨y + 1, _, by omega, by go_num, HB.out, hk6, HR.out.1, by show k.since + 1 = _; have := HR.out.2.1; omega, by show k.all + 1 = _; have := HR.out.2.2.1; omega, HR.out.2.2.2.1, HR.out.2.2.2.2⟩
            case measure => simp [intOf]; omega
          · obtain rfl : y = 5 := by omega
            have c2 := writes_any g D (1 * 64) [] k wr hk
            rw [r3] at c2
            clear r1 r2 r3 r4 r5 hk
            go_wp2_with (go_at_call 15; refine c2.mono ?_; rintro e w6 ⟨rfl, rfl⟩)
            go_ret
            exact ⟨ret_bool (by simp), hbl⟩
      · have hc : k.cut ≠ k.since + 1 := fun e => ha (hcut.1 e)
        rw [wroteK_miss hc, wroteC_miss hc] at c1
        have HR := Lib.hid (And.intro r1 (And.intro r2 (And.intro r3 (And.intro r4 r5))))
        have ha1 : (a == (j : Int)) = false := by simp [ha]
        have ha2 : (a != (j : Int)) = true := by simp [ha]
        clear r1 r2 r3 r4 r5 hcut hin hbl hc ha hk
        go_wp2_with fail
        refine c1.mono ?_
        rintro e w4 ⟨rfl, hE, hk4⟩
        replace HB : Hid (Below w.heap.size w w4) := dk_below HB.out hE hgw hDw
        have hm4 := hE.heap hm (fun e => by rcases e with e | e; exact HC.out e; exact HCD.out e)
        have q0 : w4.cell? ⟨w.heap.size, 0, none⟩ = some (.int .i64 a) := by rw [cell_of_row _ _ _ _ _ _ hm4]; rfl
        clear hm hE c1
        generalize hk' : ({ k with data := putAt k.data (0 * 64) (fill (⟨#[120]⟩ : ByteArray).data.toList), since := k.since + 1, all := k.all + 1 } : Dk) = k' at *
        have HK' : Hid (k'.cut = (if a < 1 then 0 else a) ∧ k'.since = (j : Int) ∧ k'.all = (j : Int) ∧ k'.down = false ∧ k'.n = 1) := by subst hk'; exact ⟨HR.out.1, by show k.since + 1 = _; have := HR.out.2.1; omega, by show k.all + 1 = _; have := HR.out.2.2.1; omega, HR.out.2.2.2.1, HR.out.2.2.2.2⟩
        clear hk' HR
        have c2 := fun m => down_any g D (1 * 64) [] k' _ (hk4.drewN m)
        rw [HK'.out.2.2.2.1] at c2
        have HM : Hid (∀ m, (w4.drewN m).heap[w.heap.size]? = some (.cells #[.int .i64 a, .int .i64 t] 24 (0, 0)) ∧ DkAt (w4.drewN m) g D (1 * 64) [] k' ∧ Below w.heap.size w (w4.drewN m)) := fun m => ⟨hm4, hk4.drewN m, ⟨HB.out.os, HB.out.tape, HB.out.output, HB.out.size, HB.out.block⟩⟩
        clear hk4 hm4
        go_wp2
        go_quiet ((go_at_call 13; with_reducible exact quietly (c2 _)))
        go_wp2_with fail
        refine (c2 _).mono ?_
        rintro e _ ⟨rfl, rfl⟩
        go_wp2_with fail
        go_roundw
        case rel => exact ⟨j + 1, k', by omega, by omega, by go_num, (HM.out _).2.2, (HM.out _).1, (HM.out _).2.1, HK'.out.1, by rw [HK'.out.2.1]; omega, by rw [HK'.out.2.2.1]; omega, HK'.out.2.2.2.1, HK'.out.2.2.2.2⟩
        case measure => simp [intOf]; omega
    · obtain rfl : j = n + 1 := by omega
      have c2 := writes_any g D (1 * 64) [] k wo hk
      rw [r3, show (((n + 1 : Nat) : Int) - 1) = (n : Int) by omega] at c2
      clear r1 r2 r3 r4 r5 hk hm
      go_wp2_with (go_at_call 15; refine c2.mono ?_; rintro e w6 ⟨rfl, rfl⟩)
      go_ret
      exact ⟨ret_bool (by simp), hbl⟩
end Go.Proofs.Ytolkofnlihbncaa
