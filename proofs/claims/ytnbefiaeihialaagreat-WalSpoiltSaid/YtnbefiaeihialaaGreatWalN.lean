/- Package wal: lay. -/
import Derived.Test.YtnbefiaeihialaaGreatWalM
import Derived.Deep.QuietTactic
set_option linter.unusedVariables false
set_option linter.unusedSimpArgs false
namespace Go.Proofs.YtnbefiaeihialaaGreat
open Go.RowKit
/-- A disk's counts are small. -/
structure Cnt (k : Dk) (N : Nat) : Prop where
  a : 0 ≤ k.since
  b : k.since ≤ N
  c : 0 ≤ k.all
  d : k.all ≤ N
theorem Cnt.mono {k : Dk} {N M : Nat} (h : Cnt k N) (hm : N ≤ M) : Cnt k M := ⟨h.a, by have := h.b; omega, h.c, by have := h.d; omega⟩
theorem Cnt.write {k : Dk} {N : Nat} (h : Cnt k N) (i : Int) (s : Bs) : Cnt (writeK k i s) (N + 1) := by
  obtain ⟨a, b, c, d⟩ := h
  unfold writeK wroteK
  (repeat' split) <;> first | exact ⟨by show 0 ≤ k.since + 1; omega, by show k.since + 1 ≤ _; omega, by show 0 ≤ k.all + 1; omega, by show k.all + 1 ≤ _; omega⟩ | exact ⟨a, by omega, c, by omega⟩
def remW (first : Nat) (b : Bs) (r : Nat) : List (Nat × Bs) := (List.range r).reverse.map fun i => (first + i, chunk b i)
theorem remW_succ (first : Nat) (b : Bs) (r : Nat) : remW first b (r + 1) = (first + r, chunk b r) :: remW first b r := by
  unfold remW; rw [List.range_succ, List.reverse_append]; rfl
theorem chunk_ext {lb : ByteArray} {b : Bs} {i : Nat} (h : lb.data.toList = laidF b) : (lb.extract (i * 64) (min lb.size ((i + 1) * 64))).data.toList = chunk b i := by
  rw [ext_list, h]
  unfold chunk
  have hl : (laidF b).length = lb.size := by rw [← h, bsize]
  rcases Nat.lt_or_ge lb.size ((i + 1) * 64) with h1 | h1
  · rw [Nat.min_eq_left (by omega), List.take_of_length_le (by rw [List.length_drop]; omega), List.take_of_length_le (by rw [List.length_drop]; omega)]
  · rw [Nat.min_eq_right h1]; congr 1; omega
set_option maxRecDepth 100000 in
set_option maxHeartbeats 16000000 in
theorem lay_any (s g D c : Nat) (R : List Value) (k : Dk) (st : St) (mb : Nat) (d : Int) (tab : List Int) (side at_ N : Nat) (b : ByteArray) (w : World) (h : StB w s g st mb d 0 tab) (hk : DkAt w g D c R k) (hsg : s ≠ g) (hsD : s ≠ D)
    (hc : Cnt k N) (hN : N ≤ 100000000000) (hb : b.size ≤ 1000000000) (h1 : side ≤ 1) (h2 : st.from_ ≤ 100000) (h3 : st.half ≤ 100000) (h4 : at_ ≤ 100000) :
    Calls Tryz.prog 38 #[.pointer (some ⟨s, 0, none⟩), .int .i64 side, .int .i64 at_, .string b] w fun e w' => e = .returned (.int .i64 (wrL k (layW (st.from_ + side * st.half + at_) st.half at_ b.data.toList)).2) ∧ DkAt w' g D c R (wrL k (layW (st.from_ + side * st.half + at_) st.half at_ b.data.toList)).1 ∧ Eff (fun x => x = g ∨ x = D) w w' ∧ Cnt (wrL k (layW (st.from_ + side * st.half + at_) st.half at_ b.data.toList)).1 (N + 20000000) := by
  have hb0 : (0 : Int) ≤ (b.size : Int) := by omega
  obtain ⟨n, hn⟩ : ∃ n, n = secN b.size := ⟨_, rfl⟩
  have hn1 : 1 ≤ n := by rw [hn]; exact secN_pos _
  have hn2 : n ≤ 15625001 := by rw [hn]; unfold secN; omega
  obtain ⟨F, hF⟩ : ∃ F, F = st.from_ + side * st.half + at_ := ⟨_, rfl⟩
  have hFb : F ≤ 300000 := by
    rw [hF]
    have : side * st.half ≤ 1 * st.half := Nat.mul_le_mul_right _ h1
    omega
  have hFi : ((st.from_ : Int) + (side : Int) * (st.half : Int)) + (at_ : Int) = (F : Int) := by rw [hF]; simp
  have hlw : layW F st.half at_ b.data.toList = (if at_ + n < st.half then [(F + n, [])] else []) ++ remW F b.data.toList n := by
    unfold layW; rw [bsize, ← hn]; rfl
  rw [← hF, hlw]
  obtain ⟨ws, hws⟩ : ∃ ws, ws = (if at_ + n < st.half then [(F + n, ([] : Bs))] else []) ++ remW F b.data.toList n := ⟨_, rfl⟩
  rw [← hws]
  have HWS := Lib.hid hws
  clear hws
  obtain ⟨lb, hlb⟩ : ∃ lb : ByteArray, lb = ⟨(laidF b.data.toList).toArray⟩ := ⟨_, rfl⟩
  have hlbd : lb.data.toList = laidF b.data.toList := by rw [hlb]
  have hlbs : lb.size = max b.size 63 + 1 := by rw [← bsize, hlbd, laid_len, bsize]
  obtain ⟨c0, c1, c2, c3, c4, c5, c6, c7, c8, c9⟩ := h.cells
  have cs := fun W => sectors_any b.size W (by omega)
  rw [← hn] at cs
  have cl := fun W => laid_any b W (by omega)
  rw [← hlb] at cl
  have H := Lib.hid (And.intro h (And.intro hk (And.intro hc (And.intro hlbd hn))))
  have hside : (0 : Int) ≤ (side : Int) := by omega
  have hfrom0 : (0 : Int) ≤ (st.from_ : Int) := by omega
  have hhalf0 : (0 : Int) ≤ (st.half : Int) := by omega
  have hat0 : (0 : Int) ≤ (at_ : Int) := by omega
  have hsh0 : (0 : Int) ≤ (side : Int) * (st.half : Int) := Int.mul_nonneg hside hhalf0
  have hsh1 : (side : Int) * (st.half : Int) ≤ 100000 := by
    have : side * st.half ≤ 1 * st.half := Nat.mul_le_mul_right _ h1
    have e : (side : Int) * (st.half : Int) = ((side * st.half : Nat) : Int) := by simp
    omega
  have HLS := Lib.hid hlbs
  have hn0 : (0 : Int) ≤ (n : Int) := by omega
  have hF0 : (0 : Int) ≤ (F : Int) := by omega
  clear h hk hc hlb hlbd hlbs hn hlw hF c4 c5 c6 c7 c8 c9
  go_enter Tryz.func38, Tryz.ntmps38
  go_upto_region 1 with fail
  go_quiet ((go_at_call 39; with_reducible exact quietly (cs _)))
  go_wp2_with fail
  refine (cl _).mono ?_
  rintro e w1 ⟨rfl, hb1⟩
  have hB1 := below_undrewN hb1
  have hE1 : Eff (fun x => x = g ∨ x = D) w w1 := Eff.of_below hB1 _
  have hst1 := H.out.1.below hB1
  have hk1 := H.out.2.1.below hB1
  obtain ⟨c0, c1, c2, c3, -⟩ := hst1.cells
  have H1 := Lib.hid (And.intro hE1 (And.intro hst1 hk1))
  clear cl cs hb1 hB1 hE1 hst1 hk1
  go_upto_if 39 with fail
  go_cut [] (fun wx => ∃ k1, DkAt wx g D c R k1 ∧ Hid (Eff (fun x => x = g ∨ x = D) w1 wx) ∧ Hid (wrL k ws = wrL k1 (remW F b.data.toList n)) ∧ Hid (Cnt k1 (N + 1)))
  case first =>
    by_cases hif : (at_ : Int) + (n : Int) < (st.half : Int)
    · have hwe : ws = (F + n, []) :: remW F b.data.toList n := by rw [HWS.out, if_pos (by omega)]; rfl
      have cw := write_any g D c R k ((F + n : Nat) : Int) ⟨#[]⟩ w1 H1.out.2.2 (by show (0 : Nat) ≤ _; omega) H.out.2.2.1.a (by have := H.out.2.2.1.b; omega) H.out.2.2.1.c (by have := H.out.2.2.1.d; omega)
      rw [show ((F + n : Nat) : Int) = (F : Int) + (n : Int) by omega] at cw
      rw [show (⟨#[]⟩ : ByteArray).data.toList = [] from rfl] at cw
      have hcn := H.out.2.2.1.write ((F : Int) + (n : Int)) []
      have hok : writeC k ((F : Int) + (n : Int)) [] = 0 → wrL k ws = wrL (writeK k ((F : Int) + (n : Int)) []) (remW F b.data.toList n) := fun hz => by
        rw [hwe]
        have e : ((F + n : Nat) : Int) = (F : Int) + (n : Int) := by omega
        rw [← e] at hz ⊢
        exact wrL_ok hz
      have hbad : writeC k ((F : Int) + (n : Int)) [] ≠ 0 → wrL k ws = (writeK k ((F : Int) + (n : Int)) [], writeC k ((F : Int) + (n : Int)) []) := fun hz => by
        rw [hwe]
        have e : ((F + n : Nat) : Int) = (F : Int) + (n : Int) := by omega
        rw [← e] at hz ⊢
        exact wrL_bad hz
      generalize writeC k ((F : Int) + (n : Int)) [] = cd at *
      generalize writeK k ((F : Int) + (n : Int)) [] = k1 at *
      have HK := Lib.hid (And.intro hcn (And.intro hok hbad))
      clear hcn hok hbad hwe
      go_wp2_with fail
      refine cw.mono ?_
      rintro e w2 ⟨rfl, he2, hk2⟩
      have HF := Lib.hid he2
      clear cw he2
      by_cases hz : cd = 0
      · subst hz
        have HQ := Lib.hid hk2
        clear hk2
        go_wp2
        go_meet
        exact ⟨k1, HQ.out, HF, Lib.hid (HK.out.2.1 (by first | exact rfl | trivial)), Lib.hid HK.out.1⟩
      · have hz1 : (cd != 0) = true := by simpa using hz
        have hz2 : (cd == 0) = false := by simpa using hz
        have HQ := Lib.hid (And.intro hk2 (HK.out.2.2 hz))
        clear hk2 hz
        go_wp2
        go_ret
        rw [HQ.out.2]
        exact ⟨rfl, HQ.out.1, H1.out.1.trans HF.out, HK.out.1.mono (by omega)⟩
    · have hwe : ws = remW F b.data.toList n := by rw [HWS.out, if_neg (by omega)]; rfl
      have HQ := Lib.hid hwe
      clear hwe
      go_wp2
      go_meet
      exact ⟨k, H1.out.2.2, Lib.hid (Eff.refl _ _), Lib.hid (by rw [HQ.out]), Lib.hid (H.out.2.2.1.mono (by omega))⟩
  case rest =>
    obtain ⟨k1, hk1, hE, hW, hC⟩ := hcut
    go_wp2
    go_loopw [12] (fun i wr => ∃ (r : Nat) (kr : Dk), r ≤ n ∧ i = .int .i64 ((r : Int) - 1) ∧ DkAt wr g D c R kr ∧ Hid (Eff (fun x => x = g ∨ x = D) w1 wr) ∧ Hid (wrL k ws = wrL kr (remW F b.data.toList r)) ∧ Hid (Cnt kr (N + 1 + (n - r)))) (fun i _ => (intOf i + 1).toNat)
    case atStart => exact ⟨n, k1, Nat.le_refl _, rfl, hk1, hE, hW, Lib.hid (hC.out.mono (by omega))⟩
    case round =>
      obtain ⟨r, kr, hr, rfl, hkr, hEr, hWr, hCr⟩ := hrel
      by_cases hr0 : r = 0
      · subst hr0
        have hneg : ¬ (0 : Int) ≤ ((0 : Nat) : Int) - 1 := by omega
        have hres : wrL k ws = (kr, 0) := by rw [hWr.out]; rfl
        have HF := Lib.hid (And.intro hres (And.intro hkr (And.intro (H1.out.1.trans hEr.out) (hCr.out.mono (show N + 1 + (n - 0) ≤ N + 20000000 by omega)))))
        clear hres hkr
        go_wp2
        go_ret
        rw [HF.out.1]
        exact ⟨rfl, HF.out.2⟩
      · obtain ⟨q, rfl⟩ : ∃ q, r = q + 1 := ⟨r - 1, by omega⟩
        have hq0 : (0 : Int) ≤ (q : Int) := by omega
        have hqe : ((q + 1 : Nat) : Int) - 1 = (q : Int) := by omega
        rw [hqe]
        have hqn : q < 15625001 := by omega
        have hcc := (hEr.out).cell (p := ⟨s, 0, none⟩) c0 (fun e => e.elim hsg hsD)
        obtain ⟨m2, hm2⟩ : ∃ m2, m2 = min lb.size ((q + 1) * 64) := ⟨_, rfl⟩
        have hlbs := HLS.out
        have hq64 : q * 64 ≤ b.size := by
          have h9 := H.out.2.2.2.2
          unfold secN at h9; omega
        have hmq : q * 64 ≤ m2 := by omega
        have hml : m2 ≤ lb.size := by omega
        have hml64 : m2 - q * 64 ≤ 64 := by omega
        have hmi : min (lb.size : Int) (((q : Int) + 1) * 64) = (m2 : Int) := by omega
        have hlb0 : (0 : Int) ≤ (lb.size : Int) := by omega
        have hlbb : lb.size ≤ 1000000001 := by omega
        have hm20 : (0 : Int) ≤ (m2 : Int) := by omega
        have hmqi : (q : Int) * 64 ≤ (m2 : Int) := by omega
        have hmli : (m2 : Int) ≤ (lb.size : Int) := by omega
        have hq640 : (0 : Int) ≤ (q : Int) * 64 := by omega
        have hqt : ((q : Int) * 64).toNat = q * 64 := by omega
        have hw1 : IntKind.i64.wrap ((q : Int) * 64) = (q : Int) * 64 := by rw [IntKind.wrap_i64]; omega
        have hw2 : IntKind.i64.wrap ((q : Int) + 1) = (q : Int) + 1 := by rw [IntKind.wrap_i64]; omega
        have hw3 : IntKind.i64.wrap (((q : Int) + 1) * 64) = ((q : Int) + 1) * 64 := by rw [IntKind.wrap_i64]; omega
        have hw4 : IntKind.i64.wrap ((F : Int) + (q : Int)) = (F : Int) + (q : Int) := by rw [IntKind.wrap_i64]; omega
        have cw := write_any g D c R kr ((F + q : Nat) : Int) (lb.extract (q * 64) m2) wr.drew (hkr.drewN 1) (by rw [ByteArray.size_extract]; omega) hCr.out.a (by have := hCr.out.b; omega) hCr.out.c (by have := hCr.out.d; omega)
        have hch : (lb.extract (q * 64) m2).data.toList = chunk b.data.toList q := by rw [hm2]; exact chunk_ext H.out.2.2.2.1
        rw [hch] at cw
        have hcn := hCr.out.write ((F + q : Nat) : Int) (chunk b.data.toList q)
        rw [remW_succ] at hWr
        have hok : writeC kr ((F + q : Nat) : Int) (chunk b.data.toList q) = 0 → wrL k ws = wrL (writeK kr ((F + q : Nat) : Int) (chunk b.data.toList q)) (remW F b.data.toList q) := fun hz => by rw [hWr.out, wrL_ok hz]
        have hbad : writeC kr ((F + q : Nat) : Int) (chunk b.data.toList q) ≠ 0 → wrL k ws = (writeK kr ((F + q : Nat) : Int) (chunk b.data.toList q), writeC kr ((F + q : Nat) : Int) (chunk b.data.toList q)) := fun hz => by rw [hWr.out, wrL_bad hz]
        generalize writeC kr ((F + q : Nat) : Int) (chunk b.data.toList q) = cd at *
        generalize writeK kr ((F + q : Nat) : Int) (chunk b.data.toList q) = k2 at *
        rw [show ((F + q : Nat) : Int) = (F : Int) + (q : Int) by omega] at cw
        have HK := Lib.hid (And.intro hcn (And.intro hok hbad))
        have HE2 := Lib.hid (hEr.out.drew)
        have hnr : N + 1 + (n - (q + 1)) + 1 ≤ N + 1 + (n - q) := by omega
        clear hcn hok hbad hch hWr hkr hCr hm2 hr0 hlbs
        go_upto_region 10 with fail
        go_region_law (go_simp; go_at_call 26; (with_reducible refine cw.mono ?_); rintro e w9 ⟨rfl, he9, hk9⟩)
        all_goals
          have HF := Lib.hid (And.intro (HE2.out.trans he9) hk9)
          clear he9 hk9
          by_cases hz : cd = 0
          · subst hz
            go_wp2
            go_roundw
            case rel => exact ⟨q, k2, by omega, rfl, HF.out.2, Lib.hid HF.out.1, Lib.hid (HK.out.2.1 (by first | exact rfl | trivial)), Lib.hid (HK.out.1.mono hnr)⟩
            case measure => simp [intOf]
          · have hz1 : (cd != 0) = true := by simpa using hz
            have hz2 : (cd == 0) = false := by simpa using hz
            have HQ := Lib.hid (HK.out.2.2 hz)
            clear hz
            go_wp2
            go_ret
            rw [HQ.out]
            exact ⟨rfl, HF.out.2, H1.out.1.trans HF.out.1, HK.out.1.mono (by omega)⟩
end Go.Proofs.YtnbefiaeihialaaGreat
