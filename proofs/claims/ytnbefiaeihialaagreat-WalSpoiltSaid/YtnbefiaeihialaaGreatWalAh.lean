/- The document's Texts at like rows; a store of the law folder on a part of its disk. -/
import Derived.Test.YtnbefiaeihialaaGreatWalAe
set_option linter.unusedVariables false
set_option linter.unusedSimpArgs false
namespace Go.Proofs.YtnbefiaeihialaaGreat
open Go.RowKit
set_option maxRecDepth 100000 in
set_option maxHeartbeats 4000000 in
theorem rtexts_true (A B : Option Addr) (n cA cB b1 b2 : Nat) (xs : List ByteArray) (w : World) (hA : SSo w b1 (.slice A n cA) xs) (hB : SSo w b2 (.slice B n cB) xs) (hn : xs.length = n) (hn2 : n ≤ 1000000000) :
    Calls Tryz.prog 22 #[.slice A n cA, .slice B n cB] w fun e w' => e = .returned (.bool true) ∧ ∃ d, w.drewN d = w' := by
  have hn0 : (0 : Int) ≤ (n : Int) := by omega
  have H := Lib.hid (And.intro hA (And.intro hB hn))
  clear hA hB hn
  go_enter Tryz.func22, Tryz.ntmps22
  go_wp2
  go_loopw [5] (fun i wr => ∃ (j d : Nat), j ≤ n ∧ i = .int .i64 j ∧ wr = w.drewN d) (fun i _ => n - mzInt i)
  case atStart => exact ⟨0, 0, Nat.zero_le _, rfl, rfl⟩
  case round =>
    obtain ⟨j, d, hj, rfl, rfl⟩ := hrel
    have hj0 : (0 : Int) ≤ (j : Int) := by omega
    by_cases hlt : j < n
    · have hji : (j : Int) < (n : Int) := by omega
      obtain ⟨g1, rfl, q1⟩ := H.out.1.cellAt (j := j) (by rw [H.out.2.2]; exact hlt)
      obtain ⟨g2, rfl, q2⟩ := H.out.2.1.cellAt (j := j) (by rw [H.out.2.2]; exact hlt)
      generalize xs[j]'(by rw [H.out.2.2]; exact hlt) = x at *
      go_upto_region 6 with fail
      go_quiet (fail)
      go_wp2
      go_roundw
      case rel => exact ⟨j + 1, _, by omega, by go_num, rfl⟩
      case measure => simp [mzInt]; omega
    · obtain rfl : j = n := by omega
      have hjE : ¬ (j : Int) < (j : Int) := by omega
      go_wp2
      go_ret
      exact ⟨rfl, d, rfl⟩
/-- A store of the law folder: a part of its disk from sector fr on. -/
structure LawF (w0 : World) (s g D c fr half : Nat) (N cN : Nat) (k : Dk) (st : St) (W : World) : Prop where
  ex : ∃ mb d tab m, StAt W s mb g D c [] k st d tab ∧ SumOk d tab ∧ Good shaF k m cN st
  cnt : Cnt k N
  from0 : st.from_ = fr
  half : st.half = half
  below : Below w0.heap.size w0 W
  at_ : w0.heap.size ≤ s ∧ w0.heap.size ≤ g ∧ w0.heap.size ≤ D
theorem LawF.mono {w0 W W' : World} {s g D c fr half N cN N' : Nat} {k : Dk} {st : St} (h : LawF w0 s g D c fr half N cN k st W) (hb : Below W.heap.size W W') (hN : N ≤ N') : LawF w0 s g D c fr half N' cN k st W' := by
  obtain ⟨mb, d, tab, m, h1, h2, h3⟩ := h.ex
  exact ⟨⟨mb, d, tab, m, h1.below hb, h2, h3⟩, h.cnt.mono hN, h.from0, h.half, h.below.trans (hb.mono h.below.size), h.at_⟩
theorem LawF.lt {w0 W : World} {s g D c fr half N cN : Nat} {k : Dk} {st : St} (h : LawF w0 s g D c fr half N cN k st W) : s < W.heap.size ∧ g < W.heap.size ∧ D < W.heap.size := by
  obtain ⟨mb, d, tab, m, h1, h2, h3⟩ := h.ex
  exact ⟨h1.mem.lt, lt_of_block h1.dk.mem, lt_of_block h1.dk.dat⟩
theorem LawF.srt {w0 W : World} {s g D c fr half N cN : Nat} {k : Dk} {st : St} (h : LawF w0 s g D c fr half N cN k st W) : Srt st.M ∧ MOk st.M ∧ st.M.length ≤ 26300 := by
  obtain ⟨mb, d, tab, m, h1, h2, h3⟩ := h.ex
  exact ⟨h3.srt, h3.mok, h3.small.2.2⟩
theorem LawF.commit {w0 W : World} {s g D c fr half N cN : Nat} {k : Dk} {st : St} (h : LawF w0 s g D c fr half N cN k st W) (A : Option Addr) (n cc : Nat) (xs : List Ch) (hin : ChsIn W A n xs) (hn : n ≤ 500) (hN : N ≤ 10000000000) (hc : cN ≤ 4000000000) :
    Calls Tryz.prog 19 #[.pointer (some ⟨s, 0, none⟩), .slice A n cc] W fun e w' => e = .returned (.int .i64 (commitF k st xs).1) ∧ LawF w0 s g D c fr half (N + 30000000) (cN + 1) (commitF k st xs).2.1 (commitF k st xs).2.2 w' ∧ Eff (fun x => x = s ∨ x = g ∨ x = D) W w' := by
  obtain ⟨mb, d, tab, m, h1, h2, h3⟩ := h.ex
  have hl := hin.len
  obtain ⟨m', _, q2, _, q4, q5, _⟩ := good_step h3 xs (by omega) (by omega)
  refine (commit_law A n cc s mb g D c N cN m [] k st d tab xs W h1 h2 hin h.cnt hN h3 (by omega) hn).mono ?_
  rintro e w' ⟨mb', d', tab', m'', rfl, p1, p2, p3, p4, p5⟩
  exact ⟨rfl, ⟨⟨mb', d', tab', m'', p1, p2, p5⟩, p4, q4.trans h.from0, q5.trans h.half, Eff.three h.below p3 h.at_.1 h.at_.2.1 h.at_.2.2, h.at_⟩, p3⟩
/-- Get, Keys in the law folder. -/
theorem LawF.get {w0 W : World} {s g D c fr half N cN : Nat} {k : Dk} {st : St} (h : LawF w0 s g D c fr half N cN k st W) (key : ByteArray) (hk : key.size ≤ 1000000) :
    Calls Tryz.prog 20 #[.pointer (some ⟨s, 0, none⟩), .string key] W fun e w' => e = .returned (.tuple #[.string ((findM st.M key).getD ⟨#[]⟩), .bool (findM st.M key).isSome]) ∧ W = w' := by
  obtain ⟨mb, d, tab, m, h1, h2, h3⟩ := h.ex
  exact get_any s g st mb d tab key W h1.mem h1.map hk
theorem LawF.keys {w0 W : World} {s g D c fr half N cN : Nat} {k : Dk} {st : St} (h : LawF w0 s g D c fr half N cN k st W) (p : ByteArray) :
    Calls Tryz.prog 23 #[.pointer (some ⟨s, 0, none⟩), .string p] W fun e w' => ∃ v, e = .returned v ∧ SSo w' W.heap.size v (keysM st.M p) ∧ Below W.heap.size W w' := by
  obtain ⟨mb, d, tab, m, h1, h2, h3⟩ := h.ex
  exact keys_any s g st mb d tab p W h1.mem h1.map h3.srt (by have := h3.small; omega)
/-- The disk turns elsewhere. -/
theorem LawF.disk {w0 W W' : World} {s g D c fr half N cN N' : Nat} {k k' : Dk} {st : St} (h : LawF w0 s g D c fr half N cN k st W) (he : Eff (fun b => b = g ∨ b = D) W W') (hk : DkAt W' g D c [] k') {m' : Nat} (hst : Still k' m') (hn : k'.n = k.n) (hc : Cnt k' N') (hsec : ∀ j, st.from_ ≤ j → j < st.from_ + 2 * st.half → sec k' j = sec k j) : LawF w0 s g D c fr half N' cN k' st W' := by
  obtain ⟨mb, d, tab, m, h1, h2, h3⟩ := h.ex
  exact ⟨⟨mb, d, tab, m', h1.disk he hk, h2, h3.away hst hn (Nat.le_refl _) hsec⟩, hc, h.from0, h.half, Eff.two h.below he h.at_.2.1 h.at_.2.2, h.at_⟩
/-- Open finds the store again. -/
theorem LawF.again {w0 W : World} {s g D c fr half N cN : Nat} {k : Dk} {st : St} (h : LawF w0 s g D c fr half N cN k st W) :
    Calls Tryz.prog 16 #[.pointer (some ⟨g, 0, none⟩), .int .i64 fr, .int .i64 (2 * half : Nat)] W fun e w' => ∃ t, e = .returned (.tuple #[.pointer (some ⟨t, 0, none⟩), .int .i64 0]) ∧ LawF w0 t g D c fr half N cN k st w' ∧ Below W.heap.size W w' ∧ W.heap.size ≤ t := by
  obtain ⟨mb, d, tab, m, h1, h2, h3⟩ := h.ex
  have hop := open_good h3
  rw [h.from0, h.half] at hop
  have har := h3.area
  have hh := h3.half
  rw [h.from0, h.half] at har
  rw [h.half] at hh
  have hs := h.below.size
  refine (open_any g D c [] k fr half W h1.dk h3.still.down hh har).mono ?_
  rw [hop]
  rintro e w' ⟨hb, t, mt, dt, tabt, rfl, hT, hdt, ht1, ht2⟩
  exact ⟨t, rfl, ⟨⟨mt, dt, tabt, m, hT, hdt, h3⟩, h.cnt, h.from0, h.half, h.below.trans (hb.mono hs), ⟨by omega, h.at_.2.1, h.at_.2.2⟩⟩, hb, ht1⟩
end Go.Proofs.YtnbefiaeihialaaGreat
