/- Package wal: what area, Make, Open refuse; package wal's law folder: Made. -/
import Derived.Test.YtnbefiaeihialaaGreatWalAa
set_option linter.unusedVariables false
set_option linter.unusedSimpArgs false
namespace Go.Proofs.YtnbefiaeihialaaGreat
open Go.RowKit
def NoArea (from_ count : Int) : Prop := from_ < 0 ∨ (0 ≤ from_ ∧ count < 4) ∨ (0 ≤ from_ ∧ 4 ≤ count ∧ count % 2 ≠ 0)
set_option maxRecDepth 100000 in
set_option maxHeartbeats 4000000 in
theorem area_no (g : Nat) (from_ count : Int) (w : World) (h : NoArea from_ count) :
    Calls Tryz.prog 36 #[.pointer (some ⟨g, 0, none⟩), .int .i64 from_, .int .i64 count] w fun e w' => e = .returned (.tuple #[.pointer none, .int .i64 1]) ∧ w = w' := by
  rcases h with h1 | ⟨h1, h2⟩ | ⟨h1, h2, h3⟩
  · go_enter Tryz.func36, Tryz.ntmps36
    go_wp2
    go_ret2
    exact ⟨rfl, rfl⟩
  · go_enter Tryz.func36, Tryz.ntmps36
    go_wp2
    go_ret2
    exact ⟨rfl, rfl⟩
  · have h4 : 0 ≤ count := by omega
    have h5 : (count % 2 != 0) = true := by rw [bne_iff_ne]; exact h3
    go_enter Tryz.func36, Tryz.ntmps36
    go_wp2
    go_ret2
    exact ⟨rfl, rfl⟩
set_option maxRecDepth 100000 in
set_option maxHeartbeats 4000000 in
theorem open_no (g : Nat) (from_ count : Int) (w : World) (h : NoArea from_ count) :
    Calls Tryz.prog 16 #[.pointer (some ⟨g, 0, none⟩), .int .i64 from_, .int .i64 count] w fun e w' => e = .returned (.tuple #[.pointer none, .int .i64 1]) ∧ w = w' := by
  have ca := area_no g from_ count w h
  clear h
  go_enter Tryz.func16, Tryz.ntmps16
  go_wp2_with fail
  refine ca.mono ?_
  rintro e w1 ⟨rfl, rfl⟩
  clear ca
  go_wp2
  go_ret2
  exact ⟨rfl, rfl⟩
set_option maxRecDepth 100000 in
set_option maxHeartbeats 4000000 in
theorem make_no (g : Nat) (from_ count : Int) (w : World) (h : NoArea from_ count) :
    Calls Tryz.prog 15 #[.pointer (some ⟨g, 0, none⟩), .int .i64 from_, .int .i64 count] w fun e w' => e = .returned (.tuple #[.pointer none, .int .i64 1]) ∧ w = w' := by
  have ca := area_no g from_ count w h
  clear h
  go_enter Tryz.func15, Tryz.ntmps15
  go_wp2_with fail
  refine ca.mono ?_
  rintro e w1 ⟨rfl, rfl⟩
  clear ca
  go_wp2
  go_ret2
  exact ⟨rfl, rfl⟩
/-- A new store on a new disk. -/
def MadeP (half : Nat) (w : World) (e : Ending) (w' : World) : Prop :=
  ∃ s mb g D, e = .returned (.tuple #[.pointer (some ⟨g, 0, none⟩), .pointer (some ⟨s, 0, none⟩)]) ∧ StAt w' s mb g D (2 * half * 64) [] (wrL (newK (2 * half)) (makeW shaF 0 half)).1 (makeS 0 half) 1 tabF ∧ Below w.heap.size w w' ∧ Cnt (wrL (newK (2 * half)) (makeW shaF 0 half)).1 20000002 ∧ w.heap.size ≤ s ∧ w.heap.size ≤ mb ∧ w.heap.size ≤ g ∧ w.heap.size ≤ D
theorem Eff.two {w0 w w' : World} {g D : Nat} (hb : Below w0.heap.size w0 w) (he : Eff (fun x => x = g ∨ x = D) w w') (hg : w0.heap.size ≤ g) (hD : w0.heap.size ≤ D) : Below w0.heap.size w0 w' :=
  Eff.below hb he hb.size (fun x e => by rcases (e : x = g ∨ x = D) with h | h <;> omega)
set_option maxRecDepth 100000 in
set_option maxHeartbeats 4000000 in
theorem made_any (half : Nat) (w : World) (h2 : 2 ≤ half) (h3 : half ≤ 2000) :
    Calls Tryz.prog 27 #[.int .i64 (2 * half : Nat)] w (MadeP half w) := by
  have cn := new_in (2 * half) w (by omega) (by omega)
  obtain ⟨N2, hN2⟩ : ∃ N2 : Nat, N2 = 2 * half := ⟨_, rfl⟩
  rw [← hN2] at cn ⊢
  have HN := Lib.hid hN2
  clear hN2
  go_enter Tryz.func27, Tryz.ntmps27
  go_wp2_with fail
  refine cn.mono ?_
  rintro e w1 ⟨rfl, hb1, hk1⟩
  obtain ⟨g, hg⟩ : ∃ g, g = w.heap.size + 1 := ⟨_, rfl⟩
  obtain ⟨D, hD⟩ : ∃ D, D = w.heap.size := ⟨_, rfl⟩
  rw [← hg] at hk1 ⊢
  rw [← hD] at hk1
  rw [HN.out] at hk1
  have hz := make_good shaF_len (newK_still (2 * half) (by omega) (by omega)) (from_ := 0) (half := half) h2 (by show 0 + 2 * half ≤ 2 * half; omega)
  have cm := make_any g D (2 * half * 64) [] (newK (2 * half)) 0 half 0 w1 hk1 ⟨Int.le_refl 0, Int.le_refl 0, Int.le_refl 0, Int.le_refl 0⟩ (by decide) h2 (by show 0 + 2 * half ≤ 2 * half; omega) hz.1
  rw [← HN.out] at cm
  have HB := Lib.hid (And.intro hb1 (And.intro hg hD))
  clear cn hb1 hg hD hk1 hz
  go_wp2_with fail
  refine cm.mono ?_
  rintro e w2 ⟨s, mb, rfl, hS, he, hc, hs1, hs2⟩
  have hsz := HB.out.1.size
  have hF : Hid (MadeP half w (.returned (.tuple #[.pointer (some ⟨g, 0, none⟩), .pointer (some ⟨s, 0, none⟩)])) w2) := Lib.hid ⟨s, mb, g, D, rfl, by rw [HN.out] at hS; exact hS, Eff.two HB.out.1 he (by have := HB.out.2.1; omega) (by have := HB.out.2.2; omega), by rw [HN.out] at hc; exact hc, by omega, by omega, by have := HB.out.2.1; omega, by have := HB.out.2.2; omega⟩
  clear cm hS he hc
  go_wp2
  go_ret2
  exact hF.out
end Go.Proofs.YtnbefiaeihialaaGreat
