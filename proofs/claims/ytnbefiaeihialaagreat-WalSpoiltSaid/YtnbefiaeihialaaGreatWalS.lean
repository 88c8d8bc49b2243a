/- Package wal: Make. -/
import Derived.Test.YtnbefiaeihialaaGreatWalR
set_option linter.unusedVariables false
set_option linter.unusedSimpArgs false
namespace Go.Proofs.YtnbefiaeihialaaGreat
open Go.RowKit
/-- A store lies in memory: its struct, its map, its disk. -/
structure StAt (w : World) (s mb g D c : Nat) (R : List Value) (k : Dk) (st : St) (d : Int) (tab : List Int) : Prop where
  mem : StB w s g st mb d 0 tab
  map : MapB w mb st.M
  dk : DkAt w g D c R k
theorem StAt.sg {w : World} {s mb g D c : Nat} {R : List Value} {k : Dk} {st : St} {d : Int} {tab : List Int} (h : StAt w s mb g D c R k st d tab) : s ≠ g := by
  rintro rfl
  have h1 := h.mem
  have h2 := h.dk.mem
  unfold StB at h1
  rw [h1] at h2
  injection h2 with h2
  injection h2 with _ h3
  exact absurd h3 (by decide)
theorem StAt.sD {w : World} {s mb g D c : Nat} {R : List Value} {k : Dk} {st : St} {d : Int} {tab : List Int} (h : StAt w s mb g D c R k st d tab) : s ≠ D := by
  rintro rfl
  have h1 := h.mem
  have h2 := h.dk.dat
  unfold StB at h1
  rw [h1] at h2
  injection h2 with h2
  injection h2 with _ h3
  exact absurd h3 (by decide)
theorem StAt.ms {w : World} {s mb g D c : Nat} {R : List Value} {k : Dk} {st : St} {d : Int} {tab : List Int} (h : StAt w s mb g D c R k st d tab) : s ≠ mb := h.map.ne (p := ⟨s, 0, none⟩) h.mem.cells.1
theorem StAt.mg {w : World} {s mb g D c : Nat} {R : List Value} {k : Dk} {st : St} {d : Int} {tab : List Int} (h : StAt w s mb g D c R k st d tab) : g ≠ mb := h.map.ne (p := ⟨g, 0, none⟩) h.dk.cell.1
theorem StAt.mD {w : World} {s mb g D c : Nat} {R : List Value} {k : Dk} {st : St} {d : Int} {tab : List Int} (h : StAt w s mb g D c R k st d tab) : D ≠ mb := by
  rintro rfl
  obtain ⟨es, clock, hb, _⟩ := h.map
  rw [h.dk.dat] at hb
  cases hb
/-- What touches only other blocks keeps it. -/
theorem StAt.keep {w w' : World} {s mb g D c : Nat} {R : List Value} {k : Dk} {st : St} {d : Int} {tab : List Int} (h : StAt w s mb g D c R k st d tab) {S : Nat → Prop} (he : Eff S w w') (h1 : ¬ S s) (h2 : ¬ S mb) (h3 : ¬ S g) (h4 : ¬ S D) : StAt w' s mb g D c R k st d tab :=
  ⟨h.mem.eff he h1, h.map.eff he h2, h.dk.keep he h3 h4⟩
theorem StAt.below {w w' : World} {s mb g D c : Nat} {R : List Value} {k : Dk} {st : St} {d : Int} {tab : List Int} (h : StAt w s mb g D c R k st d tab) (hb : Below w.heap.size w w') : StAt w' s mb g D c R k st d tab :=
  h.keep (Eff.of_below hb (fun _ => False)) id id id id
/-- The disk turns. -/
theorem StAt.disk {w w' : World} {s mb g D c : Nat} {R : List Value} {k k' : Dk} {st : St} {d : Int} {tab : List Int} (h : StAt w s mb g D c R k st d tab) (he : Eff (fun b => b = g ∨ b = D) w w') (hk : DkAt w' g D c R k') : StAt w' s mb g D c R k' st d tab :=
  ⟨h.mem.eff he (fun x => x.elim h.sg h.sD), h.map.eff he (fun x => x.elim (fun e => h.mg e.symm) (fun e => h.mD e.symm)), hk⟩
/-- The struct turns. -/
theorem StAt.turn {w w' : World} {s mb g D c : Nat} {R : List Value} {k : Dk} {st st' : St} {d d' : Int} {tab tab' : List Int} (h : StAt w s mb g D c R k st d tab) (he : Eff (· = s) w w') (hs : StB w' s g st' mb d' 0 tab') (hM : st'.M = st.M) : StAt w' s mb g D c R k st' d' tab' :=
  ⟨hs, by rw [hM]; exact h.map.eff he (fun e => h.ms e.symm), h.dk.keep he (fun e => h.sg e.symm) (fun e => h.sD e.symm)⟩
theorem StB.set3 {w : World} {s g : Nat} {st : St} {mb : Nat} {d m : Int} {tab : List Int} (h : StB w s g st mb d m tab) (v : Nat) {x : Int} (hx : x = v) : StB (w.setCell ⟨s, 3, none⟩ (.int .i64 x)) s g { st with side := v } mb d m tab := by
  subst hx
  exact (setCell_heap h 3 _).trans (by rw [set_arr]; rfl)
theorem StB.set4 {w : World} {s g : Nat} {st : St} {mb : Nat} {d m : Int} {tab : List Int} (h : StB w s g st mb d m tab) (v : Nat) {x : Int} (hx : x = v) : StB (w.setCell ⟨s, 4, none⟩ (.int .i64 x)) s g { st with gen := v } mb d m tab := by
  subst hx
  exact (setCell_heap h 4 _).trans (by rw [set_arr]; rfl)
theorem StB.set5 {w : World} {s g : Nat} {st : St} {mb : Nat} {d m : Int} {tab : List Int} (h : StB w s g st mb d m tab) (v : Nat) {x : Int} (hx : x = v) : StB (w.setCell ⟨s, 5, none⟩ (.int .i64 x)) s g { st with next := v } mb d m tab := by
  subst hx
  exact (setCell_heap h 5 _).trans (by rw [set_arr]; rfl)
theorem StB.set6 {w : World} {s g : Nat} {st : St} {mb : Nat} {d m : Int} {tab : List Int} (h : StB w s g st mb d m tab) (v : Nat) {x : Int} (hx : x = v) : StB (w.setCell ⟨s, 6, none⟩ (.int .i64 x)) s g { st with free := v } mb d m tab := by
  subst hx
  exact (setCell_heap h 6 _).trans (by rw [set_arr]; rfl)
theorem StB.set7 {w : World} {s g : Nat} {st : St} {mb : Nat} {d m : Int} {tab : List Int} (h : StB w s g st mb d m tab) (mb' : Nat) (M' : List Pr) : StB (w.setCell ⟨s, 7, none⟩ (.map (some mb'))) s g { st with M := M' } mb' d m tab :=
  (setCell_heap h 7 _).trans (by rw [set_arr]; rfl)
def mkD (k : Dk) (from_ half j : Nat) : Dk := if j = 0 then k else if j = 1 then writeK k ((from_ + half : Nat) : Int) [] else writeK (writeK k ((from_ + half : Nat) : Int) []) from_ []
theorem mkD_ok {k : Dk} {from_ half : Nat} (hz : (wrL k (makeW shaF from_ half)).2 = 0) :
    writeC (mkD k from_ half 0) ((from_ + half : Nat) : Int) [] = 0 ∧ writeC (mkD k from_ half 1) from_ [] = 0 ∧ wrL k (makeW shaF from_ half) = wrL (mkD k from_ half 2) (layW from_ half 0 (recF shaF 1 0 [])) := by
  have e0 : makeW shaF from_ half = (from_ + half, []) :: (from_, []) :: layW from_ half 0 (recF shaF 1 0 []) := rfl
  rw [e0] at hz ⊢
  have h1 : writeC k ((from_ + half : Nat) : Int) [] = 0 := by
    by_cases h : writeC k ((from_ + half : Nat) : Int) [] = 0
    · exact h
    · rw [wrL_bad h] at hz; exact absurd hz h
  rw [wrL_ok h1] at hz ⊢
  have h2 : writeC (writeK k ((from_ + half : Nat) : Int) []) from_ [] = 0 := by
    by_cases h : writeC (writeK k ((from_ + half : Nat) : Int) []) from_ [] = 0
    · exact h
    · rw [wrL_bad h] at hz; exact absurd hz h
  rw [wrL_ok h2]
  exact ⟨h1, h2, rfl⟩
set_option maxRecDepth 100000 in
set_option maxHeartbeats 16000000 in
theorem make_any (g D c : Nat) (R : List Value) (k : Dk) (from_ half N : Nat) (w : World) (h : DkAt w g D c R k) (hc : Cnt k N) (hN : N ≤ 1000000000) (h2 : 2 ≤ half) (h3 : from_ + 2 * half ≤ k.n) (hz : (wrL k (makeW shaF from_ half)).2 = 0) :
    Calls Tryz.prog 15 #[.pointer (some ⟨g, 0, none⟩), .int .i64 from_, .int .i64 (2 * half : Nat)] w fun e w' => ∃ s mb, e = .returned (.tuple #[.pointer (some ⟨s, 0, none⟩), .int .i64 0]) ∧ StAt w' s mb g D c R (wrL k (makeW shaF from_ half)).1 (makeS from_ half) 1 tabF ∧ Eff (fun x => x = g ∨ x = D) w w' ∧ Cnt (wrL k (makeW shaF from_ half)).1 (N + 20000002) ∧ w.heap.size ≤ s ∧ w.heap.size ≤ mb := by
  have hkn := h.ok.n2
  obtain ⟨z0, z1, z2⟩ := mkD_ok hz
  have ca := area_any g D c R k from_ half w h h2 h3 (by omega)
  have hf0 : (0 : Int) ≤ (from_ : Int) := by omega
  have hh0 : (0 : Int) ≤ (half : Int) := by omega
  have hw1 : IntKind.i64.wrap ((from_ : Int) + (half : Int)) = (from_ : Int) + (half : Int) := by rw [IntKind.wrap_i64]; omega
  rw [z2] at hz ⊢
  obtain ⟨KK, hKK⟩ : ∃ KK, KK = wrL (mkD k from_ half 2) (layW from_ half 0 (recF shaF 1 0 [])) := ⟨_, rfl⟩
  rw [← hKK] at hz ⊢
  have HKK := Lib.hid hKK
  clear hKK z2
  obtain ⟨N2, hN2⟩ : ∃ N2 : Nat, N2 = 2 * half := ⟨_, rfl⟩
  rw [← hN2] at ca ⊢
  have H := Lib.hid (And.intro h (And.intro hc (And.intro z0 (And.intro z1 (And.intro hz hN2)))))
  clear h hc z0 z1 hz hN2
  go_enter Tryz.func15, Tryz.ntmps15
  go_wp2_with fail
  refine ca.mono ?_
  rintro e w1 ⟨rfl, hst, hmp, hb1⟩
  obtain ⟨s, hs⟩ : ∃ s, s = w.heap.size + 1 := ⟨_, rfl⟩
  obtain ⟨mb, hmb⟩ : ∃ mb, mb = w.heap.size := ⟨_, rfl⟩
  rw [← hs, ← hmb] at hst
  rw [← hmb] at hmp
  rw [← hs]
  have hS : StAt w1 s mb g D c R k (st0 from_ half) 0 zeroT := ⟨hst, hmp, H.out.1.below hb1⟩
  have c2 : w1.cell? ⟨s, 2, none⟩ = some (.int .i64 half) := hst.cells.2.2.1
  have H1 := Lib.hid (And.intro hS (And.intro hb1 (And.intro hs hmb)))
  clear ca hst hmp hb1 hS hs hmb
  go_wp2
  have hL := heap_alloc_new w1 (.cells #[.int .i64 ((from_ : Int) + (half : Int)), .int .i64 from_] 3 (0, 0))
  have hB2 : Below w1.heap.size w1 (w1.alloc (.cells #[.int .i64 ((from_ : Int) + (half : Int)), .int .i64 from_] 3 (0, 0))) := (Below.refl _ _).alloc (Nat.le_refl _) _
  have hS2 := H1.out.1.below hB2
  generalize w1.alloc (.cells #[.int .i64 ((from_ : Int) + (half : Int)), .int .i64 from_] 3 (0, 0)) = w2 at *
  have H2 := Lib.hid (And.intro hS2 (And.intro hL hB2))
  clear hL hB2 hS2 c2
  go_loopw [34] (fun i wr => ∃ j : Nat, j ≤ 2 ∧ i = .int .i64 j ∧ Hid (StAt wr s mb g D c R (mkD k from_ half j) (st0 from_ half) 0 zeroT ∧ Eff (fun b => b = g ∨ b = D) w2 wr ∧ Cnt (mkD k from_ half j) (N + j))) (fun i _ => 2 - (intOf i).toNat)
  case atStart => exact ⟨0, by omega, rfl, Lib.hid ⟨H2.out.1, Eff.refl _ _, H.out.2.1⟩⟩
  case round =>
    obtain ⟨j, hj, rfl, hrl⟩ := hrel
    have hgl := lt_of_block H.out.1.mem
    have hDl := lt_of_block H.out.1.dat
    have hww := H1.out.2.1.size
    have hrow := hrl.out.2.1.heap H2.out.2.1 (by rintro (e | e) <;> omega)
    have i0 : wr.cell? ⟨w1.heap.size, 0, none⟩ = some (.int .i64 ((from_ : Int) + (half : Int))) := by rw [cell_of_row _ _ _ _ _ _ hrow]; rfl
    have i1 : wr.cell? ⟨w1.heap.size, 1, none⟩ = some (.int .i64 from_) := by rw [cell_of_row _ _ _ _ _ _ hrow]; rfl
    have hct := hrl.out.2.2
    obtain rfl | rfl | rfl : j = 0 ∨ j = 1 ∨ j = 2 := by omega
    · have cw := write_any g D c R (mkD k from_ half 0) ((from_ : Int) + (half : Int)) ⟨#[]⟩ wr hrl.out.1.dk (by decide) hct.a (by have := hct.b; omega) hct.c (by have := hct.d; omega)
      have hcw := hct.write ((from_ : Int) + (half : Int)) []
      have hz0 := H.out.2.2.1
      rw [show ((from_ + half : Nat) : Int) = (from_ : Int) + (half : Int) by omega] at hz0
      change Calls _ _ _ _ fun e w' => e = .returned (.int .i64 (writeC (mkD k from_ half 0) ((from_ : Int) + (half : Int)) [])) ∧ _ ∧ DkAt w' g D c R (writeK (mkD k from_ half 0) ((from_ : Int) + (half : Int)) []) at cw
      rw [hz0] at cw
      have hm1 : writeK (mkD k from_ half 0) ((from_ : Int) + (half : Int)) [] = mkD k from_ half 1 := rfl
      rw [hm1] at cw hcw
      have HC := Lib.hid hcw
      clear hct hcw hz0 hm1 hrow
      go_wp2_with fail
      refine cw.mono ?_
      rintro e w9 ⟨rfl, he9, hk9⟩
      have hS9 := hrl.out.1.disk he9 hk9
      have HF := Lib.hid (And.intro hS9 (hrl.out.2.1.trans he9))
      clear cw he9 hk9 hS9
      go_wp2
      go_roundw
      case rel => exact ⟨1, by omega, by go_num, Lib.hid ⟨HF.out.1, HF.out.2, HC.out⟩⟩
      case measure => simp [intOf]
    · have cw := write_any g D c R (mkD k from_ half 1) from_ ⟨#[]⟩ wr hrl.out.1.dk (by decide) hct.a (by have := hct.b; omega) hct.c (by have := hct.d; omega)
      have hcw := hct.write from_ []
      have hz0 := H.out.2.2.2.1
      change Calls _ _ _ _ fun e w' => e = .returned (.int .i64 (writeC (mkD k from_ half 1) from_ [])) ∧ _ ∧ DkAt w' g D c R (writeK (mkD k from_ half 1) from_ []) at cw
      rw [hz0] at cw
      have hm1 : writeK (mkD k from_ half 1) from_ [] = mkD k from_ half 2 := rfl
      rw [hm1] at cw hcw
      have HC := Lib.hid hcw
      clear hct hcw hz0 hm1 hrow
      go_wp2_with fail
      refine cw.mono ?_
      rintro e w9 ⟨rfl, he9, hk9⟩
      have hS9 := hrl.out.1.disk he9 hk9
      have HF := Lib.hid (And.intro hS9 (hrl.out.2.1.trans he9))
      clear cw he9 hk9 hS9
      go_wp2
      go_roundw
      case rel => exact ⟨2, by omega, by go_num, Lib.hid ⟨HF.out.1, HF.out.2, HC.out⟩⟩
      case measure => simp [intOf]
    · obtain ⟨RC, hRC⟩ : ∃ RC : ByteArray, RC = ⟨(recF shaF 1 0 []).toArray⟩ := ⟨_, rfl⟩
      have cr := record_any s g (st0 from_ half) mb 0 zeroT 1 0 ⟨#[]⟩ wr hrl.out.1.mem (.inl ⟨rfl, rfl⟩) (by decide) (by decide) (by decide)
      change Calls _ _ _ _ fun e w' => e = .returned (.string ⟨(recF shaF 1 0 []).toArray⟩) ∧ _ ∧ _ at cr
      rw [← hRC] at cr
      have hrs : RC.size = 46 := by rw [hRC, lsize, recF_len shaF_len]; rfl
      have hrd : RC.data.toList = recF shaF 1 0 [] := by rw [hRC]
      have HR := Lib.hid (And.intro hrd hct)
      clear hrd hct hrow i0 i1 hRC
      go_wp2_with fail
      refine cr.mono ?_
      rintro e w3 ⟨rfl, hst3, he3⟩
      have hS3 := hrl.out.1.turn he3 hst3 rfl
      have cl := lay_any s g D c R (mkD k from_ half 2) (st0 from_ half) mb 1 tabF 0 0 (N + 2) RC w3 hS3.mem hS3.dk hS3.sg hS3.sD HR.out.2 (by omega) (by omega) (by omega) (by show from_ ≤ _; omega) (by show half ≤ _; omega) (by omega)
      rw [HR.out.1] at cl
      rw [show (st0 from_ half).from_ + 0 * (st0 from_ half).half + 0 = from_ by show from_ + 0 * half + 0 = from_; omega] at cl
      change Calls _ _ _ _ fun e w' => e = .returned (.int .i64 (wrL (mkD k from_ half 2) (layW from_ half 0 (recF shaF 1 0 []))).2) ∧ DkAt w' g D c R (wrL (mkD k from_ half 2) (layW from_ half 0 (recF shaF 1 0 []))).1 ∧ _ ∧ Cnt (wrL (mkD k from_ half 2) (layW from_ half 0 (recF shaF 1 0 []))).1 _ at cl
      have hz := H.out.2.2.2.2.1
      have hmd := hrl.out.2.1
      have HW2 := Lib.hid (H2.out.2.2)
      clear HR H2 hrl cr hst3
      rw [← HKK.out, hz] at cl
      have H3 := Lib.hid (And.intro hS3 (And.intro he3 hmd))
      clear hS3 he3 hmd hz
      go_wp2_with fail
      refine cl.mono ?_
      rintro e w4 ⟨rfl, hk4, he4, hc4⟩
      have hS4 := H3.out.1.disk he4 hk4
      have cs : ∀ W, Calls Tryz.prog 39 #[.int .i64 46] W fun e w' => e = .returned (.int .i64 1) ∧ W = w' := fun W => sectors_any 46 W (by decide)
      have fr := fun i => hS4.mem.free i
      have d4 : w4.cell? ⟨s, 4, none⟩ = some (.int .i64 0) := hS4.mem.cells.2.2.2.2.1
      have d5 : w4.cell? ⟨s, 5, none⟩ = some (.int .i64 0) := hS4.mem.cells.2.2.2.2.2.1
      have d6 : w4.cell? ⟨s, 6, none⟩ = some (.int .i64 0) := hS4.mem.cells.2.2.2.2.2.2.1
      have fr4 := fr 4
      have fr5 := fr 5
      have fr6 := fr 6
      have H4 := Lib.hid (And.intro hS4 (And.intro he4 hc4))
      clear cl hk4 he4 hc4 hS4 fr
      go_wp2_with fail
      refine (cs _).mono ?_
      rintro e w5 ⟨rfl, rfl⟩
      clear cs
      go_wp2
      have q3 := ((H4.out.1.mem.set4 1 (x := 1) rfl).set5 1 (x := 1) rfl).set6 1 (x := 1) rfl
      have e3 : ({ { { st0 from_ half with gen := 1 } with next := 1 } with free := 1 } : St) = makeS from_ half := rfl
      rw [e3] at q3
      have r1 := Eff.setCell (S := (· = s)) (Eff.refl (· = s) w4) (p := ⟨s, 4, none⟩) (fun _ => rfl) (.int .i64 1)
      have r2 := Eff.setCell (S := (· = s)) r1 (p := ⟨s, 5, none⟩) (fun _ => rfl) (.int .i64 1)
      have r3 := Eff.setCell (S := (· = s)) r2 (p := ⟨s, 6, none⟩) (fun _ => rfl) (.int .i64 1)
      have hS5 := H4.out.1.turn r3 q3 rfl
      have hE : Eff (fun x => x = g ∨ x = D) w (((w4.setCell ⟨s, 4, none⟩ (.int .i64 1)).setCell ⟨s, 5, none⟩ (.int .i64 1)).setCell ⟨s, 6, none⟩ (.int .i64 1)) := by
        have hsw := H1.out.2.2.1
        have a1 := Eff.of_below (H1.out.2.1.trans (HW2.out.mono H1.out.2.1.size)) (fun x => x = g ∨ x = D)
        have a2 := a1.trans (H3.out.2.2)
        have a3 := a2.trans' H3.out.2.1 (fun i hi e => by have e2 : i = s := e; omega)
        have a4 := a3.trans H4.out.2.1
        exact a4.trans' r3 (fun i hi e => by have e2 : i = s := e; omega)
      have HF := Lib.hid (And.intro hS5 (And.intro hE H4.out.2.2))
      clear q3 r1 r2 r3 hS5 hE
      generalize ((w4.setCell ⟨s, 4, none⟩ (.int .i64 1)).setCell ⟨s, 5, none⟩ (.int .i64 1)).setCell ⟨s, 6, none⟩ (.int .i64 1) = w6 at *
      go_ret2
      exact ⟨s, mb, rfl, HF.out.1, HF.out.2.1, HF.out.2.2.mono (by omega), by have := H1.out.2.2.1; omega, by have := H1.out.2.2.2; omega⟩
end Go.Proofs.YtnbefiaeihialaaGreat
