/- Package wal: Commit. -/
import Derived.Test.YtnbefiaeihialaaGreatWalU
set_option linter.unusedVariables false
set_option linter.unusedSimpArgs false
namespace Go.Proofs.YtnbefiaeihialaaGreat
open Go.RowKit
/-- What Commit answers, and the disk and the store behind it. -/
def commitF (k : Dk) (st : St) (xs : List Ch) : Int × Dk × St :=
  if ¬ ChsOk xs then (3, k, st) else if xs.length = 0 then (0, k, st) else match planF shaF st xs with
  | none => (5, k, st)
  | some (ws, st') => if (wrL k ws).2 = 0 then (0, (wrL k ws).1, st') else ((wrL k ws).2, (wrL k ws).1, { st with M := [] })
def CommitP (s mb g D c : Nat) (R : List Value) (N : Nat) (r : Int × Dk × St) (w : World) (e : Ending) (w' : World) : Prop :=
  ∃ mb' d' tab', e = .returned (.int .i64 r.1) ∧ StAt w' s mb' g D c R r.2.1 r.2.2 d' tab' ∧ SumOk d' tab' ∧ Eff (fun x => x = s ∨ x = g ∨ x = D) w w' ∧ Cnt r.2.1 (N + 30000000)
theorem Eff.wide {S S' : Nat → Prop} {a b c : World} (h : Eff S a b) (k : Eff S' b c) (hs : ∀ i, i < a.heap.size → S' i → S i) : Eff S a c := h.trans' k hs
theorem appM_len {M : List Pr} (h : Srt M) : ∀ l : List Ch, (appM M l).length ≤ M.length + l.length := by
  intro l
  induction l generalizing M with
  | nil => exact Nat.le_refl _
  | cons c r ih =>
    have h1 := ih (h.ap c)
    have h2 := apM_len h c
    show (appM (apM M c) r).length ≤ M.length + (r.length + 1)
    omega
set_option maxRecDepth 100000 in
set_option maxHeartbeats 16000000 in
theorem commit_any (A : Option Addr) (n cc s mb g D c N : Nat) (R : List Value) (k : Dk) (st : St) (d : Int) (tab : List Int) (xs : List Ch) (w : World) (hst : StAt w s mb g D c R k st d tab) (hd : SumOk d tab) (hin : ChsIn w A n xs) (hcn : Cnt k N) (hN : N ≤ 10000000000)
    (hf : st.from_ + 2 * st.half ≤ k.n) (hsd : st.side ≤ 1) (hgn : st.gen < 1000000000000 ∧ st.next < 1000000000000) (hfr : st.free ≤ st.half) (hs : Srt st.M) (hok : MOk st.M) (hl : st.M.length + n ≤ 100000) (hp : (prT xs).length ≤ 100000000) (hz : szM st.M ≤ 100000000) (hxf : ∀ c ∈ xs, c.Fit) :
    Calls Tryz.prog 19 #[.pointer (some ⟨s, 0, none⟩), .slice A n cc] w (CommitP s mb g D c R N (commitF k st xs) w) := by
  have hkn := hst.dk.ok.n2
  have hn0 : (0 : Int) ≤ (n : Int) := by omega
  have c1 := print_any A n cc xs w hin (by omega)
  have hxl := hin.len
  obtain ⟨CF, hCF⟩ : ∃ CF, CF = commitF k st xs := ⟨_, rfl⟩
  rw [← hCF]
  have H := Lib.hid (And.intro hst (And.intro hd (And.intro hin (And.intro hcn (And.intro hs (And.intro hok (And.intro hxf (And.intro hz hp))))))))
  have HCF := Lib.hid hCF
  clear hst hd hin hcn hs hok hxf hCF
  go_enter Tryz.func19, Tryz.ntmps19
  go_wp2_with fail
  refine c1.mono ?_
  rintro e w1 ⟨rfl, hb1⟩
  have hS1 := H.out.1.below hb1
  have H1 := Lib.hid (And.intro hS1 hb1)
  clear c1
  by_cases hch : ChsOk xs
  case neg =>
    have e1 : printC xs = 3 := by unfold printC; rw [if_neg hch]
    have e2 : CF = (3, k, st) := by rw [HCF.out]; unfold commitF; rw [if_pos hch]
    rw [e1]
    have HF := Lib.hid e2
    clear e1 e2 hS1 hb1
    go_wp2
    go_ret
    rw [HF.out]
    exact ⟨mb, d, tab, rfl, H1.out.1, H.out.2.1, Eff.of_below H1.out.2 _, H.out.2.2.2.1.mono (by omega)⟩
  case pos =>
    have e1 : printC xs = 0 := by unfold printC; rw [if_pos hch]
    have e2 : printS xs = ⟨(prT xs).toArray⟩ := by unfold printS; rw [if_pos hch]
    rw [e1, e2]
    obtain ⟨PS, hPS⟩ : ∃ PS : ByteArray, PS = ⟨(prT xs).toArray⟩ := ⟨_, rfl⟩
    rw [← hPS]
    have HPS := Lib.hid (And.intro hPS hch)
    clear e1 e2 hPS
    by_cases hn : n = 0
    · subst hn
      have e2 : CF = (0, k, st) := by rw [HCF.out]; unfold commitF; rw [if_neg (fun h => h hch), if_pos hxl]
      have HF := Lib.hid e2
      clear e2 hS1 hb1
      go_wp2
      go_ret
      rw [HF.out]
      exact ⟨mb, d, tab, rfl, H1.out.1, H.out.2.1, Eff.of_below H1.out.2 _, H.out.2.2.2.1.mono (by omega)⟩
    · have hnz : ((n : Int) == 0) = false := by rw [Bool.eq_false_iff]; intro e; have := beq_iff_eq.1 e; omega
      obtain ⟨c0, _, _, _, _, _, _, c7, _, _⟩ := hS1.mem.cells
      have c2 := clone_any mb st.M w1 hS1.map
      clear hS1 hb1 c0
      go_wp2_with fail
      refine c2.mono ?_
      rintro e w2 ⟨rfl, hm2, hb2⟩
      obtain ⟨m2, hm2d⟩ : ∃ m2, m2 = w1.heap.size := ⟨_, rfl⟩
      rw [← hm2d] at hm2 ⊢
      have hS2 := H1.out.1.below hb2
      have hB2 := H1.out.2.trans (hb2.mono H1.out.2.size)
      have c3 := apply_any A n cc m2 xs st.M w2 (H.out.2.2.1.below hB2) (by omega) hm2 H.out.2.2.2.2.1 (by omega) H.out.2.2.2.2.2.2.1
      have H2 := Lib.hid (And.intro hS2 (And.intro hB2 (And.intro hm2d (And.intro hb2.size (by have := hS2.mem.lt; exact H1.out.1.mem.lt)))))
      clear c2 hm2 hb2 hS2 hB2 hm2d
      go_wp2_with fail
      refine c3.mono ?_
      rintro e w3 ⟨rfl, hm3, he3⟩
      have hlow : s < m2 ∧ g < m2 ∧ D < m2 ∧ mb < m2 := by
        have h1 := H1.out.1.mem.lt
        have h2 := lt_of_block H1.out.1.dk.mem
        have h3 := lt_of_block H1.out.1.dk.dat
        have h4 := H1.out.1.map.lt
        have h5 := H2.out.2.2.1
        omega
      have hS3 := H2.out.1.keep he3 (by omega) (by omega) (by omega) (by omega)
      have hE3 : Eff (fun x => x = s ∨ x = g ∨ x = D) w w3 := (Eff.of_below H2.out.2.1 _).trans' he3 (fun i hi e => by have h1 : i = m2 := e; have h2 := H1.out.2.size; have h5 := H2.out.2.2.1; omega)
      obtain ⟨q0, q1, q2, q3, q4, q5, q6, q7, _, _⟩ := hS3.mem.cells
      have H3 := Lib.hid (And.intro hS3 (And.intro hm3 (And.intro hE3 hlow)))
      clear c3 hm3 he3 hS3 hE3 hlow
      go_upto_region 8 with fail
      go_quiet (fail)
      have hS4 := H3.out.1.keep (S := fun _ => False) ((Eff.refl _ _).drewN nq) id id id id
      have hM4 := H3.out.2.1.eff (S := fun _ => False) ((Eff.refl _ _).drewN nq) id
      have hE4 := H3.out.2.2.1.drewN nq
      generalize w3.drewN nq = w4 at *
      have hPSd : PS.data.toList = prT xs := by rw [HPS.out.1]
      have hPSz : PS.size = (prT xs).length := by rw [← hPSd, bsize]
      have c5 := record_any s g st mb d tab st.gen st.next PS w4 hS4.mem H.out.2.1 (by omega) (by omega) (by omega)
      obtain ⟨RC, hRC⟩ : ∃ RC : ByteArray, RC = ⟨(recF shaF st.gen st.next PS.data.toList).toArray⟩ := ⟨_, rfl⟩
      rw [← hRC] at c5
      have hRCd : RC.data.toList = recF shaF st.gen st.next (prT xs) := by rw [hRC, hPSd]
      have hRCz : RC.size = 46 + (prT xs).length := by rw [← bsize, hRCd, recF_len shaF_len]
      have H4 := Lib.hid (And.intro hS4 (And.intro hM4 (And.intro hE4 (And.intro hRCd hRCz))))
      clear hS4 hM4 hE4 hPSd hPSz hRC hRCd hRCz q0 q1 q2 q3 q4 q5 q6 q7 c7
      go_wp2_with fail
      refine c5.mono ?_
      rintro e w5 ⟨rfl, hst5, he5⟩
      have hS5 := H4.out.1.turn he5 hst5 rfl
      have hM5 := H4.out.2.1.eff he5 (fun e => by have h1 : m2 = s := e; have := H3.out.2.2.2.1; omega)
      have hE5 : Eff (fun x => x = s ∨ x = g ∨ x = D) w w5 := H4.out.2.2.1.trans' he5 (fun i hi e => .inl e)
      have r2 : w5.cell? ⟨s, 2, none⟩ = some (.int .i64 st.half) := hS5.mem.cells.2.2.1
      have H5 := Lib.hid (And.intro hS5 (And.intro hM5 hE5))
      obtain ⟨Q, hQ⟩ : ∃ Q, Q = secN RC.size := ⟨_, rfl⟩
      have hQm : Q ≤ 3000000 := by rw [hQ, H4.out.2.2.2.2]; unfold secN; omega
      have c6 := fun W => sectors_any RC.size W (by rw [H4.out.2.2.2.2]; omega)
      rw [← hQ] at c6
      have HQ := Lib.hid hQ
      clear c5 hst5 he5 hS5 hM5 hE5 hQ
      have hfq : IntKind.i64.wrap ((st.free : Int) + (Q : Int)) = (st.free : Int) + (Q : Int) := by rw [IntKind.wrap_i64]; omega
      go_upto_region 10 with fail
      go_quiet ((go_at_call 39; with_reducible exact quietly (c6 _)))
      have hS6 := H5.out.1.keep (S := fun _ => False) ((Eff.refl _ _).drewN nq) id id id id
      have hM6 := H5.out.2.1.eff (S := fun _ => False) ((Eff.refl _ _).drewN nq) id
      have hE6 := H5.out.2.2.drewN nq
      generalize w5.drewN nq = w6 at *
      have H6 := Lib.hid (And.intro hS6 (And.intro hM6 hE6))
      clear hS6 hM6 hE6 c6 r2 H5
      go_upto_if 62 with fail
      go_cut [6, 8, 9, 10, 11, 12] (fun x6 x8 x9 x10 x11 x12 wx => ∃ (ER : Int) (SD GN NX AT : Nat) (RK : ByteArray) (kk : Dk), x6 = .int .i64 ER ∧ x8 = .int .i64 SD ∧ x9 = .int .i64 GN ∧ x10 = .int .i64 NX ∧ x11 = .int .i64 AT ∧ x12 = .string RK ∧
        Hid (StAt wx s mb g D c R kk st 1 tabF ∧ MapB wx m2 (appM st.M xs) ∧ Eff (fun x => x = s ∨ x = g ∨ x = D) w wx ∧ Cnt kk (N + 1) ∧ SD ≤ 1 ∧ AT ≤ 4096 ∧ NX < 1000000000001 ∧ RK.size ≤ 1000000000 ∧
          (ER = 0 → ∃ ws, planF shaF st xs = some (ws, ⟨st.from_, st.half, SD, GN, NX + 1, AT + secN RK.size, appM st.M xs⟩) ∧ wrL k ws = wrL kk (layW (st.from_ + SD * st.half + AT) st.half AT RK.data.toList)) ∧
          (ER ≠ 0 → ∃ ws st2, planF shaF st xs = some (ws, st2) ∧ wrL k ws = (kk, ER) ∧ st2.from_ = st.from_)))
      case first =>
        by_cases hfit : (st.half : Int) < (st.free : Int) + (Q : Int)
        · have hr2 : w6.cell? ⟨s, 2, none⟩ = some (.int .i64 st.half) := H6.out.1.mem.cells.2.2.1
          have hsrt := H.out.2.2.2.2.1.app xs
          have hmok := H.out.2.2.2.2.2.1.app H.out.2.2.2.2.1 HPS.out.2
          have hszm := szM_app H.out.2.2.2.2.1 xs
          have hmln : (appM st.M xs).length ≤ 100000 := Nat.le_trans (appM_len H.out.2.2.2.2.1 xs) (by rw [hxl]; exact hl)
          obtain ⟨SD, hSD⟩ : ∃ SD, SD = 1 - st.side := ⟨_, rfl⟩
          have hSDi : (1 : Int) - (st.side : Int) = (SD : Int) := by omega
          have hSDm : SD ≤ 1 := by omega
          have hgw : IntKind.i64.wrap ((st.gen : Int) + 1) = (st.gen : Int) + 1 := by rw [IntKind.wrap_i64]; omega
          have hSDw : IntKind.i64.wrap (1 - (st.side : Int)) = (SD : Int) := by rw [IntKind.wrap_i64]; omega
          have cw1 := whole_any m2 (appM st.M xs) w6 H6.out.2.1 hsrt hmok hmln
          have hwl : (whole (appM st.M xs)).length ≤ 200000000 := by
            have h1 : (whole (appM st.M xs)).length = szM (appM st.M xs) := rfl
            omega
          obtain ⟨WH, hWH⟩ : ∃ WH : ByteArray, WH = ⟨(whole (appM st.M xs)).toArray⟩ := ⟨_, rfl⟩
          rw [← hWH] at cw1
          have hWHd : WH.data.toList = whole (appM st.M xs) := by rw [hWH]
          have hWHz : WH.size = (whole (appM st.M xs)).length := by rw [← hWHd, bsize]
          have HW := Lib.hid (And.intro hWHd (And.intro hWHz (And.intro hwl hSD)))
          clear hWH hWHd hsrt hmok hszm hmln hSD hSDi
          go_wp2_with fail
          refine cw1.mono ?_
          rintro e w7 ⟨rfl, hb7⟩
          have hS7 := H6.out.1.below hb7
          have hM7 := H6.out.2.1.below hb7
          have hE7 := H6.out.2.2.trans (Eff.of_below hb7 _)
          have c8 := record_any s g st mb 1 tabF (st.gen + 1) 0 WH w7 hS7.mem (.inr ⟨rfl, rfl⟩) (by omega) (by omega) (by rw [hWHz]; omega)
          rw [show ((st.gen + 1 : Nat) : Int) = (st.gen : Int) + 1 by omega] at c8
          obtain ⟨RK, hRK⟩ : ∃ RK : ByteArray, RK = ⟨(recF shaF (st.gen + 1) 0 WH.data.toList).toArray⟩ := ⟨_, rfl⟩
          rw [← hRK] at c8
          have hRKd : RK.data.toList = recF shaF (st.gen + 1) 0 (whole (appM st.M xs)) := by rw [hRK, HW.out.1]
          have hRKz : RK.size = 46 + (whole (appM st.M xs)).length := by rw [← bsize, hRKd, recF_len shaF_len]
          have H7 := Lib.hid (And.intro hS7 (And.intro hM7 (And.intro hE7 hRKd)))
          have HRZ := Lib.hid hRKz
          clear cw1 hb7 hS7 hM7 hE7 hRK hRKd hRKz hr2 hWHz
          go_wp2_with fail
          refine c8.mono ?_
          rintro e w8 ⟨rfl, hst8, he8⟩
          have hS8 := H7.out.1.turn he8 hst8 rfl
          have hM8 := H7.out.2.1.eff he8 (fun e => by have h1 : m2 = s := e; have := H3.out.2.2.2.1; omega)
          have hE8 : Eff (fun x => x = s ∨ x = g ∨ x = D) w w8 := H7.out.2.2.1.trans' he8 (fun i hi e => .inl e)
          have r2 : w8.cell? ⟨s, 2, none⟩ = some (.int .i64 st.half) := hS8.mem.cells.2.2.1
          have H8 := Lib.hid (And.intro hS8 (And.intro hM8 hE8))
          obtain ⟨Q3, hQ3⟩ : ∃ Q3, Q3 = secN RK.size := ⟨_, rfl⟩
          have c9 := fun W => sectors_any RK.size W (by rw [HRZ.out]; omega)
          rw [← hQ3] at c9
          have HQ3 := Lib.hid hQ3
          have hQ30 : (0 : Int) ≤ (Q3 : Int) := by omega
          clear c8 hst8 he8 hS8 hM8 hE8 hQ3 hwl
          have hpl1 : ¬ (st.free + secN (46 + (prT xs).length) ≤ st.half) := by
            have h1 := HQ.out
            rw [H4.out.2.2.2.2] at h1
            omega
          have HPL := Lib.hid hpl1
          clear hpl1
          go_upto_region 13 with fail
          go_quiet ((go_at_call 39; with_reducible exact quietly (c9 _)))
          have hS9 := H8.out.1.keep (S := fun _ => False) ((Eff.refl _ _).drewN nq) id id id id
          have hM9 := H8.out.2.1.eff (S := fun _ => False) ((Eff.refl _ _).drewN nq) id
          have hE9 := H8.out.2.2.drewN nq
          generalize w8.drewN nq = w9 at *
          have H9 := Lib.hid (And.intro hS9 (And.intro hM9 hE9))
          have v0 : w9.cell? ⟨s, 0, none⟩ = some (.pointer (some ⟨g, 0, none⟩)) := hS9.mem.cells.1
          have v1 : w9.cell? ⟨s, 1, none⟩ = some (.int .i64 st.from_) := hS9.mem.cells.2.1
          have v2 : w9.cell? ⟨s, 2, none⟩ = some (.int .i64 st.half) := hS9.mem.cells.2.2.1
          clear hS9 hM9 hE9 c9 r2
          by_cases hbig : (st.half : Int) < (Q3 : Int)
          · have e2 : CF = (5, k, st) := by
              rw [HCF.out]; unfold commitF
              rw [if_neg (fun h => h HPS.out.2), if_neg (by rw [hxl]; exact hn)]
              have h1 : planF shaF st xs = none := by
                unfold planF
                rw [if_neg HPL.out, if_pos (by have h2 := HQ3.out; rw [HRZ.out] at h2; omega)]
              rw [h1]
            have HF := Lib.hid e2
            clear e2 v0 v1 v2
            go_wp2
            go_ret
            rw [HF.out]
            exact ⟨mb, 1, tabF, rfl, H9.out.1, .inr ⟨rfl, rfl⟩, H9.out.2.2, H.out.2.2.2.1.mono (by omega)⟩
          · have hsh0 : (0 : Int) ≤ (SD : Int) * (st.half : Int) := Int.mul_nonneg (by omega) (by omega)
            have hshN : SD * st.half ≤ st.half := by
              have : SD * st.half ≤ 1 * st.half := Nat.mul_le_mul_right _ hSDm
              omega
            have hshe : (SD : Int) * (st.half : Int) = ((SD * st.half : Nat) : Int) := by simp
            have hsh1 : (SD : Int) * (st.half : Int) ≤ 100000 := by omega
            have hf0 : (0 : Int) ≤ (st.from_ : Int) := by omega
            have hmw1 : IntKind.i64.wrap ((SD : Int) * (st.half : Int)) = (SD : Int) * (st.half : Int) := by rw [IntKind.wrap_i64]; omega
            have hmw2 : IntKind.i64.wrap ((st.from_ : Int) + (SD : Int) * (st.half : Int)) = (st.from_ : Int) + (SD : Int) * (st.half : Int) := by rw [IntKind.wrap_i64]; omega
            have hct := H.out.2.2.2.1
            have cw := write_any g D c R k ((st.from_ : Int) + (SD : Int) * (st.half : Int)) ⟨#[]⟩ w9.drew (H9.out.1.dk.keep (S := fun _ => False) (Eff.refl _ _).drew id id) (by decide) hct.a (by have := hct.b; omega) hct.c (by have := hct.d; omega)
            have hcw := hct.write ((st.from_ : Int) + (SD : Int) * (st.half : Int)) []
            change Calls _ _ _ _ fun e w' => e = .returned (.int .i64 (writeC k ((st.from_ : Int) + (SD : Int) * (st.half : Int)) [])) ∧ _ ∧ DkAt w' g D c R (writeK k ((st.from_ : Int) + (SD : Int) * (st.half : Int)) []) at cw
            have hplan : planF shaF st xs = some ((st.from_ + SD * st.half, []) :: layW (st.from_ + SD * st.half + 0) st.half 0 RK.data.toList, ⟨st.from_, st.half, SD, st.gen + 1, 0 + 1, 0 + secN RK.size, appM st.M xs⟩) := by
              unfold planF
              rw [if_neg HPL.out, if_neg (by have h2 := HQ3.out; rw [HRZ.out] at h2; omega), HRZ.out, H7.out.2.2.2, HW.out.2.2.2, Nat.zero_add, Nat.zero_add]
            have hFe : ((st.from_ + SD * st.half : Nat) : Int) = (st.from_ : Int) + (SD : Int) * (st.half : Int) := by omega
            have hw1 : ∀ r : List (Nat × Bs), writeC k ((st.from_ : Int) + (SD : Int) * (st.half : Int)) [] = 0 → wrL k ((st.from_ + SD * st.half, []) :: r) = wrL (writeK k ((st.from_ : Int) + (SD : Int) * (st.half : Int)) []) r := fun r h0 => by
              rw [← hFe] at h0 ⊢; exact wrL_ok h0
            have hw2 : ∀ r : List (Nat × Bs), writeC k ((st.from_ : Int) + (SD : Int) * (st.half : Int)) [] ≠ 0 → wrL k ((st.from_ + SD * st.half, []) :: r) = (writeK k ((st.from_ : Int) + (SD : Int) * (st.half : Int)) [], writeC k ((st.from_ : Int) + (SD : Int) * (st.half : Int)) []) := fun r h0 => by
              rw [← hFe] at h0 ⊢; exact wrL_bad h0
            generalize writeC k ((st.from_ : Int) + (SD : Int) * (st.half : Int)) [] = ER at *
            generalize writeK k ((st.from_ : Int) + (SD : Int) * (st.half : Int)) [] = kk at *
            have HX := Lib.hid (And.intro hplan (And.intro hw1 (And.intro hw2 (And.intro hcw trivial))))
            clear hplan hw1 hw2 hcw hct hFe hshe hshN
            go_upto_region 15 with fail
            go_region_law (go_simp; go_at_call 26; (with_reducible refine cw.mono ?_); rintro e w10 ⟨rfl, he10, hk10⟩)
            all_goals
              have hS10 := (H9.out.1.keep (S := fun _ => False) (w' := w9.drew) (Eff.refl _ _).drew id id id id).disk he10 hk10
              have hM10 := (H9.out.2.1.eff (S := fun _ => False) (w' := w9.drew) (Eff.refl _ _).drew id).eff he10 (by have := H3.out.2.2.2; rintro (e | e) <;> omega)
              have hE10 := H9.out.2.2.drew.trans' he10 (fun i hi e => .inr e)
              have HY := Lib.hid (And.intro hS10 (And.intro hM10 hE10))
              clear he10 hk10 hS10 hM10 hE10 cw
              go_wp2
              go_meet
              refine ⟨ER, SD, st.gen + 1, 0, 0, RK, kk, rfl, rfl, by go_num, rfl, rfl, rfl, Lib.hid ⟨HY.out.1, HY.out.2.1, HY.out.2.2, HX.out.2.2.2.1, hSDm, by omega, by omega, by rw [HRZ.out]; have := HW.out.2.2.1; omega, fun h0 => ⟨_, HX.out.1, HX.out.2.1 _ h0⟩, fun h0 => ⟨_, _, HX.out.1, HX.out.2.2.1 _ h0, rfl⟩⟩⟩
        · have hpl1 : st.free + secN (46 + (prT xs).length) ≤ st.half := by
            have h1 := HQ.out
            rw [H4.out.2.2.2.2] at h1
            omega
          have HX := Lib.hid hpl1
          clear hpl1
          go_wp2
          go_meet
          refine ⟨0, st.side, st.gen, st.next, st.free, RC, k, rfl, rfl, rfl, rfl, rfl, rfl, Lib.hid ⟨H6.out.1, H6.out.2.1, H6.out.2.2, H.out.2.2.2.1.mono (by omega), hsd, by omega, by omega, by rw [H4.out.2.2.2.2]; omega, fun _ => ⟨_, ?_, rfl⟩, fun h0 => absurd rfl h0⟩⟩
          unfold planF
          rw [if_pos HX.out, H4.out.2.2.2.1, H4.out.2.2.2.2]
      case rest =>
        obtain ⟨ER, SD, GN, NX, AT, RK, kk, rfl, rfl, rfl, rfl, rfl, rfl, hJ⟩ := hcut
        by_cases hER : ER = 0
        · subst hER
          obtain ⟨j1, j2, j3, j4, j5, j6, j7, j8, j9, _⟩ := hJ.out
          obtain ⟨ws, hpl, hwl⟩ := j9 rfl
          have cl := lay_any s g D c R kk st mb 1 tabF SD AT (N + 1) RK wc j1.mem j1.dk j1.sg j1.sD j4 (by omega) j8 j5 (by omega) (by omega) (by omega)
          rw [← hwl] at cl
          obtain ⟨KK, hKK⟩ : ∃ KK, KK = wrL k ws := ⟨_, rfl⟩
          rw [← hKK] at cl
          have hcf : CF = if KK.2 = 0 then (0, KK.1, ⟨st.from_, st.half, SD, GN, NX + 1, AT + secN RK.size, appM st.M xs⟩) else (KK.2, KK.1, { st with M := [] }) := by
            rw [HCF.out]; unfold commitF
            rw [if_neg (fun h => h HPS.out.2), if_neg (by rw [hxl]; exact hn), hpl, hKK]
          have HC := Lib.hid (And.intro hcf (And.intro j1 (And.intro j2 j3)))
          have hsec : secN RK.size ≤ 20000000 := by unfold secN; omega
          clear hJ j1 j2 j3 j4 j9 hpl hwl hKK hcf
          go_wp2_with fail
          refine cl.mono ?_
          rintro e w7 ⟨rfl, hk7, he7, hc7⟩
          have hS7 := HC.out.2.1.disk he7 hk7
          have hM7 := HC.out.2.2.1.eff he7 (by have := H3.out.2.2.2; rintro (e | e) <;> omega)
          have hE7 := HC.out.2.2.2.trans' he7 (fun i hi e => .inr e)
          have H7 := Lib.hid (And.intro hS7 (And.intro hM7 (And.intro hE7 hc7)))
          have f3 := hS7.mem.free 3
          have f4 := hS7.mem.free 4
          have f5 := hS7.mem.free 5
          have f6 := hS7.mem.free 6
          have f7 := hS7.mem.free 7
          obtain ⟨-, -, -, d3, d4, d5, d6, d7, -, -⟩ := hS7.mem.cells
          obtain ⟨EC, hEC⟩ : ∃ EC, EC = KK.2 := ⟨_, rfl⟩
          obtain ⟨K1, hK1⟩ : ∃ K1, K1 = KK.1 := ⟨_, rfl⟩
          have hcf := HC.out.1
          rw [← hEC, ← hK1] at hcf
          rw [← hEC]
          rw [← hK1] at H7
          have HCC := Lib.hid hcf
          clear cl hk7 he7 hc7 hS7 hM7 hE7 HC hEC hK1 hcf
          by_cases hz0 : EC = 0
          · subst hz0
            have HR := Lib.hid (HCC.out.trans (if_pos rfl))
            obtain ⟨Q2, hQ2⟩ : ∃ Q2, Q2 = secN RK.size := ⟨_, rfl⟩
            have c9 := fun W => sectors_any RK.size W (by omega)
            rw [← hQ2] at c9 hsec
            have HQ2 := Lib.hid hQ2
            clear hQ2
            have hw1 : IntKind.i64.wrap ((NX : Int) + 1) = (NX : Int) + 1 := by rw [IntKind.wrap_i64]; omega
            have hw2 : IntKind.i64.wrap ((AT : Int) + (Q2 : Int)) = (AT : Int) + (Q2 : Int) := by rw [IntKind.wrap_i64]; omega
            go_wp2_with fail
            refine (c9 _).mono ?_
            rintro e w8 ⟨rfl, rfl⟩
            clear c9
            go_wp2
            have q3 := ((((H7.out.1.mem.set3 SD (x := (SD : Int)) rfl).set4 GN (x := (GN : Int)) rfl).set5 (NX + 1) (x := (NX : Int) + 1) (by omega)).set6 (AT + Q2) (x := (AT : Int) + (Q2 : Int)) (by omega)).set7 m2 (appM st.M xs)
            have e3 : ({ { { { { st with side := SD } with gen := GN } with next := NX + 1 } with free := AT + Q2 } with M := appM st.M xs } : St) = ⟨st.from_, st.half, SD, GN, NX + 1, AT + Q2, appM st.M xs⟩ := rfl
            rw [e3] at q3
            have r1 := Eff.setCell (S := (· = s)) (Eff.refl (· = s) w7) (p := ⟨s, 3, none⟩) (fun _ => rfl) (.int .i64 (SD : Int))
            have r2 := Eff.setCell (S := (· = s)) r1 (p := ⟨s, 4, none⟩) (fun _ => rfl) (.int .i64 (GN : Int))
            have r3 := Eff.setCell (S := (· = s)) r2 (p := ⟨s, 5, none⟩) (fun _ => rfl) (.int .i64 ((NX : Int) + 1))
            have r4 := Eff.setCell (S := (· = s)) r3 (p := ⟨s, 6, none⟩) (fun _ => rfl) (.int .i64 ((AT : Int) + (Q2 : Int)))
            have r5 := Eff.setCell (S := (· = s)) r4 (p := ⟨s, 7, none⟩) (fun _ => rfl) (.map (some m2))
            generalize ((((w7.setCell ⟨s, 3, none⟩ (.int .i64 (SD : Int))).setCell ⟨s, 4, none⟩ (.int .i64 (GN : Int))).setCell ⟨s, 5, none⟩ (.int .i64 ((NX : Int) + 1))).setCell ⟨s, 6, none⟩ (.int .i64 ((AT : Int) + (Q2 : Int)))).setCell ⟨s, 7, none⟩ (.map (some m2)) = w9 at *
            have hsm := H3.out.2.2.2.1
            have hM9 := H7.out.2.1.eff r5 (fun e => by have h1 : m2 = s := e; omega)
            have hD9 := H7.out.1.dk.keep r5 (fun e => H7.out.1.sg e.symm) (fun e => H7.out.1.sD e.symm)
            have hE9 := H7.out.2.2.1.trans' r5 (fun i hi e => .inl e)
            have HF := Lib.hid (And.intro q3 (And.intro hM9 (And.intro hD9 hE9)))
            clear e3 q3 r1 r2 r3 r4 r5 hM9 hD9 hE9
            go_ret
            rw [HR.out, ← HQ2.out]
            exact ⟨m2, 1, tabF, rfl, ⟨HF.out.1, HF.out.2.1, HF.out.2.2.1⟩, .inr ⟨rfl, rfl⟩, HF.out.2.2.2, H7.out.2.2.2.mono (by omega)⟩
          · have hz1 : (EC != 0) = true := by simpa using hz0
            have hz2 : (EC == 0) = false := by simpa using hz0
            have HR := Lib.hid (HCC.out.trans (if_neg hz0))
            have hmm : (Instr.makeMap 91 none).run Tryz.prog w7 = .ok (.map (some w7.heap.size)) (w7.alloc (.map #[] 0)) := rfl
            have hB8 : Below w7.heap.size w7 (w7.alloc (.map #[] 0)) := (Below.refl _ _).alloc (Nat.le_refl _) _
            have hS8 := H7.out.1.below hB8
            have hM8 := MapB.new w7
            have g7 := hS8.mem.free 7
            obtain ⟨-, -, -, -, -, -, -, e7, -, -⟩ := hS8.mem.cells
            clear hz0 d3 d4 d5 d6 d7
            go_wp2
            have q3 := hS8.mem.set7 w7.heap.size []
            have r5 := Eff.setCell (S := (· = s)) (Eff.refl (· = s) (w7.alloc (.map #[] 0))) (p := ⟨s, 7, none⟩) (fun _ => rfl) (.map (some w7.heap.size))
            have hsl := H7.out.1.mem.lt
            have hM9 := hM8.eff r5 (fun e => by have h1 : w7.heap.size = s := e; omega)
            have hD9 := hS8.dk.keep r5 (fun e => hS8.sg e.symm) (fun e => hS8.sD e.symm)
            have hE9 := (H7.out.2.2.1.trans (Eff.of_below hB8 _)).trans' r5 (fun i hi e => .inl e)
            have HF := Lib.hid (And.intro q3 (And.intro hM9 (And.intro hD9 hE9)))
            clear q3 r5 hM9 hD9 hE9 hM8 hS8 hB8 hmm e7 g7 f3 f4 f5 f6 f7
            generalize (w7.alloc (.map #[] 0)).setCell ⟨s, 7, none⟩ (.map (some w7.heap.size)) = w9 at *
            go_ret
            rw [HR.out]
            exact ⟨w7.heap.size, 1, tabF, rfl, ⟨HF.out.1, HF.out.2.1, HF.out.2.2.1⟩, .inr ⟨rfl, rfl⟩, HF.out.2.2.2, H7.out.2.2.2.mono (by omega)⟩
        · obtain ⟨j1, j2, j3, j4, j5, j6, j7, j8, _, j10⟩ := hJ.out
          obtain ⟨ws, st2, hpl, hwl, _⟩ := j10 hER
          have hcf : CF = (ER, kk, { st with M := [] }) := by
            rw [HCF.out]; unfold commitF
            rw [if_neg (fun h => h HPS.out.2), if_neg (by rw [hxl]; exact hn), hpl]
            show (if (wrL k ws).2 = 0 then _ else _) = _
            rw [hwl, if_neg hER]
          have HC := Lib.hid (And.intro hcf (And.intro j1 (And.intro j3 j4)))
          have hz1 : (ER != 0) = true := by simpa using hER
          have hz2 : (ER == 0) = false := by simpa using hER
          have hmm : (Instr.makeMap 91 none).run Tryz.prog wc = .ok (.map (some wc.heap.size)) (wc.alloc (.map #[] 0)) := rfl
          have hB8 : Below wc.heap.size wc (wc.alloc (.map #[] 0)) := (Below.refl _ _).alloc (Nat.le_refl _) _
          have hS8 := j1.below hB8
          have hM8 := MapB.new wc
          have g7 := hS8.mem.free 7
          have HSL := Lib.hid j1.mem.lt
          have f7 := j1.mem.free 7
          obtain ⟨-, -, -, -, -, -, -, d7, -, -⟩ := j1.mem.cells
          obtain ⟨-, -, -, -, -, -, -, e7, -, -⟩ := hS8.mem.cells
          have H8 := Lib.hid (And.intro hS8 (And.intro hM8 hB8))
          clear hJ j1 j2 j3 j4 j10 hpl hwl hcf hER hS8 hM8 hB8
          go_wp2
          have hsl := HSL.out
          have q3 := H8.out.1.mem.set7 wc.heap.size []
          have r5 := Eff.setCell (S := (· = s)) (Eff.refl (· = s) (wc.alloc (.map #[] 0))) (p := ⟨s, 7, none⟩) (fun _ => rfl) (.map (some wc.heap.size))
          have hM9 := H8.out.2.1.eff r5 (fun e => by have h1 : wc.heap.size = s := e; omega)
          have hD9 := H8.out.1.dk.keep r5 (fun e => H8.out.1.sg e.symm) (fun e => H8.out.1.sD e.symm)
          have hE9 := (HC.out.2.2.1.trans (Eff.of_below H8.out.2.2 _)).trans' r5 (fun i hi e => .inl e)
          have HF := Lib.hid (And.intro q3 (And.intro hM9 (And.intro hD9 hE9)))
          clear q3 r5 hM9 hD9 hE9 H8 hmm e7 g7 f7 d7
          generalize (wc.alloc (.map #[] 0)).setCell ⟨s, 7, none⟩ (.map (some wc.heap.size)) = w9 at *
          go_ret
          rw [HC.out.1]
          exact ⟨wc.heap.size, 1, tabF, rfl, ⟨HF.out.1, HF.out.2.1, HF.out.2.2.1⟩, .inr ⟨rfl, rfl⟩, HF.out.2.2.2, HC.out.2.2.2.mono (by omega)⟩
end Go.Proofs.YtnbefiaeihialaaGreat
