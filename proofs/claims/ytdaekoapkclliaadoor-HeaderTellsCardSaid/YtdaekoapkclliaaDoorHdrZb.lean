/- The document's Print. -/
import Derived.Test.YtdaekoapkclliaaDoorHdrZa
set_option linter.unusedVariables false
set_option linter.unusedSimpArgs false
namespace Go.Proofs.YtdaekoapkclliaaDoor
open Go.RowKit
set_option maxRecDepth 100000 in
set_option maxHeartbeats 8000000 in
theorem rprint_any (A : Option Addr) (n c : Nat) (xs : List Fld) (w : World) (h : FldsIn w A n xs) (hsm : Small xs) :
    Calls Tryd.prog 12 #[.slice A n c] w fun e w' => e = .returned (.tuple #[.string ⟨(prT (fds xs)).toArray⟩, .int .i64 (prE (fds xs))]) ∧ Below w.heap.size w w' := by
  obtain ⟨T, hT⟩ : ∃ T : ByteArray, T = ⟨(prT (fds xs)).toArray⟩ := ⟨_, rfl⟩
  obtain ⟨E, hE⟩ : ∃ E : Int, E = prE (fds xs) := ⟨_, rfl⟩
  rw [← hT, ← hE]
  have hn0 : (0 : Int) ≤ (n : Int) := by omega
  have hnm := h.max
  have HTE := Lib.hid (And.intro hT hE)
  have H := Lib.hid (And.intro h hsm)
  clear h hsm hT hE
  go_enter Tryd.func12, Tryd.ntmps12
  go_wp2
  go_loopw [4] (fun i wr => ∃ k : Nat, k ≤ n ∧ i = .int .i64 k ∧ Hid (allR (fds xs) = allR (fds (xs.drop k))) ∧ Below w.heap.size w wr) (fun i _ => n - (intOf i).toNat)
  case atStart => exact ⟨0, Nat.zero_le _, rfl, Lib.hid (by rw [List.drop_zero]), Below.refl _ _⟩
  case round =>
    obtain ⟨k, hk, rfl, hg, hbl⟩ := hrel
    have hk0 : (0 : Int) ≤ (k : Int) := by omega
    by_cases hlt : k < n
    · have hki : (k : Int) < (n : Int) := by omega
      obtain ⟨b, off, rfl, hc⟩ := (H.out.1.below hbl).cells (by omega)
      obtain ⟨e1, e2⟩ := hc k hlt
      have hkl : k < xs.length := by rw [H.out.1.len]; exact hlt
      have hsz := H.out.2.at_ hkl
      have hgd := hg.out
      rw [fds_drop hkl] at hgd
      generalize fl xs k = f at *
      obtain ⟨fn, fb⟩ := f
      dsimp only at e1 e2 hsz hgd
      have c1 := fun W => rright_any fn fb W (by omega) (by omega)
      have HB := Lib.hid hbl
      cases hs : rtF fn.data.toList fb.data.toList with
      | true =>
        rw [hs] at c1 hgd
        have HG := Lib.hid hgd
        clear hc hkl hg hbl hs hsz hgd
        go_wp2_with fail
        refine (c1 _).mono ?_
        rintro e w1 ⟨rfl, hb1⟩
        have HF := Lib.hid (HB.out.trans (hb1.mono HB.out.size))
        clear c1 hb1
        go_wp2
        go_roundw
        case rel => exact ⟨k + 1, by omega, by go_num, HG.out, HF.out⟩
        case measure => simp [intOf]; omega
      | false =>
        rw [hs] at c1 hgd
        obtain ⟨q1, q2⟩ := pr_bad hgd
        rw [← HTE.out.1] at q2
        rw [← HTE.out.2] at q1
        subst q1
        subst q2
        clear hc hkl hg hbl hs hsz hgd
        go_wp2_with fail
        refine (c1 _).mono ?_
        rintro e w1 ⟨rfl, hb1⟩
        have HF := Lib.hid (HB.out.trans (hb1.mono HB.out.size))
        clear c1 hb1
        go_wp2
        go_ret2
        exact ⟨rfl, HF.out⟩
    · obtain rfl : k = n := by omega
      have hjE : ¬ (k : Int) < (k : Int) := by omega
      have hall : allR (fds xs) = true := by rw [hg.out, List.drop_of_length_le (by rw [H.out.1.len]; exact Nat.le_refl _)]; rfl
      have hlen : (fds xs).length = k := by rw [fds_len]; exact H.out.1.len
      by_cases h64 : 64 < k
      · obtain ⟨q1, q2⟩ := pr_many hall (by rw [hlen]; exact h64)
        rw [← HTE.out.1] at q2
        rw [← HTE.out.2] at q1
        subst q1
        subst q2
        have h64i : (64 : Int) < (k : Int) := by omega
        have HF := Lib.hid hbl
        clear hg hbl hall hlen h64
        go_wp2
        go_ret2
        exact ⟨rfl, HF.out⟩
      · have h64i : ¬ (64 : Int) < (k : Int) := by omega
        have HA := Lib.hid (And.intro hall hlen)
        have HS := Lib.hid hbl
        clear hg hbl hall hlen
        go_wp2
        go_loopw [5, 6] (fun o i wr => ∃ (O : ByteArray) (j : Nat), j ≤ k ∧ o = .string O ∧ i = .int .i64 j ∧ Hid (O.data.toList = ctL (prK xs j)) ∧ Hid (Fine (prK xs j)) ∧ Below w.heap.size w wr) (fun _ i _ => k - (intOf i).toNat)
        case atStart => exact ⟨⟨#[]⟩, 0, Nat.zero_le _, rfl, rfl, Lib.hid rfl, Lib.hid (fun x hx => by cases hx), HS.out⟩
        case round =>
          obtain ⟨O, j, hj, rfl, rfl, hO, hfi, hbl⟩ := hrel
          have hj0 : (0 : Int) ≤ (j : Int) := by omega
          by_cases hlt : j < k
          · have hki : (j : Int) < (k : Int) := by omega
            obtain ⟨g0, off, rfl, hc⟩ := (H.out.1.below hbl).cells (by omega)
            obtain ⟨e1, e2⟩ := hc j hlt
            have hkl : j < xs.length := by rw [H.out.1.len]; exact hlt
            have hsz := H.out.2.at_ hkl
            have hin := fun {x : Bs} => prK_in hkl (x := x)
            have hsu := prK_succ hkl
            have hpl := prK_len H.out.2 j (by omega)
            generalize fl xs j = f at *
            obtain ⟨fn, fb⟩ := f
            dsimp only at e1 e2 hsz hin hsu
            have c2 := rfold_any fn fb wr hsz.1 hsz.2
            have hct := fold_ct fn.data.toList fb.data.toList
            rw [bsize, bsize] at hct
            have hmx := fun q => mxL_le (ls := foldL fn.data.toList fb.data.toList) (m := 998) |>.1 q
            have hmx2 := mxL_le (ls := foldL fn.data.toList fb.data.toList) (m := 998)
            have hOz : O.size ≤ j * 400006 := by rw [← bsize, hO.out]; exact hpl
            obtain ⟨t, ht⟩ : ∃ t : ByteArray, t = ⟨(ctL (foldL fn.data.toList fb.data.toList)).toArray⟩ := ⟨_, rfl⟩
            have htd : t.data.toList = ctL (foldL fn.data.toList fb.data.toList) := by rw [ht]
            have htz : t.size ≤ 400006 := by rw [← bsize, htd]; omega
            rw [← ht] at c2
            have hns : ¬ (9223372036854775807 < O.size + t.size) := by omega
            have hOn : (O ++ t).data.toList = ctL (prK xs (j + 1)) := by
              rw [hsu, ctL_app, ← hO.out, ← htd]; simp
            generalize hM : mxL (foldL fn.data.toList fb.data.toList) = M at *
            have hM0 : (0 : Int) ≤ (M : Int) := by omega
            have HB := Lib.hid hbl
            by_cases hbig : 998 < M
            · have hbi : (998 : Int) < (M : Int) := by omega
              have hx : ∃ x ∈ foldL fn.data.toList fb.data.toList, 998 < x.length := Classical.byContradiction fun hn => by
                have := hmx2.2 (fun x hx => Nat.not_lt.1 fun h3 => hn ⟨x, hx, h3⟩)
                omega
              obtain ⟨x, hx1, hx2⟩ := hx
              obtain ⟨q1, q2⟩ := pr_long HA.out.1 (by rw [HA.out.2]; exact h64) (hin hx1) hx2
              rw [← HTE.out.1] at q2
              rw [← HTE.out.2] at q1
              subst q1
              subst q2
              clear hc hkl hsz hin hsu hpl hct hmx hmx2 hM hO hfi hbl ht htd hOn hbig hx1 hx2
              go_wp2_with fail
              refine c2.mono ?_
              rintro e w2 ⟨rfl, hb2⟩
              have HF := Lib.hid (HB.out.trans (hb2.mono HB.out.size))
              clear c2 hb2
              go_wp2
              go_ret2
              exact ⟨rfl, HF.out⟩
            · have hbi : ¬ (998 : Int) < (M : Int) := by omega
              have hfn : Fine (prK xs (j + 1)) := by rw [hsu]; exact hfi.out.app (hmx2.1 (by omega))
              have HN := Lib.hid (And.intro hOn hfn)
              clear hc hkl hsz hin hsu hpl hct hmx hmx2 hM hO hfi hbl ht htd hOn hbig hfn
              go_wp2_with fail
              refine c2.mono ?_
              rintro e w2 ⟨rfl, hb2⟩
              have HF := Lib.hid (HB.out.trans (hb2.mono HB.out.size))
              clear c2 hb2
              go_wp2
              go_roundw
              case rel => exact ⟨O ++ t, j + 1, by omega, rfl, by go_num, Lib.hid HN.out.1, Lib.hid HN.out.2, HF.out⟩
              case measure => simp [intOf]; omega
          · obtain rfl : j = k := by omega
            have hjE3 : ¬ (j : Int) < (j : Int) := by omega
            have hpl := prK_len H.out.2 j (by rw [H.out.1.len]; exact Nat.le_refl _)
            have hpe : prK xs j = prL (fds xs) := by rw [← H.out.1.len]; exact prK_all xs
            have hOz : O.size ≤ j * 400006 := by rw [← bsize, hO.out]; exact hpl
            have hns : ¬ (9223372036854775807 < O.size + 2) := by omega
            have h1 := hfi.out
            rw [hpe] at h1
            obtain ⟨q1, q2⟩ := pr_ok HA.out.1 (by rw [HA.out.2]; exact h64) h1
            rw [← HTE.out.2] at q1
            subst q1
            have hT2 : T = O ++ (⟨#[13, 10]⟩ : ByteArray) := by
              rw [HTE.out.1, q2]
              apply eq_data.2
              rw [ByteArray.data_append, Array.toList_append, hO.out, hpe]
            have HF := Lib.hid (And.intro hT2 hbl)
            clear hO hfi hbl hpl hpe h1 q2 hT2 hOz
            go_wp2
            go_ret2
            exact ⟨by rw [HF.out.1]; rfl, HF.out.2⟩
end Go.Proofs.YtdaekoapkclliaaDoor
