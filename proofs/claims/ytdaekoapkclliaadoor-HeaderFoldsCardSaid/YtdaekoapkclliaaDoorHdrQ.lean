/- HeaderFolds. -/
import Derived.Test.YtdaekoapkclliaaDoorHdrN
import Derived.BigQuiet
set_option linter.unusedVariables false
set_option linter.unusedSimpArgs false
namespace Go.Proofs.YtdaekoapkclliaaDoor
open Go.RowKit
theorem okN_nl {n b : Bs} (h : rtF n b = true) : (∀ z ∈ n, z ≠ 13) ∧ (∀ z ∈ b, z ≠ 13) := by
  obtain ⟨_, ho, hb, _⟩ := rtF_iff.1 h
  exact ⟨fun z hz => (okN_13 (ho z hz)).1, fun z hz => (bad_13 (hb z hz)).1⟩
/-- An end ahead of a blank within a body. -/
theorem fold_parse {n b : Bs} (h : rtF n b = true) (hl : b.length ≤ 300) {k : Nat} (h1 : 1 ≤ k) (h2 : k < b.length) (hbl : isBl (b.getD k 0) = true) :
    paF (n ++ [58] ++ b.take k ++ [13, 10] ++ b.drop k ++ [13, 10, 13, 10]) = ([(n, b)], [], 0) := by
  obtain ⟨hn, ho, hb, ht⟩ := rtF_iff.1 h
  obtain ⟨n13, b13⟩ := okN_nl h
  have hd : b.drop k = b[k] :: b.drop (k + 1) := List.drop_eq_getElem_cons h2
  have hbk : isBl b[k] = true := by
    rw [List.getD_eq_getElem?_getD, List.getElem?_eq_getElem h2] at hbl; exact hbl
  have e1 : n ++ [58] ++ b.take k ++ [13, 10] ++ b.drop k ++ [13, 10, 13, 10] = ctL [n ++ 58 :: b.take k, b.drop k] ++ 13 :: 10 :: [] := by simp [ctL]
  have hcut : cutG [] (ctL [n ++ 58 :: b.take k, b.drop k] ++ 13 :: 10 :: []) = some ([n ++ 58 :: b.take k, b.drop k], []) := cutG_lines [n ++ 58 :: b.take k, b.drop k] [] (fun x hx => by
    simp only [List.mem_cons, List.not_mem_nil, or_false] at hx
    rcases hx with rfl | rfl
    · refine ⟨by simp, fun z hz => ?_⟩
      rcases List.mem_append.1 hz with hz | hz
      · exact n13 z hz
      · rcases List.mem_cons.1 hz with rfl | hz
        · decide
        · exact b13 z (List.mem_of_mem_take hz)
    · exact ⟨(by rw [hd]; exact List.cons_ne_nil _ _), fun z hz => b13 z (List.mem_of_mem_drop hz)⟩)
  have hfine : Fine [n ++ 58 :: b.take k, b.drop k] := fun x hx => by
    simp only [List.mem_cons, List.not_mem_nil, or_false] at hx
    rcases hx with rfl | rfl
    · rw [List.length_append, List.length_cons, List.length_take]; omega
    · rw [List.length_drop]; omega
  have hhd : isBl ((n ++ 58 :: b.take k).headD 0) = false := by
    cases hf : n with
    | nil => rw [hf] at hn; simp at hn
    | cons c t => exact (okN_13 (ho c (by rw [hf]; exact List.mem_cons_self))).2.2.2
  have hunf : unf [n ++ 58 :: b.take k, b.drop k] = some [n ++ 58 :: b] := by
    rw [unf, if_neg (by rw [hhd]; decide), unfG, if_pos (by rw [hd]; exact hbk), unfG]
    have : n ++ 58 :: b.take k ++ b.drop k = n ++ 58 :: b := by
      rw [List.append_assoc, List.cons_append, List.take_append_drop]
    rw [this]
  have hf : fieldOf (n ++ 58 :: b) = some (n, b) := by
    have hc := cut_at1 (a := n) (d := 58) (fun x hx => (okN_13 (ho x hx)).2.2.1) b
    rw [fieldOf_ok (by rw [hc]) (by rw [hc]; show rtF n (trB b) = true; rw [ht]; exact h), hc]
    show some (n, trB b) = _
    rw [ht]
  have hfd : fdsF [n ++ 58 :: b] = some [(n, b)] := by
    rw [fdsF, hf]; rfl
  rw [e1]
  rw [pa_end hcut hfine hunf hfd]
  rfl
theorem byte_bl (c : UInt8) : (isBl c = false ∧ ((c.toNat : Int) != 32) = true ∧ ((c.toNat : Int) != 9) = true) ∨ (isBl c = true ∧ ((c.toNat : Int) != 32) = false) ∨ (isBl c = true ∧ ((c.toNat : Int) != 32) = true ∧ ((c.toNat : Int) != 9) = false) := by
  by_cases h : c = 32
  · subst h; right; left; decide
  · by_cases h2 : c = 9
    · subst h2; right; right; decide
    · left
      refine ⟨?_, (u8F (n := 32) h rfl).2, (u8F (n := 9) h2 rfl).2⟩
      unfold isBl
      simp [h, h2]
set_option maxRecDepth 100000 in
set_option maxHeartbeats 8000000 in
theorem hfolds_law (nm bd : ByteArray) (t : Int) (w : World) (hm : MaxAt w) (hz : nm.size ≤ 9223372036854775807 ∧ bd.size ≤ 9223372036854775807) (ht : (Lit.int .i64 t).wf = true) :
    Calls Tryd.prog 8 #[.agg #[.string nm, .string bd], .int .i64 t] w fun e w' => e = .returned (.bool true) ∧ Below w.heap.size w w' := by
  have c0 := awake_any w hm
  have hgn := heap_alloc_new w (.cells #[.string nm, .string bd] 38 (0, 0))
  have hbn : Below w.heap.size w (w.alloc (.cells #[.string nm, .string bd] 38 (0, 0))) := (Below.refl _ w).alloc (Nat.le_refl _) _
  have c0 := awake_any (w.alloc (.cells #[.string nm, .string bd] 38 (0, 0))) (hm.below hbn)
  have HB := Lib.hid (And.intro hgn (And.intro hbn hm))
  have hs0 : (0 : Int) ≤ (bd.size : Int) := by omega
  clear hgn hbn hm
  go_enter Tryd.func8, Tryd.ntmps8
  go_wp2_with fail
  refine c0.mono ?_
  rintro e w1 ⟨rfl, hb1⟩
  have hg1 := (hb1.block _ (lt_of_block HB.out.1)).trans HB.out.1
  have q0 : w1.cell? ⟨w.heap.size, 0, none⟩ = some (.string nm) := by rw [cell_of_row _ _ _ _ _ _ hg1]; rfl
  have q1 : w1.cell? ⟨w.heap.size, 1, none⟩ = some (.string bd) := by rw [cell_of_row _ _ _ _ _ _ hg1]; rfl
  have H1 := Lib.hid (And.intro hg1 (HB.out.2.1.trans (hb1.mono HB.out.2.1.size)))
  have c1 := right_any nm bd w1 hz.1 hz.2
  clear hg1 hb1 c0
  cases hr : rtF nm.data.toList bd.data.toList with
  | false =>
    rw [hr] at c1
    clear hr
    go_wp2_with fail
    refine c1.mono ?_
    rintro e w2 ⟨rfl, hb2⟩
    have HF := Lib.hid (H1.out.2.trans (hb2.mono H1.out.2.size))
    clear c1 hb2
    go_wp2
    go_ret
    exact ⟨rfl, HF.out⟩
  | true =>
    rw [hr] at c1
    have HR := Lib.hid hr
    clear hr
    go_wp2_with fail
    refine c1.mono ?_
    rintro e w2 ⟨rfl, hb2⟩
    have hg2 := (hb2.block _ (lt_of_block H1.out.1)).trans H1.out.1
    have k0 : w2.cell? ⟨w.heap.size, 0, none⟩ = some (.string nm) := by rw [cell_of_row _ _ _ _ _ _ hg2]; rfl
    have k1 : w2.cell? ⟨w.heap.size, 1, none⟩ = some (.string bd) := by rw [cell_of_row _ _ _ _ _ _ hg2]; rfl
    have H2 := Lib.hid (And.intro hg2 (H1.out.2.trans (hb2.mono H1.out.2.size)))
    clear q0 q1 c1 hb2 hg2
    by_cases i1 : 300 < bd.size
    · have i1i : (300 : Int) < (bd.size : Int) := by omega
      clear i1
      go_wp2
      go_ret
      exact ⟨rfl, H2.out.2⟩
    · have i1i : ¬ (300 : Int) < (bd.size : Int) := by omega
      by_cases i2 : t < 1
      · go_wp2
        go_ret
        exact ⟨rfl, H2.out.2⟩
      · by_cases i3 : (bd.size : Int) ≤ t
        · go_wp2
          go_ret
          exact ⟨rfl, H2.out.2⟩
        · obtain ⟨k, rfl⟩ : ∃ k : Nat, t = (k : Int) := ⟨t.toNat, by omega⟩
          have hk : k < bd.size := by omega
          have hk1 : 1 ≤ k := by omega
          have hkl : k < bd.data.toList.length := by rw [bsize]; exact hk
          have hgk : bd.data.toList.getD k 0 = bd[k] := by rw [List.getD_eq_getElem?_getD, List.getElem?_eq_getElem hkl]; rfl
          have hpar := fun hb => fold_parse HR.out (by rw [bsize]; omega) hk1 hkl hb
          rw [hgk] at hpar
          have hx := byte_bl bd[k]
          have hki : (1 : Int) ≤ (k : Int) := by omega
          have hkb : (k : Int) < (bd.size : Int) := by omega
          rcases hx with ⟨b1, b2, b3⟩ | hx
          · clear hpar hgk
            go_wp2
            go_ret
            exact ⟨rfl, H2.out.2⟩
          · have hbl : isBl bd[k] = true := by rcases hx with h | h <;> exact h.1
            obtain ⟨SB, hSB⟩ : ∃ SB : ByteArray, SB = nm ++ ⟨#[58]⟩ ++ bd.extract 0 k ++ ⟨#[13, 10]⟩ ++ bd.extract k bd.size ++ ⟨#[13, 10, 13, 10]⟩ := ⟨_, rfl⟩
            have hSd : SB.data.toList = nm.data.toList ++ [58] ++ bd.data.toList.take k ++ [13, 10] ++ bd.data.toList.drop k ++ [13, 10, 13, 10] := by
              rw [hSB]
              simp only [ByteArray.data_append, Array.toList_append, ext_list]
              rw [List.take_of_length_le (l := bd.data.toList.drop k) (by rw [List.length_drop, bsize]; exact Nat.le_refl _)]
              simp
            have hp := hpar hbl
            rw [← hSd] at hp
            obtain ⟨hn64, _⟩ := rtF_iff.1 HR.out
            rw [bsize] at hn64
            have hSz : SB.size ≤ 100000 := by
              rw [← bsize, hSd]
              simp only [List.length_append, List.length_take, List.length_drop, bsize, List.length_cons, List.length_nil]
              omega
            have c3 := fun W hW => parse_any SB W hSz (HB.out.2.2.below hW)
            have n1 : ¬ (9223372036854775807 < nm.size + 1) := by omega
            have n2 : ¬ (9223372036854775807 < nm.size + 1 + k) := by omega
            have n3 : ¬ (9223372036854775807 < nm.size + 1 + k + 2) := by omega
            have n4 : ¬ (9223372036854775807 < nm.size + 1 + k + 2 + (bd.size - k)) := by omega
            have n5 : ¬ (9223372036854775807 < nm.size + 1 + k + 2 + (bd.size - k) + 4) := by omega
            have HP := Lib.hid hp
            clear hpar hgk hSd hp hbl hn64 hSz
            rcases hx with ⟨-, b2⟩ | ⟨-, b2, b3⟩
            all_goals
              go_upto_region 5 with fail
              go_quiet (fail)
              rw [← hSB]
              have hd3 := Below.drewN' H2.out.2 nq
              have hg3 : (w2.drewN nq).heap[w.heap.size]? = some (.cells #[.string nm, .string bd] 38 (0, 0)) := H2.out.1
              have H3 := Lib.hid (And.intro hg3 hd3)
              clear hd3 hg3 k0 k1
              generalize w2.drewN nq = w3 at *
              have c4 := c3 w3 H3.out.2
              clear c3 hSB n1 n2 n3 n4 n5
              go_wp2_with fail
              refine c4.mono ?_
              rintro e w4 ⟨fs, A, n, c, hfs, hin, hsm, hle, rfl, hb4⟩
              rw [HP.out] at hfs ⊢
              obtain rfl : fs = [(nm, bd)] := fds_inj hfs
              obtain rfl : n = 1 := hin.len.symm
              obtain ⟨b, off, rfl, hc⟩ := hin.cells (by omega)
              obtain ⟨e1, e2⟩ := hc 0 (by omega)
              rw [show (fl [(nm, bd)] 0).1 = nm from rfl] at e1
              rw [show (fl [(nm, bd)] 0).2 = bd from rfl] at e2
              rw [Nat.zero_mul, Nat.add_zero] at e1 e2
              have hg4 := (hb4.block _ (lt_of_block H3.out.1)).trans H3.out.1
              have k0 : w4.cell? ⟨w.heap.size, 0, none⟩ = some (.string nm) := by rw [cell_of_row _ _ _ _ _ _ hg4]; rfl
              have k1 : w4.cell? ⟨w.heap.size, 1, none⟩ = some (.string bd) := by rw [cell_of_row _ _ _ _ _ _ hg4]; rfl
              have H4 := Lib.hid (H3.out.2.trans (hb4.mono H3.out.2.size))
              clear hc hg4 hfs hin hsm hle hb4 c4
              go_upto_region 7 with fail
              go_quiet (fail)
              go_wp2
              go_ret
              exact ⟨rfl, Below.drewN' H4.out _⟩
end Go.Proofs.YtdaekoapkclliaaDoor
