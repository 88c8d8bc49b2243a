/- Package base64: Unfold. -/
import Derived.Test.YtlgkghpdmiageaaDoorBasP
set_option linter.unusedVariables false
set_option linter.unusedSimpArgs false
namespace Go.Proofs.YtlgkghpdmiageaaDoor
open Go.RowKit
def MaxAt (w : World) : Prop := ∃ m, w.cell? ⟨0, 0, none⟩ = some (.int .i64 m)
theorem MaxAt.below {w w' : World} (h : MaxAt w) (hb : Below w.heap.size w w') : MaxAt w' := by
  obtain ⟨m, hm⟩ := h
  exact ⟨m, (hb.cell (World.block_lt_of_cell? _ _ hm)).trans hm⟩
theorem replK_len (old : List UInt8) : ∀ (k : Nat) (s : List UInt8), (Lib.replaceK old [] k s).length ≤ s.length
  | 0, s => Nat.le_refl _
  | k + 1, s => by
    rw [Lib.replaceK]
    split
    · exact Nat.le_refl _
    · have ih := replK_len old k (s.drop ((Lib.index s old).toNat + old.length))
      rw [List.length_append, List.length_append, List.length_take]
      rw [List.length_drop] at ih
      simp only [List.length_nil]
      omega
theorem repl_len (s : List UInt8) : (Lib.replaceAll s [13, 10] []).length ≤ s.length := by
  unfold Lib.replaceAll Lib.replace
  rw [if_neg (by decide)]
  exact replK_len _ _ _
set_option maxRecDepth 100000 in
set_option maxHeartbeats 4000000 in
theorem unfold_any (s : ByteArray) (w : World) (hm : MaxAt w) (hs : s.size ≤ 1000000) :
    Calls Tryd.prog 12 #[.string s] w fun e w' => e = .returned (.tuple #[.string (unfStr s.data.toList), .int .i64 (unfCode s.data.toList)]) ∧ Below w.heap.size w w' := by
  obtain ⟨m, hm⟩ := hm
  have c1 := Tryd.strings_ReplaceAll s ⟨#[13, 10]⟩ ⟨#[]⟩ m w (by omega) hm (by decide) (by
    rw [show (⟨#[]⟩ : ByteArray).size = 0 from rfl, Nat.mul_zero]; omega)
  have hl := repl_len s.data.toList
  rw [bsize] at hl
  change Calls _ _ _ _ (fun e w' => e = .returned (.string ⟨(Lib.replaceAll s.data.toList [13, 10] []).toArray⟩) ∧ Below w.heap.size w w') at c1
  obtain ⟨t, ht⟩ : ∃ t : ByteArray, t = ⟨(Lib.replaceAll s.data.toList [13, 10] []).toArray⟩ := ⟨_, rfl⟩
  have htl : t.data.toList = Lib.replaceAll s.data.toList [13, 10] [] := by rw [ht]
  have htz : t.size ≤ 1000000 := by rw [ht, lsize]; omega
  rw [← ht] at c1
  have hu : unf s.data.toList = (dec t.data.toList).bind fun o => if foldR (enc o) = s.data.toList then some o else none := by unfold unf; rw [htl]
  clear ht htl hl
  cases hd : dec t.data.toList with
  | none =>
    rw [hd] at hu
    have hu2 : unfStr s.data.toList = ⟨#[]⟩ ∧ unfCode s.data.toList = 2 := by unfold unfStr unfCode; rw [hu]; exact ⟨rfl, rfl⟩
    have hd2 : decStr t.data.toList = ⟨#[]⟩ ∧ decCode t.data.toList = 2 := by unfold decStr decCode; rw [hd]; exact ⟨rfl, rfl⟩
    rw [hu2.1, hu2.2]
    clear hu hu2 hd
    go_enter Tryd.func12, Tryd.ntmps12
    go_wp2_with fail
    refine c1.mono ?_
    rintro e w1 ⟨rfl, hb1⟩
    have c2 := decode_any t w1 htz
    rw [hd2.1, hd2.2] at c2
    have HB := Lib.hid hb1
    clear c1 hb1
    go_wp2_with fail
    refine c2.mono ?_
    rintro e w2 ⟨rfl, hb2⟩
    have H2 := Lib.hid (HB.out.trans (hb2.mono HB.out.size))
    clear c2 hb2
    go_wp2
    go_ret2
    exact ⟨rfl, H2.out⟩
  | some o =>
    rw [hd] at hu
    have hd2 : decStr t.data.toList = ⟨o.toArray⟩ ∧ decCode t.data.toList = 0 := by unfold decStr decCode; rw [hd]; exact ⟨rfl, rfl⟩
    have hol : o.length ≤ 1000000 := by
      have h1 := (dec_iff _ _).1 hd
      have h2 := congrArg List.length h1
      rw [enc_len, bsize] at h2
      omega
    have hoz : (⟨o.toArray⟩ : ByteArray).size ≤ 1000000 := by rw [lsize]; exact hol
    have c3 := fun W => fold_any ⟨o.toArray⟩ W hoz
    have hfl : foldL (enc (⟨o.toArray⟩ : ByteArray).data.toList) = foldR (enc o) := foldL_R _
    rw [hfl] at c3
    obtain ⟨O, hO⟩ : ∃ O : ByteArray, O = ⟨o.toArray⟩ := ⟨_, rfl⟩
    rw [← hO] at c3 hd2
    clear hd hol hoz hfl
    by_cases hq : foldR (enc o) = s.data.toList
    · have hes : (⟨(foldR (enc o)).toArray⟩ : ByteArray) = s := by rw [hq]
      have hu2 : unfStr s.data.toList = O ∧ unfCode s.data.toList = 0 := by
        unfold unfStr unfCode; rw [hu]; simp only [Option.bind_some, if_pos hq]; exact ⟨hO.symm, trivial⟩
      rw [hu2.1, hu2.2]
      rw [hes] at c3
      clear hu hu2 hq hes hO
      go_enter Tryd.func12, Tryd.ntmps12
      go_wp2_with fail
      refine c1.mono ?_
      rintro e w1 ⟨rfl, hb1⟩
      have c2 := decode_any t w1 htz
      rw [hd2.1, hd2.2] at c2
      have HB := Lib.hid hb1
      clear c1 hb1
      go_wp2_with fail
      refine c2.mono ?_
      rintro e w2 ⟨rfl, hb2⟩
      have H2 := Lib.hid (HB.out.trans (hb2.mono HB.out.size))
      clear c2 hb2
      go_wp2_with fail
      refine (c3 w2).mono ?_
      rintro e w3 ⟨rfl, hb3⟩
      have H3 := Lib.hid (H2.out.trans (hb3.mono H2.out.size))
      clear c3 hb3
      go_wp2
      go_ret2
      exact ⟨rfl, H3.out⟩
    · have hu2 : unfStr s.data.toList = ⟨#[]⟩ ∧ unfCode s.data.toList = 2 := by
        unfold unfStr unfCode; rw [hu]; simp only [Option.bind_some, if_neg hq]; constructor <;> first | trivial | rfl
      have hes : ((⟨(foldR (enc o)).toArray⟩ : ByteArray).toList == s.toList) = false := by
        rw [Lib.toList_data, Lib.toList_data]; exact beq_false_of_ne hq
      rw [hu2.1, hu2.2]
      generalize (⟨(foldR (enc o)).toArray⟩ : ByteArray) = T at *
      clear hu hu2 hq hO
      go_enter Tryd.func12, Tryd.ntmps12
      go_wp2_with fail
      refine c1.mono ?_
      rintro e w1 ⟨rfl, hb1⟩
      have c2 := decode_any t w1 htz
      rw [hd2.1, hd2.2] at c2
      have HB := Lib.hid hb1
      clear c1 hb1
      go_wp2_with fail
      refine c2.mono ?_
      rintro e w2 ⟨rfl, hb2⟩
      have H2 := Lib.hid (HB.out.trans (hb2.mono HB.out.size))
      clear c2 hb2
      go_wp2_with fail
      refine (c3 w2).mono ?_
      rintro e w3 ⟨rfl, hb3⟩
      have H3 := Lib.hid (H2.out.trans (hb3.mono H2.out.size))
      clear c3 hb3
      go_wp2
      go_ret2
      exact ⟨rfl, H3.out⟩
end Go.Proofs.YtlgkghpdmiageaaDoor
