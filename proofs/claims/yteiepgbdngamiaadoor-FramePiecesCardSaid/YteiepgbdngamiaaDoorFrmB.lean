/- The document's frame: Lines. -/
import Derived.Test.YteiepgbdngamiaaDoorFrmA
set_option linter.unusedVariables false
set_option linter.unusedSimpArgs false
namespace Go.Proofs.YteiepgbdngamiaaDoor
open Go.RowKit
/-- Between the rounds: the place stands at the line's beginning or behind it, or on the end's last byte. -/
def LnJ (s : List UInt8) (o : List ByteArray) (f i : Nat) : Prop := LnI s o f i ∨ (f = i + 1 ∧ (∃ h : i < s.length, s[i] = 10) ∧ LnI s o f f)
theorem LnJ.start (s : List UInt8) : LnJ s [] 0 0 := .inl (LnI.start s)
theorem LnJ.fle {s : List UInt8} {o : List ByteArray} {f i : Nat} (h : LnJ s o f i) : f ≤ s.length ∧ i ≤ s.length ∧ o.length ≤ f + i := by
  rcases h with h | ⟨e, ⟨hi, _⟩, h⟩
  · exact ⟨Nat.le_trans h.1 h.2.1, h.2.1, by have := h.2.2.2; omega⟩
  · exact ⟨h.2.1, by omega, by have := h.2.2.2; omega⟩
theorem LnJ.at13 {s : List UInt8} {o : List ByteArray} {f i : Nat} (h : LnJ s o f i) (hi : i < s.length) (h1 : s[i] = 13) : LnI s o f i := by
  rcases h with h | ⟨e, ⟨hi', h2⟩, h⟩
  · exact h
  · rw [h1] at h2; exact absurd h2 (by decide)
theorem LnJ.miss {s : List UInt8} {o : List ByteArray} {f i : Nat} (h : LnJ s o f i) (hi : i + 1 < s.length) (h1 : ¬ (s[i] = 13 ∧ s[i + 1] = 10)) : LnJ s o f (i + 1) := by
  rcases h with h | ⟨e, _, h⟩
  · exact .inl (h.miss hi h1)
  · subst e; exact .inl h
theorem LnJ.hit {s : List UInt8} {o : List ByteArray} {f i : Nat} (h : LnI s o f i) (hi : i + 1 < s.length) (h1 : s[i] = 13) (h2 : s[i + 1] = 10) (x : ByteArray) (hx : x.data.toList = (s.drop f).take (i - f)) : LnJ s (o ++ [x]) (i + 2) (i + 1) :=
  .inr ⟨rfl, ⟨hi, h2⟩, h.hit hi h1 h2 x hx⟩
theorem LnJ.last {s : List UInt8} {o : List ByteArray} {f i : Nat} (h : LnJ s o f i) (hi : s.length ≤ i + 1) : IR s (bytesL o) (s.drop f) := by
  have key : ∀ j, LnI s o f j → s.length ≤ j + 1 → IR s (bytesL o) (s.drop f) := fun j hj hl => by
    have := hj.last hl ⟨(s.drop f).toArray⟩ rfl
    unfold IR bytesL
    rw [this]; simp
  rcases h with h | ⟨e, _, h⟩
  · exact key i h hi
  · exact key f h (by omega)
set_option maxRecDepth 100000 in
set_option maxHeartbeats 1000000 in
theorem reflines_any (s : ByteArray) (w : World) (hs : s.size ≤ 1000000) :
    Calls Tryd.prog 18 #[.string s] w (LinesPost s.data.toList w) := by
  have hsz := bsize s
  go_enter Tryd.func18, Tryd.ntmps18
  go_wp2
  go_loopw [4, 5, 6] (fun v f i wr => ∃ (o : List ByteArray) (fr k : Nat), f = .int .i64 fr ∧ i = .int .i64 k ∧ SSo wr w.heap.size v o ∧ Below w.heap.size w wr ∧ LnJ s.data.toList o fr k) (fun _ _ i _ => s.size - (intOf i).toNat)
  case atStart => exact ⟨[], 0, 0, rfl, rfl, SSo.nil _ _, Below.refl _ _, LnJ.start _⟩
  case round =>
    obtain ⟨o, fr, k, rfl, rfl, hown, hbl, hI⟩ := hrel
    obtain ⟨hI1, hI2, hI3⟩ := hI.fle
    have HOWN := Lib.hid hown
    have HBL := Lib.hid hbl
    have HI := Lib.hid hI
    have HSZ := Lib.hid hsz
    have hwsz := hbl.size
    rw [hsz] at hI1 hI2
    have hk0 : (0 : Int) ≤ k := by omega
    have hfr0 : (0 : Int) ≤ fr := by omega
    have hks : (k : Int) ≤ s.size := by omega
    have hfs : (fr : Int) ≤ s.size := by omega
    have hol : o.length + 1 ≤ 1000000000000 := by omega
    clear hown hbl hI
    by_cases hlt : k + 1 < s.size
    · have hkl : k + 1 < s.data.toList.length := by omega
      have hkk : k < s.size := by omega
      have hk1 : (k : Int) + 1 < s.size := by omega
      by_cases h13 : s[k] = 13
      · obtain ⟨t1, -⟩ := u8T (n := 13) h13 rfl
        by_cases h10 : s[k + 1] = 10
        · obtain ⟨t2, -⟩ := u8T (n := 10) h10 rfl
          have hI4 := HI.out.at13 (by omega) h13
          have hfrk : (fr : Int) ≤ k := by have := hI4.1; omega
          have HN := Lib.hid (LnJ.hit hI4 hkl h13 h10 (s.extract fr k) (ext_list s fr k))
          clear h13 h10 hI4
          go_wp2_with (at_builtin; refine wp_appstr rfl (.tmp 25) (.tmp 30) rfl w.heap.size _ o rfl (s.extract fr k) HOWN.out rfl hol hwsz ?_)
          intro v' w' hown' hb'
          have HOWN' := Lib.hid hown'
          have HBL' := Lib.hid (HBL.out.trans hb')
          clear hown' hb' HOWN HBL
          go_wp2
          go_roundw
          case rel => exact ⟨_, k + 2, k + 1, by go_num, by go_num, HOWN'.out, HBL'.out, HN.out⟩
          case measure => simp [intOf]; omega
        · obtain ⟨t2, -⟩ := u8F (n := 10) h10 rfl
          have HN := Lib.hid (HI.out.miss hkl (fun h => h10 h.2))
          clear h13 h10
          go_wp2
          go_roundw
          case rel => exact ⟨o, fr, k + 1, rfl, by go_num, HOWN.out, HBL.out, HN.out⟩
          case measure => simp [intOf]; omega
      · obtain ⟨t1, -⟩ := u8F (n := 13) h13 rfl
        have HN := Lib.hid (HI.out.miss hkl (fun h => h13 h.1))
        clear h13
        go_wp2
        go_roundw
        case rel => exact ⟨o, fr, k + 1, rfl, by go_num, HOWN.out, HBL.out, HN.out⟩
        case measure => simp [intOf]; omega
    · have hk1 : (s.size : Int) ≤ k + 1 := by omega
      have hIR := (HI.out.last (by omega)).eq
      by_cases hfr : fr < s.size
      · have hfi : (fr : Int) < s.size := by omega
        have hne : restL s.data.toList ≠ [] := by
          rw [hIR.2]; intro e
          have := congrArg List.length e
          rw [List.length_drop] at this
          simp at this; omega
        have HV : Hid (linesV s.data.toList = [] ∧ linesC s.data.toList = 2) := by unfold Hid linesV linesC; rw [if_neg hne, if_neg hne]; exact ⟨rfl, rfl⟩
        clear hIR hne
        go_wp2
        go_ret2
        exact ⟨_, [], ret_tup HV.out.2.symm, .inl ⟨rfl, rfl⟩, HV.out.1.symm, HBL.out⟩
      · have hfi : (s.size : Int) ≤ fr := by omega
        have he : restL s.data.toList = [] := by rw [hIR.2]; exact List.drop_eq_nil_of_le (by omega)
        have HV : Hid (linesV s.data.toList = bytesL o ∧ linesC s.data.toList = 0) := by unfold Hid linesV linesC; rw [if_pos he, if_pos he]; exact ⟨hIR.1, rfl⟩
        clear hIR he
        go_wp2
        go_ret2
        exact ⟨_, o, ret_tup HV.out.2.symm, HOWN.out.sv, HV.out.1.symm, HBL.out⟩
end Go.Proofs.YteiepgbdngamiaaDoor
