/- The document's quoted: Lines. -/
import Derived.Test.YtjkonhpmfolcoaaDoorQuotD
set_option linter.unusedVariables false
set_option linter.unusedSimpArgs false
namespace Go.Proofs.YtjkonhpmfolcoaaDoor
open Go.RowKit
/-- A first line goes on. -/
def pre (x : List UInt8) : List (List UInt8) → List (List UInt8)
  | [] => [x]
  | l :: t => (x ++ l) :: t
theorem pre_cons {x : List UInt8} {c : UInt8} {ls : List (List UInt8)} (h : ls ≠ []) : pre x (consH c ls) = pre (x ++ [c]) ls := by
  cases ls with
  | nil => exact absurd rfl h
  | cons l t => simp [pre, consH]
theorem pre_nil {ls : List (List UInt8)} (h : ls ≠ []) : pre [] ls = ls := by
  cases ls with
  | nil => exact absurd rfl h
  | cons l t => rfl
theorem ext_list (s : ByteArray) (a b : Nat) : (s.extract a b).data.toList = (s.data.toList.drop a).take (b - a) := by
  rw [Lib.extract_data]
theorem drop_two {l : List UInt8} {i : Nat} (h : i + 1 < l.length) : l.drop i = l[i] :: l[i + 1] :: l.drop (i + 2) := by
  rw [List.drop_eq_getElem_cons (by omega), List.drop_eq_getElem_cons h]
/-- Between the rounds of Lines: o are the lines that are told, the line that goes on begins at f. -/
def LnI (s : List UInt8) (o : List ByteArray) (f i : Nat) : Prop := f ≤ i ∧ i ≤ s.length ∧ lns s = o.map (·.data.toList) ++ pre ((s.drop f).take (i - f)) (lns (s.drop i)) ∧ o.length ≤ i
theorem LnI.start (s : List UInt8) : LnI s [] 0 0 := ⟨Nat.le_refl _, Nat.zero_le _, by simp [pre_nil (lns_ne s)], Nat.le_refl _⟩
theorem LnI.hit {s : List UInt8} {o : List ByteArray} {f i : Nat} (h : LnI s o f i) (hi : i + 1 < s.length) (h1 : s[i] = 13) (h2 : s[i + 1] = 10) (x : ByteArray) (hx : x.data.toList = (s.drop f).take (i - f)) : LnI s (o ++ [x]) (i + 2) (i + 2) := by
  obtain ⟨a, b, c, d⟩ := h
  refine ⟨Nat.le_refl _, by omega, ?_, by simp; omega⟩
  rw [c, drop_two hi, h1, h2]
  have := lns_ne (s.drop (i + 2))
  rw [lns]
  generalize lns (s.drop (i + 2)) = q at *
  cases q with
  | nil => exact absurd rfl this
  | cons l t => simp [pre, hx]
theorem LnI.miss {s : List UInt8} {o : List ByteArray} {f i : Nat} (h : LnI s o f i) (hi : i + 1 < s.length) (h1 : ¬ (s[i] = 13 ∧ s[i + 1] = 10)) : LnI s o f (i + 1) := by
  obtain ⟨a, b, c, d⟩ := h
  refine ⟨by omega, by omega, ?_, by omega⟩
  have hd : s.drop i = s[i] :: s.drop (i + 1) := List.drop_eq_getElem_cons (by omega)
  have hd2 : s.drop (i + 1) = s[i + 1] :: s.drop (i + 1 + 1) := List.drop_eq_getElem_cons hi
  rw [c, hd, lns_cons (by rw [hd2]; intro t e; injection e with e1 e2; injection e2 with e2 _; exact h1 ⟨e1, e2⟩), pre_cons (lns_ne _)]
  congr 2
  rw [show i + 1 - f = (i - f) + 1 by omega, List.take_succ_eq_append_getElem (by rw [List.length_drop]; omega)]
  congr 1
  rw [List.getElem_drop]
  congr 2
  omega
theorem LnI.last {s : List UInt8} {o : List ByteArray} {f i : Nat} (h : LnI s o f i) (hi : s.length ≤ i + 1) (x : ByteArray) (hx : x.data.toList = s.drop f) : lns s = (o ++ [x]).map (·.data.toList) := by
  obtain ⟨a, b, c, d⟩ := h
  rw [c]
  have hl : (s.drop i).length ≤ 1 := by rw [List.length_drop]; omega
  have hln : lns (s.drop i) = [s.drop i] := by
    generalize s.drop i = t at *
    match t, hl with
    | [], _ => rfl
    | [c], _ => simp [lns_cons (r := []) (c := c) (by intro t e; cases e), lns, consH]
  rw [hln]
  have e : (s.drop f).take (i - f) ++ s.drop i = s.drop f := by
    conv => rhs; rw [← List.take_append_drop (i - f) (s.drop f)]
    rw [List.drop_drop, show f + (i - f) = i by omega]
  simp [pre, hx, e]
set_option maxRecDepth 100000 in
set_option maxHeartbeats 1000000 in
theorem reflines_any (s : ByteArray) (w : World) (hs : s.size ≤ 1000000) :
    Calls Tryd.prog 23 #[.string s] w fun e w' => ∃ g cap ls, e = .returned (.slice (some ⟨g, 0, none⟩) ls.length cap) ∧ w.heap.size ≤ g ∧ StrsAt w' g cap ls ∧ ls.map (·.data.toList) = lns s.data.toList ∧ Below w.heap.size w w' := by
  have hsz := bsize s
  go_enter Tryd.func23, Tryd.ntmps23
  go_wp2
  go_loopw [3, 4, 5] (fun v f i wr => ∃ (o : List ByteArray) (fr k : Nat), f = .int .i64 fr ∧ i = .int .i64 k ∧ SSo wr w.heap.size v o ∧ Below w.heap.size w wr ∧ LnI s.data.toList o fr k) (fun _ _ i _ => s.size - (intOf i).toNat)
  case atStart => exact ⟨[], 0, 0, rfl, rfl, SSo.nil _ _, Below.refl _ _, LnI.start _⟩
  case round =>
    obtain ⟨o, fr, k, rfl, rfl, hown, hbl, hI⟩ := hrel
    have hI1 := hI.1
    have hI2 := hI.2.1
    have hI3 := hI.2.2.2
    have HOWN := Lib.hid hown
    have HBL := Lib.hid hbl
    have HI := Lib.hid hI
    have HSZ := Lib.hid hsz
    have hwsz := hbl.size
    rw [hsz] at hI2
    have hk0 : (0 : Int) ≤ k := by omega
    have hfr0 : (0 : Int) ≤ fr := by omega
    have hfrk : (fr : Int) ≤ k := by omega
    have hks : (k : Int) ≤ s.size := by omega
    clear hown hbl hI
    have hol : o.length + 1 ≤ 1000000000000 := by omega
    by_cases hlt : k + 1 < s.size
    · have hkl : k + 1 < s.data.toList.length := by omega
      have hkk : k < s.size := by omega
      have hk1 : (k : Int) + 1 < s.size := by omega
      by_cases h13 : s[k] = 13
      · have t1 : ((s[k].toNat : Int) == 13) = true := by rw [h13]; rfl
        by_cases h10 : s[k + 1] = 10
        · have t2 : ((s[k + 1].toNat : Int) == 10) = true := by rw [h10]; rfl
          have HN := Lib.hid (HI.out.hit hkl h13 h10 (s.extract fr k) (ext_list s fr k))
          clear h13 h10
          go_wp2_with (at_builtin; refine wp_appstr rfl (.tmp 22) (.tmp 27) rfl w.heap.size _ o rfl (s.extract fr k) HOWN.out rfl hol hwsz ?_)
          intro v' w' hown' hb'
          have HOWN' := Lib.hid hown'
          have HBL' := Lib.hid (HBL.out.trans hb')
          clear hown' hb' HOWN HBL
          go_wp2
          go_roundw
          case rel => exact ⟨_, k + 2, k + 2, by go_num, by go_num, HOWN'.out, HBL'.out, HN.out⟩
          case measure => simp [intOf]; omega
        · have t2 : ((s[k + 1].toNat : Int) == 10) = false := by
            rw [Bool.eq_false_iff]; intro e
            have e2 := beq_iff_eq.1 e
            exact h10 (UInt8.toNat_inj.1 (by rw [show (10 : UInt8).toNat = 10 from rfl]; omega))
          have HN := Lib.hid (HI.out.miss hkl (fun h => h10 h.2))
          clear h13 h10
          go_wp2
          go_roundw
          case rel => exact ⟨o, fr, k + 1, rfl, by go_num, HOWN.out, HBL.out, HN.out⟩
          case measure => simp [intOf]; omega
      · have t1 : ((s[k].toNat : Int) == 13) = false := by
          rw [Bool.eq_false_iff]; intro e
          have e2 := beq_iff_eq.1 e
          exact h13 (UInt8.toNat_inj.1 (by rw [show (13 : UInt8).toNat = 13 from rfl]; omega))
        have HN := Lib.hid (HI.out.miss hkl (fun h => h13 h.1))
        clear h13
        go_wp2
        go_roundw
        case rel => exact ⟨o, fr, k + 1, rfl, by go_num, HOWN.out, HBL.out, HN.out⟩
        case measure => simp [intOf]; omega
    · have hk1 : (s.size : Int) ≤ k + 1 := by omega
      have hfs : (fr : Int) ≤ s.size := by omega
      have HN := Lib.hid (HI.out.last (by rw [HSZ.out]; omega) (s.extract fr s.size) (by rw [ext_list, List.take_of_length_le]; rw [List.length_drop, HSZ.out]; omega))
      go_wp2_with (at_builtin; refine wp_appstr rfl (.tmp 34) (.tmp 38) rfl w.heap.size _ o rfl (s.extract fr s.size) HOWN.out rfl hol hwsz ?_)
      intro v' w' hown' hb'
      obtain ⟨g, cap, rfl, hg, hst⟩ := hown'.strs (by simp)
      have HF := Lib.hid (And.intro hg (And.intro hst (HBL.out.trans hb')))
      clear hown' hb' hst
      generalize hls : o ++ [s.extract fr s.size] = ls at *
      clear hls
      go_wp2
      go_ret
      exact ⟨g, cap, ls, rfl, HF.out.1, HF.out.2.1, HN.out.symm, HF.out.2.2⟩
end Go.Proofs.YtjkonhpmfolcoaaDoor
