/- HeaderLines. -/
import Derived.Test.YtdaekoapkclliaaDoorHdrP
set_option linter.unusedVariables false
set_option linter.unusedSimpArgs false
namespace Go.Proofs.YtdaekoapkclliaaDoor
open Go.RowKit
/-- Between the rounds: the lines told so far, where the next one begins, and where one looks; after an end one looks within it. -/
def LnJ (s : List UInt8) (o : List ByteArray) (f i : Nat) : Prop := LnI s o f i ∨ (f = i + 1 ∧ (∃ h : i < s.length, s[i] = 10) ∧ LnI s o f f)
theorem LnJ.start (s : List UInt8) : LnJ s [] 0 0 := .inl (LnI.start s)
theorem LnJ.fle {s : List UInt8} {o : List ByteArray} {f i : Nat} (h : LnJ s o f i) : f ≤ s.length ∧ i ≤ s.length := by
  rcases h with h | ⟨e, ⟨hi, _⟩, h⟩
  · exact ⟨Nat.le_trans h.1 h.2.1, h.2.1⟩
  · exact ⟨h.2.1, by omega⟩
theorem LnJ.at13 {s : List UInt8} {o : List ByteArray} {f i : Nat} (h : LnJ s o f i) (hi : i < s.length) (h1 : s[i] = 13) : LnI s o f i := by
  rcases h with h | ⟨e, ⟨hi', h2⟩, h⟩
  · exact h
  · rw [h1] at h2; exact absurd h2 (by decide)
theorem LnJ.miss {s : List UInt8} {o : List ByteArray} {f i : Nat} (h : LnJ s o f i) (hi : i + 1 < s.length) (h1 : ¬ (s[i] = 13 ∧ s[i + 1] = 10)) : LnJ s o f (i + 1) := by
  rcases h with h | ⟨e, _, h⟩
  · exact .inl (h.miss hi h1)
  · subst e; exact .inl h
theorem LnJ.last {s : List UInt8} {o : List ByteArray} {f i : Nat} (h : LnJ s o f i) (hi : s.length ≤ i + 1) : lns s = bss o ++ [s.drop f] := by
  have key : ∀ j, LnI s o f j → s.length ≤ j + 1 → lns s = bss o ++ [s.drop f] := fun j hj hl => by
    have := hj.last hl ⟨(s.drop f).toArray⟩ rfl
    rw [this]; simp [bss]
  rcases h with h | ⟨e, _, h⟩
  · exact key i h hi
  · exact key f h (by omega)
theorem lns_run : ∀ (x r : Bs), (∀ z ∈ x, z ≠ 13) → lns (x ++ 13 :: 10 :: r) = x :: lns r
  | [], r, _ => by rw [List.nil_append, lns]
  | c :: x, r, h => by
    rw [List.cons_append, lns_cons (fun t e => h c List.mem_cons_self (List.cons.inj e).1), lns_run x r (fun z hz => h z (List.mem_cons_of_mem _ hz))]; rfl
theorem lns_ct : ∀ (ls : List Bs), (∀ x ∈ ls, ∀ z ∈ x, z ≠ 13) → lns (ctL ls ++ [13, 10]) = ls ++ [[], []]
  | [], _ => by decide
  | x :: ls, h => by
    have e : ctL (x :: ls) ++ [13, 10] = x ++ 13 :: 10 :: (ctL ls ++ [13, 10]) := by simp [ctL]
    rw [e, lns_run x _ (h x List.mem_cons_self), lns_ct ls (fun y hy => h y (List.mem_cons_of_mem _ hy))]; rfl
/-- The printed text's lines. -/
structure PrLn (T : Bs) (ls : List Bs) : Prop where
  lines : lns T = ls ++ [[], []]
  good : ∀ x ∈ ls, x ≠ [] ∧ x.length ≤ 998
theorem prLn {l : List Fd} (h : prE l = 0) : PrLn (prT l) (prL l) := by
  obtain ⟨h1, h2, h3⟩ := prE_zero.1 h
  unfold prT
  rw [if_pos h]
  exact ⟨lns_ct _ (fun x hx z hz => ((prL_mem h1 hx).2 z hz).1), fun x hx => ⟨(prL_mem h1 hx).1, h3 x hx⟩⟩
theorem lns_nil {u : Bs} (h : lns u = [[]]) : u = [] := by
  cases u with
  | nil => rfl
  | cons c r =>
    rcases crlf_cases (c :: r) with ⟨t, e⟩ | hno
    · rw [e, lns] at h
      exact absurd (List.cons.inj h).2 (lns_ne t)
    · rw [lns_cons hno] at h
      cases hl : lns r with
      | nil => exact absurd hl (lns_ne r)
      | cons a b => rw [hl] at h; simp [consH] at h
/-- One line more. -/
theorem PrLn.hit {T : Bs} {ls : List Bs} (h : PrLn T ls) {o : List ByteArray} {f i : Nat} (hI : LnI T o f i) (hi : i + 1 < T.length) (h1 : T[i] = 13) (h2 : T[i + 1] = 10) (x : ByteArray) (hx : x.data.toList = (T.drop f).take (i - f)) :
    LnJ T (o ++ [x]) (i + 2) (i + 1) ∧ x.size ≤ 998 ∧ (x.size = 0 ↔ i + 2 = T.length) := by
  have hh := hI.hit hi h1 h2 x hx
  refine ⟨.inr ⟨rfl, ⟨hi, h2⟩, hh⟩, ?_⟩
  have e := hh.2.2.1
  rw [h.lines, show i + 2 - (i + 2) = 0 by omega, List.take_zero, pre_nil (lns_ne _)] at e
  have hle := hh.2.1
  have hm : (o ++ [x]).map (·.data.toList) = bss o ++ [x.data.toList] := by simp [bss]
  rw [hm] at e
  have hq : (ls ++ [[], []])[(bss o).length]? = some x.data.toList := by
    rw [e]; simp
  have hz : (ls ++ [[], []]).drop ((bss o).length + 1) = lns (T.drop (i + 2)) := by
    rw [e, List.drop_append_of_le_length (by simp)]
    simp
  have hne := lns_ne (T.drop (i + 2))
  rcases Nat.lt_or_ge (bss o).length ls.length with hlt | hge
  · rw [List.getElem?_append_left hlt] at hq
    have hmem : x.data.toList ∈ ls := List.mem_of_getElem? hq
    obtain ⟨g1, g2⟩ := h.good _ hmem
    rw [bsize] at g2
    refine ⟨g2, fun h0 => absurd (List.eq_nil_of_length_eq_zero (by rw [bsize]; exact h0)) g1, fun h0 => ?_⟩
    exfalso
    rw [List.drop_eq_nil_of_le (by omega : T.length ≤ i + 2)] at hz
    have := congrArg List.length hz
    rw [List.length_drop, List.length_append] at this
    simp [lns] at this
    omega
  · rw [List.getElem?_append_right hge] at hq
    have hj : (bss o).length = ls.length := by
      rcases Nat.eq_or_lt_of_le hge with e1 | e1
      · exact e1.symm
      · exfalso
        apply hne
        rw [← hz]
        apply List.drop_eq_nil_of_le
        rw [List.length_append]; simp; omega
    rw [hj] at hq hz
    have hx0 : x.data.toList = [] := by simpa using hq.symm
    have hxs : x.size = 0 := by rw [← bsize, hx0]; rfl
    refine ⟨by omega, fun _ => ?_, fun _ => hxs⟩
    have : (ls ++ [[], []]).drop (ls.length + 1) = [[]] := by
      rw [List.drop_append, List.drop_eq_nil_of_le (by omega)]
      simp
    rw [this] at hz
    have := lns_nil hz.symm
    have := congrArg List.length this
    rw [List.length_drop] at this
    simp at this
    omega
theorem PrLn.end_ {T : Bs} {ls : List Bs} (h : PrLn T ls) {o : List ByteArray} {f i : Nat} (hJ : LnJ T o f i) (hi : T.length ≤ i + 1) : f = T.length := by
  have e := hJ.last hi
  rw [h.lines] at e
  have h1 := congrArg List.getLast? e
  rw [List.getLast?_append, List.getLast?_append] at h1
  have hd : T.drop f = [] := by simpa using h1.symm
  have := congrArg List.length hd
  rw [List.length_drop] at this
  simp at this
  have := hJ.fle.1
  omega
set_option maxRecDepth 100000 in
set_option maxHeartbeats 8000000 in
theorem hlines_law (A : Option Addr) (n c : Nat) (xs : List Fld) (w : World) (hm : MaxAt w) (h1 : FldsIn w A n xs) :
    Calls Tryd.prog 5 #[.slice A n c] w fun e w' => e = .returned (.bool true) ∧ Below w.heap.size w w' := by
  have c0 := awake_any w hm
  have H := Lib.hid (And.intro hm h1)
  clear hm h1
  go_enter Tryd.func5, Tryd.ntmps5
  go_wp2_with fail
  refine c0.mono ?_
  rintro e w1 ⟨rfl, hb1⟩
  have H1 := Lib.hid hb1
  have c1 := few_any A n c xs w1 (H.out.2.below hb1)
  clear hb1 c0
  go_wp2_with fail
  refine c1.mono ?_
  rintro e w2 ⟨⟨f1, rfl, hf1⟩, hb2⟩
  have H2 := Lib.hid (H1.out.trans (hb2.mono H1.out.size))
  clear c1 hb2
  cases f1 with
  | false =>
    clear hf1
    go_wp2
    go_ret
    exact ⟨rfl, H2.out⟩
  | true =>
    have HF := Lib.hid (hf1 rfl)
    have c3 := print_any A n c xs w2 (H.out.2.below H2.out) HF.out.small (H.out.1.below H2.out)
    have htz := prT_size xs HF.out
    have hpl := prLn (l := fds xs)
    generalize prE (fds xs) = ea at *
    obtain ⟨T, hT⟩ : ∃ T : ByteArray, T = ⟨(prT (fds xs)).toArray⟩ := ⟨_, rfl⟩
    have hTd : T.data.toList = prT (fds xs) := by rw [hT]
    rw [← hT] at c3
    rw [← hTd] at hpl htz
    rw [bsize] at htz
    have HP := Lib.hid hpl
    clear hf1 hT hTd hpl
    go_wp2_with fail
    refine c3.mono ?_
    rintro e w3 ⟨rfl, hb3⟩
    have H3 := Lib.hid (H2.out.trans (hb3.mono H2.out.size))
    clear c3 hb3
    by_cases q1 : ea = 0
    · subst q1
      have HL := Lib.hid (HP.out rfl)
      have hT0 : (0 : Int) ≤ (T.size : Int) := by omega
      clear HP
      go_wp2
      go_loopw [5, 6] (fun f i wr => ∃ (o : List ByteArray) (fr k : Nat), f = .int .i64 fr ∧ i = .int .i64 k ∧ Hid (LnJ T.data.toList o fr k) ∧ Below w.heap.size w wr) (fun _ i _ => T.size - (intOf i).toNat)
      case atStart => exact ⟨[], 0, 0, rfl, rfl, Lib.hid (LnJ.start _), H3.out⟩
      case round =>
        obtain ⟨o, fr, k, rfl, rfl, hI, hbl⟩ := hrel
        obtain ⟨hI1, hI2⟩ := hI.out.fle
        rw [bsize] at hI1 hI2
        have HB := Lib.hid hbl
        have hk0 : (0 : Int) ≤ k := by omega
        have hfr0 : (0 : Int) ≤ fr := by omega
        have hks : (k : Int) ≤ T.size := by omega
        have hfs : (fr : Int) ≤ T.size := by omega
        clear hbl
        by_cases hlt : k + 1 < T.size
        · have hkl : k + 1 < T.data.toList.length := by rw [bsize]; exact hlt
          have hkk : k < T.size := by omega
          have hk1 : (k : Int) + 1 < T.size := by omega
          by_cases h13 : T[k] = 13
          · obtain ⟨t1, t1'⟩ := u8T (n := 13) h13 rfl
            by_cases h10 : T[k + 1] = 10
            · obtain ⟨t2, t2'⟩ := u8T (n := 10) h10 rfl
              have hI4 := hI.out.at13 (by omega) h13
              have hfrk : (fr : Int) ≤ k := by have := hI4.1; omega
              obtain ⟨z1, z2, z3⟩ := HL.out.hit hI4 hkl h13 h10 (T.extract fr k) (ext_list T fr k)
              have HN := Lib.hid z1
              have hxe := empty_sz (x := T.extract fr k)
              rw [bsize] at z3
              have hzi : ((k - fr : Nat) : Int) ≤ 998 := by rw [ByteArray.size_extract] at z2; omega
              by_cases hend : k + 2 = T.size
              · rw [decide_eq_true (z3.2 hend)] at hxe
                have hei : ((k : Int) + 2 == (T.size : Int)) = true := by rw [beq_iff_eq]; omega
                clear h13 h10 hI4 z1 z2 z3 hI
                go_wp2
                go_roundw
                case rel => exact ⟨o ++ [T.extract fr k], k + 2, k + 1, by go_num, by go_num, HN.out, HB.out⟩
                case measure => simp [intOf]; omega
              · rw [decide_eq_false (fun e => hend (z3.1 e))] at hxe
                have hei : ((k : Int) + 2 == (T.size : Int)) = false := by rw [Bool.eq_false_iff]; intro e; have := beq_iff_eq.1 e; omega
                clear h13 h10 hI4 z1 z2 z3 hI
                go_wp2
                go_roundw
                case rel => exact ⟨o ++ [T.extract fr k], k + 2, k + 1, by go_num, by go_num, HN.out, HB.out⟩
                case measure => simp [intOf]; omega
            · obtain ⟨t2, t2'⟩ := u8F (n := 10) h10 rfl
              have HN := Lib.hid (hI.out.miss hkl (fun h => h10 h.2))
              clear h13 h10 hI
              go_wp2
              go_roundw
              case rel => exact ⟨o, fr, k + 1, rfl, by go_num, HN.out, HB.out⟩
              case measure => simp [intOf]; omega
          · obtain ⟨t1, t1'⟩ := u8F (n := 13) h13 rfl
            have HN := Lib.hid (hI.out.miss hkl (fun h => h13 h.1))
            clear h13 hI
            go_wp2
            go_roundw
            case rel => exact ⟨o, fr, k + 1, rfl, by go_num, HN.out, HB.out⟩
            case measure => simp [intOf]; omega
        · have hk1 : (T.size : Int) ≤ k + 1 := by omega
          have hfe := HL.out.end_ hI.out (by rw [bsize]; omega)
          rw [bsize] at hfe
          subst hfe
          clear hI
          go_wp2
          go_ret
          exact ⟨rfl, HB.out⟩
    · have q2b : (ea == 0) = false := by simpa using q1
      have q2c : (ea != 0) = true := by simpa using q1
      clear q1
      go_wp2
      go_ret
      exact ⟨rfl, H3.out⟩
end Go.Proofs.YtdaekoapkclliaaDoor
