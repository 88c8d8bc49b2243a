/- Package base64's law folder: Base64Lines. -/
import Derived.Test.YtlgkghpdmiageaaDoorBasJ
set_option linter.unusedVariables false
set_option linter.unusedSimpArgs false
namespace Go.Proofs.YtlgkghpdmiageaaDoor
open Go.RowKit
theorem fold_drop : ∀ (q : Nat) (l : List UInt8), 76 * q ≤ l.length → (foldR l).drop (78 * q) = foldR (l.drop (76 * q))
  | 0, l, _ => by simp
  | q + 1, l, h => by
    have hn : l ≠ [] := by intro e; rw [e] at h; simp at h
    have ih := fold_drop q (l.drop 76) (by rw [List.length_drop]; omega)
    have hl : (l.take 76 ++ [13, 10]).length = 78 := by rw [List.length_append, List.length_take]; simp; omega
    rw [foldR_cons hn, show 78 * (q + 1) = 78 + 78 * q by omega, ← List.drop_drop, ← hl, List.drop_left, hl, ih, List.drop_drop, show 76 + 76 * q = 76 * (q + 1) by omega]
theorem at_let {E : List UInt8} {q m : Nat} (h1 : 76 * q ≤ m) (h2 : m < E.length) (h3 : m < 76 * (q + 1)) : (foldR E)[m + 2 * q]? = some E[m] := by
  have hd := fold_drop q E (by omega)
  have hn : E.drop (76 * q) ≠ [] := by intro e; have := congrArg List.length e; simp at this; omega
  have h4 : (foldR E)[m + 2 * q]? = ((foldR E).drop (78 * q))[m - 76 * q]? := by rw [List.getElem?_drop]; congr 1; omega
  rw [h4, hd, foldR_cons hn, List.append_assoc, List.getElem?_append_left (by rw [List.length_take, List.length_drop]; omega), List.getElem?_take, if_pos (by omega), List.getElem?_drop, show 76 * q + (m - 76 * q) = m by omega, List.getElem?_eq_getElem h2]
theorem at_end {E : List UInt8} {q m : Nat} (h1 : 76 * q < m) (h2 : m = 76 * (q + 1) ∨ (m = E.length ∧ m ≤ 76 * (q + 1))) (hm : m ≤ E.length) : (foldR E)[m + 2 * q]? = some 13 ∧ (foldR E)[m + 2 * q + 1]? = some 10 := by
  have hd := fold_drop q E (by omega)
  have hn : E.drop (76 * q) ≠ [] := by intro e; have := congrArg List.length e; simp at this; omega
  have hl : ((E.drop (76 * q)).take 76).length = m - 76 * q := by rw [List.length_take, List.length_drop]; omega
  have h4 : (foldR E)[m + 2 * q]? = ((foldR E).drop (78 * q))[m - 76 * q]? := by rw [List.getElem?_drop]; congr 1; omega
  have h5 : (foldR E)[m + 2 * q + 1]? = ((foldR E).drop (78 * q))[m - 76 * q + 1]? := by rw [List.getElem?_drop]; congr 1; omega
  rw [h4, h5, hd, foldR_cons hn, List.append_assoc]
  constructor
  · rw [List.getElem?_append_right (by omega), hl, Nat.sub_self]; rfl
  · rw [List.getElem?_append_right (by omega), hl, show m - 76 * q + 1 - (m - 76 * q) = 1 by omega]; rfl
theorem get_ba {T : ByteArray} {p : Nat} {c : UInt8} (h : T.data.toList[p]? = some c) : ∀ h', T[p]'h' = c := by
  intro h'
  have h2 : p < T.data.toList.length := by rw [bsize]; exact h'
  rw [List.getElem?_eq_getElem h2] at h
  have := Option.some.inj h
  rw [← this]; simp; rfl
theorem one_ba {T : ByteArray} {p : Nat} {c : UInt8} (h : T.data.toList[p]? = some c) : T.extract p (p + 1) = ⟨#[c]⟩ := by
  have h2 : p < T.data.toList.length := by
    rcases Nat.lt_or_ge p T.data.toList.length with x | x
    · exact x
    · rw [List.getElem?_eq_none x] at h; cases h
  rw [List.getElem?_eq_getElem h2] at h
  apply ByteArray.ext
  apply Array.toList_inj.1
  rw [ext_list, List.drop_eq_getElem_cons h2, Option.some.inj h, Nat.add_sub_cancel_left]
  rfl
/-- Where the loop stands: m letters are read, q lines ended. -/
def LnI (E : List UInt8) (m q : Nat) : Prop := m ≤ E.length ∧ q ≤ (E.length + 75) / 76 ∧ ((76 * q ≤ m ∧ m ≤ 76 * (q + 1)) ∨ (m = E.length ∧ E.length ≤ 76 * q))
set_option maxRecDepth 100000 in
set_option maxHeartbeats 4000000 in
theorem lines_all (s : ByteArray) (w : World) (hm : MaxAt w) (ws : s.size ≤ maxLen) :
    Calls Tryd.prog 7 #[.string s] w fun e w' => e = .returned (.bool true) ∧ Below w.heap.size w w' := by
  unfold maxLen at ws
  have c1 := awake_any w hm
  clear hm
  by_cases h1 : s.size ≤ 3000
  · have hsz := bsize s
    have c2 := fun W => fold_any s W (by omega)
    have c3 := fun W => encode_any s W (by omega)
    rw [foldL_R] at c2
    have hEl := enc_len s.data.toList
    rw [hsz] at hEl
    have hnn := enc_nn s.data.toList
    generalize enc s.data.toList = E at *
    have hTl := foldR_len E
    obtain ⟨T, hT⟩ : ∃ T : ByteArray, T = ⟨(foldR E).toArray⟩ := ⟨_, rfl⟩
    have hTd : T.data.toList = foldR E := by rw [hT]
    have hTz : T.size = E.length + 2 * ((E.length + 75) / 76) := by rw [hT, lsize, hTl]
    rw [← hT] at c2
    have hsi : (s.size : Int) ≤ 3000 := by omega
    have hTi : (T.size : Int) ≤ 5000 := by omega
    have HK := Lib.hid (And.intro hTd (And.intro hTz (And.intro hEl (And.intro hnn (show s.size ≤ 3000 from h1)))))
    clear hT hTd hTz hTl hEl hnn h1
    go_enter Tryd.func7, Tryd.ntmps7
    go_wp2_with fail
    refine c1.mono ?_
    rintro e w1 ⟨rfl, hb1⟩
    have H1 := Lib.hid hb1
    clear c1 hb1
    go_wp2_with fail
    refine (c2 w1).mono ?_
    rintro e w2 ⟨rfl, hb2⟩
    have H2 := Lib.hid (H1.out.trans (hb2.mono H1.out.size))
    clear c2 hb2
    go_wp2
    go_loop [4, 5, 6] (fun a n i => ∃ (m q : Nat), LnI E m q ∧ a = .string ⟨(E.take m).toArray⟩ ∧ n = .int .i64 ((m - 76 * q : Nat) : Int) ∧ i = .int .i64 ((m + 2 * q : Nat) : Int)) (fun _ _ i => T.size - (intOf i).toNat)
    case atStart => exact ⟨0, 0, ⟨Nat.zero_le _, Nat.zero_le _, .inl ⟨by omega, by omega⟩⟩, rfl, rfl, rfl⟩
    case round =>
      obtain ⟨m, q, hI, rfl, rfl, rfl⟩ := hrel
      obtain ⟨hTd, hTz, hEl, hnn, hs3⟩ := HK.out
      obtain ⟨hI1, hI2, hI3⟩ := hI
      obtain ⟨p, hp⟩ : ∃ p, p = m + 2 * q := ⟨_, rfl⟩
      obtain ⟨n, hn⟩ : ∃ n, n = m - 76 * q := ⟨_, rfl⟩
      rw [← hp, ← hn]
      have hp0 : (0 : Int) ≤ (p : Int) := by omega
      have hn0 : (0 : Int) ≤ (n : Int) := by omega
      have hnb : (n : Int) ≤ 5000 := by omega
      have hAz : ((⟨(E.take m).toArray⟩ : ByteArray).size : Int) ≤ 5000 := by rw [lsize, List.length_take]; omega
      by_cases hlt : p < T.size
      · have hpi : (p : Int) < (T.size : Int) := by omega
        have hpi2 : (p : Int) + 1 ≤ (T.size : Int) := by omega
        by_cases hA : m < E.length ∧ m < 76 * (q + 1)
        · have hl := at_let (E := E) (q := q) (m := m) (by omega) hA.1 hA.2
          rw [← hTd, ← hp] at hl
          have hbt := get_ba hl
          have hex := one_ba hl
          have hc := (hnn E[m] (List.getElem_mem _)).1
          have hcat : (⟨(E.take m).toArray⟩ : ByteArray) ++ ⟨#[E[m]]⟩ = ⟨(E.take (m + 1)).toArray⟩ := by
            rw [List.take_succ_eq_append_getElem hA.1]
            exact cat_ll (E.take m) [E[m]]
          have hPz : (⟨#[E[m]]⟩ : ByteArray).size = 1 := rfl
          generalize (⟨#[E[m]]⟩ : ByteArray) = P at *
          have hPi : (P.size : Int) = 1 := by omega
          generalize E[m] = c at *
          obtain ⟨-, t2⟩ := u8F (n := 13) hc rfl
          have hI' : LnI E (m + 1) q := ⟨by omega, hI2, .inl ⟨by omega, by omega⟩⟩
          have HI := Lib.hid (And.intro hI' (And.intro hp hn))
          have HA := Lib.hid hA
          have HI3 := Lib.hid hI3
          clear hTd hTz hEl hnn hl hc hI' hp hn hA hI1 hI2 hI3 hPz hs3
          go_wp2
          go_round
          case rel =>
            have hi := HI.out
            have h3 := HI3.out
            have hA := HA.out
            refine ⟨m + 1, q, hi.1, rfl, ?_, ?_⟩
            · congr 1; omega
            · congr 1; omega
          case measure => simp [intOf]; omega
        · have hq1 : 76 * q < m := by omega
          have hq2 : m = 76 * (q + 1) ∨ (m = E.length ∧ m ≤ 76 * (q + 1)) := by omega
          have hl := at_end (E := E) hq1 hq2 hI1
          rw [← hTd, ← hp] at hl
          have hbt := get_ba hl.1
          have hbt2 := get_ba hl.2
          have hp2 : p + 2 ≤ T.size := by omega
          have hpi3 : (p : Int) + 2 ≤ (T.size : Int) := by omega
          have hpi4 : (p : Int) + 1 < (T.size : Int) := by omega
          have hn4 : (4 : Int) ≤ (n : Int) := by omega
          have hn76 : (n : Int) ≤ 76 := by omega
          have hmod : (n : Int) % 4 = 0 := by omega
          have hlast : n = 76 ∨ ((n : Int) ≠ 76 ∧ (p : Int) + 2 = (T.size : Int)) := by
            rcases Nat.lt_or_ge n 76 with x | x
            · right
              have hx : m = E.length := by omega
              exact ⟨by omega, by omega⟩
            · left; omega
          have hI' : LnI E m (q + 1) := ⟨hI1, by omega, by omega⟩
          have HI := Lib.hid (And.intro hI' (And.intro hp (And.intro hn hq2)))
          clear hTd hTz hEl hnn hl hI' hp hn hA hI1 hI2 hI3 hs3 hq1 hq2
          rcases hlast with rfl | ⟨x1, x2⟩
          · go_wp2
            go_round
            case rel =>
              have hi := HI.out
              refine ⟨m, q + 1, hi.1, rfl, ?_, ?_⟩
              · congr 1; omega
              · congr 1; omega
            case measure => simp [intOf]; omega
          · have x3 : ((n : Int) != 76) = true := by rw [bne_iff_ne]; exact x1
            clear x1
            go_wp2
            go_round
            case rel =>
              have hi := HI.out
              refine ⟨m, q + 1, hi.1, rfl, ?_, ?_⟩
              · congr 1; omega
              · congr 1; omega
            case measure => simp [intOf]; omega
      · have hmE : m = E.length := by omega
        have hn00 : n = 0 := by omega
        have hAE : (⟨(E.take m).toArray⟩ : ByteArray) = ⟨E.toArray⟩ := by rw [hmE, List.take_length]
        rw [hAE]
        have hpi : (T.size : Int) ≤ (p : Int) := by omega
        subst hn00
        clear hTd hTz hEl hnn hp hI1 hI2 hI3 hs3 hmE hAE hn hAz
        generalize (⟨E.toArray⟩ : ByteArray) = EA at *
        go_wp2_with fail
        refine (c3 _).mono ?_
        rintro e w3 ⟨rfl, hb3⟩
        have H3 := Lib.hid (H2.out.trans (hb3.mono H2.out.size))
        clear c3 hb3
        go_wp2
        go_ret
        exact ⟨rfl, H3.out⟩
  · have hsi : (3000 : Int) < (s.size : Int) := by omega
    clear h1
    go_enter Tryd.func7, Tryd.ntmps7
    go_wp2_with fail
    refine c1.mono ?_
    rintro e w1 ⟨rfl, hb1⟩
    go_wp2
    go_ret
    exact ⟨rfl, hb1⟩
end Go.Proofs.YtlgkghpdmiageaaDoor
