/- The document's Right. -/
import Derived.Test.YtdaekoapkclliaaDoorHdrX
set_option linter.unusedVariables false
set_option linter.unusedSimpArgs false
namespace Go.Proofs.YtdaekoapkclliaaDoor
open Go.RowKit
theorem dropWhile_self {p : UInt8 → Bool} {l : Bs} (h : 0 < l.length) : l.dropWhile p = l ↔ p l[0] = false := by
  cases l with
  | nil => simp at h
  | cons c t =>
    rw [List.dropWhile_cons]
    cases hp : p c with
    | true =>
      simp only [if_true]
      constructor
      · intro e
        have h1 : (t.dropWhile p).length ≤ t.length := (List.dropWhile_suffix p).length_le
        rw [e] at h1
        simp at h1
        omega
      · intro e
        have e2 : p c = false := e
        rw [hp] at e2; cases e2
    | false => simp [hp]
theorem trB_iff {b : Bs} (h : 0 < b.length) : trB b = b ↔ isBl b[0] = false ∧ isBl (b[b.length - 1]'(by omega)) = false := by
  have hr : 0 < b.reverse.length := by rw [List.length_reverse]; exact h
  have hlast : b.reverse[0]'hr = b[b.length - 1]'(by omega) := by rw [List.getElem_reverse]; simp
  have h1 := dropWhile_self (p := isBl) h
  have h2 := dropWhile_self (p := isBl) hr
  rw [hlast] at h2
  have e : trB b = ((b.reverse.dropWhile isBl).reverse).dropWhile isBl := rfl
  rw [e]
  constructor
  · intro hh
    have l1 : (((b.reverse.dropWhile isBl).reverse).dropWhile isBl).length ≤ ((b.reverse.dropWhile isBl).reverse).length := (List.dropWhile_suffix _).length_le
    have l2 : (b.reverse.dropWhile isBl).length ≤ b.reverse.length := (List.dropWhile_suffix _).length_le
    rw [hh, List.length_reverse] at l1
    rw [List.length_reverse] at l2
    have hs : b.reverse.dropWhile isBl <:+ b.reverse := List.dropWhile_suffix _
    have e2 : b.reverse.dropWhile isBl = b.reverse := hs.eq_of_length (by rw [List.length_reverse]; omega)
    rw [e2, List.reverse_reverse] at hh
    exact ⟨h1.1 hh, h2.1 e2⟩
  · rintro ⟨a1, a2⟩
    rw [h2.2 a2, List.reverse_reverse]
    exact h1.2 a1
theorem bad_ways (c : UInt8) : (isBad c = true ∧ ((c.toNat : Int) == 0) = true) ∨ (isBad c = true ∧ ((c.toNat : Int) == 0) = false ∧ ((c.toNat : Int) == 10) = true) ∨ (isBad c = true ∧ ((c.toNat : Int) == 0) = false ∧ ((c.toNat : Int) == 10) = false ∧ ((c.toNat : Int) == 13) = true) ∨ (isBad c = false ∧ ((c.toNat : Int) == 0) = false ∧ ((c.toNat : Int) == 10) = false ∧ ((c.toNat : Int) == 13) = false) := by
  by_cases h : c = 0
  · subst h; left; decide
  · by_cases h2 : c = 10
    · subst h2; right; left; decide
    · by_cases h3 : c = 13
      · subst h3; right; right; left; decide
      · right; right; right
        refine ⟨?_, (u8F (n := 0) h rfl).1, (u8F (n := 10) h2 rfl).1, (u8F (n := 13) h3 rfl).1⟩
        unfold isBad
        simp [h, h2, h3]
theorem rt_name {n b : Bs} (h : n.length < 1 ∨ 64 < n.length) : rtF n b = false := by
  unfold rtF; rw [decide_eq_false (by omega)]; rfl
theorem rt_ok {n b : Bs} {k : Nat} (hk : k < n.length) (h : okN n[k] = false) : rtF n b = false := by
  rw [Bool.eq_false_iff]
  intro e
  have := (rtF_iff.1 e).2.1 _ (List.getElem_mem hk)
  rw [h] at this; cases this
theorem rt_bad {n b : Bs} {k : Nat} (hk : k < b.length) (h : isBad b[k] = true) : rtF n b = false := by
  rw [Bool.eq_false_iff]
  intro e
  have := (rtF_iff.1 e).2.2.1 _ (List.getElem_mem hk)
  rw [h] at this; cases this
def AllK (p : UInt8 → Bool) (v : Bool) (s : Bs) (k : Nat) : Prop := ∀ (j : Nat) (h : j < s.length), j < k → p s[j] = v
theorem AllK.next {p : UInt8 → Bool} {v : Bool} {s : Bs} {k : Nat} (hI : AllK p v s k) (hk : k < s.length) (h : p s[k] = v) : AllK p v s (k + 1) := fun j hj hjk => by
  rcases Nat.lt_or_ge j k with h1 | h1
  · exact hI j hj h1
  · obtain rfl : j = k := by omega
    exact h
theorem AllK.mem {p : UInt8 → Bool} {v : Bool} {s : Bs} {k : Nat} (hI : AllK p v s k) (hk : s.length ≤ k) : ∀ c ∈ s, p c = v := fun c hc => by
  obtain ⟨j, hj, rfl⟩ := List.mem_iff_getElem.1 hc
  exact hI j hj (by omega)
theorem rt_end {n b : Bs} (h1 : 1 ≤ n.length ∧ n.length ≤ 64) (h2 : ∀ c ∈ n, okN c = true) (h3 : ∀ c ∈ b, isBad c = false) : rtF n b = decide (trB b = b) := by
  rw [Bool.eq_iff_iff, rtF_iff, decide_eq_true_iff]
  exact ⟨fun h => h.2.2.2, fun h => ⟨h1, h2, h3, h⟩⟩
set_option maxRecDepth 100000 in
set_option maxHeartbeats 16000000 in
theorem rright_any (nm bd : ByteArray) (w : World) (h1 : nm.size ≤ 1000000) (h2 : bd.size ≤ 1000000) :
    Calls Tryd.prog 18 #[.agg #[.string nm, .string bd]] w fun e w' => e = .returned (.bool (rtF nm.data.toList bd.data.toList)) ∧ Below w.heap.size w w' := by
  obtain ⟨R, hR⟩ : ∃ R, R = rtF nm.data.toList bd.data.toList := ⟨_, rfl⟩
  rw [← hR]
  have ha0 : (0 : Int) ≤ (nm.size : Int) := by omega
  have hb0 : (0 : Int) ≤ (bd.size : Int) := by omega
  have hg1 := heap_alloc_new w (.cells #[.string nm, .string bd] 38 (0, 0))
  have hb1 : Below w.heap.size w (w.alloc (.cells #[.string nm, .string bd] 38 (0, 0))) := (Below.refl _ w).alloc (Nat.le_refl _) _
  have HB := Lib.hid hb1
  have HR := Lib.hid hR
  by_cases q1 : nm.size < 1
  · obtain rfl : R = false := hR.trans (rt_name (by rw [bsize]; omega))
    have q1i : (nm.size : Int) < 1 := by omega
    clear hR hg1 hb1
    go_enter Tryd.func18, Tryd.ntmps18
    go_wp2
    go_ret
    exact ⟨rfl, HB.out⟩
  · by_cases q2 : 64 < nm.size
    · obtain rfl : R = false := hR.trans (rt_name (by rw [bsize]; omega))
      have q1i : ¬ (nm.size : Int) < 1 := by omega
      have q2i : (64 : Int) < (nm.size : Int) := by omega
      clear hR hg1 hb1
      go_enter Tryd.func18, Tryd.ntmps18
      go_wp2
      go_ret
      exact ⟨rfl, HB.out⟩
    · have q1i : ¬ (nm.size : Int) < 1 := by omega
      have q2i : ¬ (64 : Int) < (nm.size : Int) := by omega
      clear hR hb1
      go_enter Tryd.func18, Tryd.ntmps18
      go_wp2
      generalize w.alloc (.cells #[.string nm, .string bd] 38 (0, 0)) = w1 at *
      have y0 : w1.cell? ⟨w.heap.size, 0, none⟩ = some (.string nm) := by rw [cell_of_row _ _ _ _ _ _ hg1]; rfl
      have y1 : w1.cell? ⟨w.heap.size, 1, none⟩ = some (.string bd) := by rw [cell_of_row _ _ _ _ _ _ hg1]; rfl
      clear hg1
      go_loopw [3] (fun i wr => ∃ k : Nat, k ≤ nm.size ∧ i = .int .i64 k ∧ Hid (AllK okN true nm.data.toList k) ∧ w1 = wr) (fun i _ => nm.size - (intOf i).toNat)
      case atStart => exact ⟨0, Nat.zero_le _, rfl, Lib.hid (fun j h hj => absurd hj (by omega)), rfl⟩
      case round =>
        obtain ⟨k, hk, rfl, hI, rfl⟩ := hrel
        have hk0 : (0 : Int) ≤ (k : Int) := by omega
        by_cases hlt : k < nm.size
        · have hki : (k : Int) < (nm.size : Int) := by omega
          have hla : k < nm.data.toList.length := by rw [bsize]; exact hlt
          have hok := okN_z (z := (nm[k].toNat : Int)) (c := nm[k]) rfl
          have hw := okN_ways (nm[k].toNat : Int)
          have hca : nm.data.toList[k] = nm[k] := rfl
          rcases hw with z1 | ⟨z1, z2⟩ | ⟨z1, z2, z3⟩ | ⟨z1, z2, z3⟩
          · have hf : okN nm[k] = false := by rw [hok]; exact decide_eq_false (by omega)
            obtain rfl : R = false := HR.out.trans (rt_ok hla hf)
            clear hI hok hca hf
            go_wp2
            go_ret
            exact ⟨rfl, HB.out⟩
          · have hf : okN nm[k] = false := by rw [hok]; exact decide_eq_false (by omega)
            obtain rfl : R = false := HR.out.trans (rt_ok hla hf)
            clear hI hok hca hf
            go_wp2
            go_ret
            exact ⟨rfl, HB.out⟩
          · have hf : okN nm[k] = false := by rw [hok]; exact decide_eq_false (by have := beq_iff_eq.1 z3; omega)
            obtain rfl : R = false := HR.out.trans (rt_ok hla hf)
            clear hI hok hca hf
            go_wp2
            go_ret
            exact ⟨rfl, HB.out⟩
          · have hf : okN nm[k] = true := by rw [hok]; exact decide_eq_true ⟨by omega, by omega, fun e => by rw [e] at z3; exact absurd z3 (by decide)⟩
            have HN := Lib.hid (hI.out.next hla hf)
            clear hI hok hca hf
            go_wp2
            go_roundw
            case rel => exact ⟨k + 1, by omega, by go_num, Lib.hid HN.out, by first | trivial | rfl⟩
            case measure => simp [intOf]; omega
        · obtain rfl : k = nm.size := by omega
          have hjE : ¬ (nm.size : Int) < (nm.size : Int) := by omega
          have H1 := Lib.hid (hI.out.mem (by rw [bsize]; exact Nat.le_refl _))
          clear hI
          go_wp2
          go_loopw [4] (fun i wr => ∃ j : Nat, j ≤ bd.size ∧ i = .int .i64 j ∧ Hid (AllK isBad false bd.data.toList j) ∧ w1 = wr) (fun i _ => bd.size - (intOf i).toNat)
          case atStart => exact ⟨0, Nat.zero_le _, rfl, Lib.hid (fun j h hj => absurd hj (by omega)), rfl⟩
          case round =>
            obtain ⟨j, hj, rfl, hI, rfl⟩ := hrel
            have hj0 : (0 : Int) ≤ (j : Int) := by omega
            by_cases hlt2 : j < bd.size
            · have hji : (j : Int) < (bd.size : Int) := by omega
              have hla : j < bd.data.toList.length := by rw [bsize]; exact hlt2
              have hw := bad_ways bd[j]
              rcases hw with ⟨hf, z1⟩ | ⟨hf, z1, z2⟩ | ⟨hf, z1, z2, z3⟩ | ⟨hf, z1, z2, z3⟩
              · obtain rfl : R = false := HR.out.trans (rt_bad hla hf)
                clear hI hf
                go_wp2
                go_ret
                exact ⟨rfl, HB.out⟩
              · obtain rfl : R = false := HR.out.trans (rt_bad hla hf)
                clear hI hf
                go_wp2
                go_ret
                exact ⟨rfl, HB.out⟩
              · obtain rfl : R = false := HR.out.trans (rt_bad hla hf)
                clear hI hf
                go_wp2
                go_ret
                exact ⟨rfl, HB.out⟩
              · have HN := Lib.hid (hI.out.next hla hf)
                clear hI hf
                go_wp2
                go_roundw
                case rel => exact ⟨j + 1, by omega, by go_num, Lib.hid HN.out, by first | trivial | rfl⟩
                case measure => simp [intOf]; omega
            · obtain rfl : j = bd.size := by omega
              have hjE2 : ¬ (bd.size : Int) < (bd.size : Int) := by omega
              have hR2 : R = decide (trB bd.data.toList = bd.data.toList) := HR.out.trans (rt_end (by rw [bsize]; omega) H1.out (hI.out.mem (by rw [bsize]; exact Nat.le_refl _)))
              clear hI
              by_cases hz : bd.size = 0
              · have hzi : ((bd.size : Int) == 0) = true := by rw [beq_iff_eq]; omega
                obtain rfl : R = true := by
                  have hnil : bd.data.toList = [] := List.eq_nil_of_length_eq_zero (by rw [bsize]; exact hz)
                  rw [hR2, hnil]; rfl
                clear hR2 hz
                go_wp2
                go_ret
                exact ⟨rfl, HB.out⟩
              · have hzi : ((bd.size : Int) == 0) = false := by rw [Bool.eq_false_iff]; intro e; have := beq_iff_eq.1 e; omega
                have hpos : 0 < bd.size := by omega
                have hposi : (0 : Int) < (bd.size : Int) := by omega
                have hl0 : 0 < bd.data.toList.length := by rw [bsize]; exact hpos
                have hti := trB_iff hl0
                have e0 : bd.data.toList[0] = bd[0] := rfl
                have e1 : bd.data.toList[bd.data.toList.length - 1]'(by omega) = bd[bd.size - 1] := by
                  have : bd.data.toList.length - 1 = bd.size - 1 := by rw [bsize]
                  simp only [this]
                  rfl
                rw [e0, e1] at hti
                have hn1 : ((bd.size : Int) - 1).toNat = bd.size - 1 := by omega
                have hn2 : (0 : Int) ≤ (bd.size : Int) - 1 := by omega
                have hn3 : (bd.size : Int) - 1 < (bd.size : Int) := by omega
                have hn4 : bd.size - 1 < bd.size := by omega
                have c1 := fun W => rblank_any bd[0] W
                have c2 := fun W => rblank_any bd[bd.size - 1] W
                have hR3 : R = (!isBl bd[0] && !isBl bd[bd.size - 1]) := by
                  rw [hR2, Bool.eq_iff_iff, decide_eq_true_iff, hti]
                  simp
                clear hR2 hti
                generalize isBl bd[0] = b0 at *
                generalize isBl bd[bd.size - 1] = b1 at *
                clear e0 e1
                have HR4 := Lib.hid hR3
                clear hR3
                cases b0 with
                | true =>
                  obtain rfl : R = false := HR4.out
                  clear HR4 c2
                  go_wp2_with fail
                  refine (c1 _).mono ?_
                  rintro e w2 ⟨rfl, rfl⟩
                  go_wp2
                  go_ret
                  exact ⟨rfl, HB.out⟩
                | false =>
                  obtain rfl : R = !b1 := HR4.out
                  clear HR4
                  go_wp2_with fail
                  refine (c1 _).mono ?_
                  rintro e w2 ⟨rfl, rfl⟩
                  clear c1
                  go_wp2_with fail
                  refine (c2 _).mono ?_
                  rintro e w2 ⟨rfl, rfl⟩
                  go_wp2
                  go_ret
                  exact ⟨rfl, HB.out⟩
end Go.Proofs.YtdaekoapkclliaaDoor
