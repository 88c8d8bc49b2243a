/- What package header takes of the library: Trim, ContainsAny at whatever bytes, Cut. -/
import Derived.Test.YtdaekoapkclliaaDoorHdrA
import Derived.Shelf.Strings.SlTrimAscii
import Derived.Shelf.Strings.IndexAnyAll
import Derived.Laws.Runes
import Derived.Laws.RangeAny
import Derived.Deep.QuietTactic
import Derived.BigQuiet
import Derived.Deep.LoopGhost
set_option linter.unusedVariables false
set_option linter.unusedSimpArgs false
namespace Go.Proofs.YtdaekoapkclliaaDoor
open Go.RowKit
theorem trbl_any (s : ByteArray) (w : World) (hs : s.size ≤ 9223372036854775807) :
    Calls Tryd.prog 29 #[.string s, .string ⟨#[32, 9]⟩] w fun e w' => e = .returned (.string ⟨(trB s.data.toList).toArray⟩) ∧ Below w.heap.size w w' :=
  Any.strings_Trim_laid Tryd.lays160 (by kernel_rfl) s ⟨#[32, 9]⟩ w (by omega) (by decide) (ascii_of_all (by decide))
theorem quietlyAt {P : Program} {f : FuncId} {args : Array Value} {w : World} {k n : Nat} {v : Value}
    (h : Calls P f args (w.drewN (k + n)) fun e w' => e = .returned v ∧ w.drewN (k + n) = w') : Calls P f args (w.drewN (k + n)) fun e w'' => e = .returned v ∧ ∃ m, w'' = w.drewN (k + m) :=
  h.mono fun _ _ ⟨he, hm⟩ => ⟨he, n, hm.symm⟩
theorem iter_below (w : World) (s : ByteArray) (pos : Nat) : Below w.heap.size w (w.iter s pos) := (Below.refl _ w).alloc (Nat.le_refl _) _
theorem validRune_any (r : Int) (w : World) (h : 128 ≤ r) (h2 : r ≤ 2147483647) :
    Calls Tryd.prog 58 #[.int .i32 r] w fun e w' => e = .returned (.bool (validRune r)) ∧ w = w' := by
  unfold validRune
  rcases (show r < 55296 ∨ (55296 ≤ r ∧ r ≤ 57343) ∨ (57343 < r ∧ 55296 ≤ r ∧ r ≤ 1114111) ∨ (1114111 < r ∧ 57343 < r ∧ 55296 ≤ r) by omega) with h3 | ⟨h3, h4⟩ | ⟨h3, h4, h5⟩ | ⟨h3, h4, h5⟩
  · rw [decide_eq_true (by omega)]
    go_enter Tryd.func58, Tryd.ntmps58
    go_wp2
    go_ret
    exact ⟨rfl, rfl⟩
  · rw [decide_eq_false (by omega)]
    go_enter Tryd.func58, Tryd.ntmps58
    go_wp2
    go_ret
    exact ⟨rfl, rfl⟩
  · rw [decide_eq_true (by omega)]
    go_enter Tryd.func58, Tryd.ntmps58
    go_wp2
    go_ret
    exact ⟨rfl, rfl⟩
  · rw [decide_eq_false (by omega)]
    go_enter Tryd.func58, Tryd.ntmps58
    go_wp2
    go_ret
    exact ⟨rfl, rfl⟩
theorem indexByte_ascii {l : List UInt8} {c : UInt8} (h : ∀ b ∈ l, b.toNat < 128) (hc : 128 ≤ c.toNat) : Lib.indexByte l c = -1 := by
  induction l with
  | nil => rfl
  | cons b t ih =>
    have hb := h b List.mem_cons_self
    have hne : (b == c) = false := beq_false_of_ne (by rintro rfl; omega)
    rw [Lib.indexByte, hne, ih (fun x hx => h x (List.mem_cons_of_mem _ hx))]; rfl
set_option maxRecDepth 100000 in
set_option maxHeartbeats 4000000 in
/-- IndexRune in a short row of ASCII bytes, of a rune that is none. -/
theorem irune_high (s : ByteArray) (r : Int) (w : World) (h2 : 2 ≤ s.size) (h3 : s.size ≤ 3) (hasc : ∀ b ∈ s.data.toList, b.toNat < 128) (hr : 128 ≤ r) (hr2 : r ≤ 2147483647) :
    Calls Tryd.prog 47 #[.string s, .int .i32 r] w fun e w' => e = .returned (.int .i64 (-1)) ∧ Below w.heap.size w w' := by
  have HA := Lib.hid hasc
  have hr0 : (0 : Int) ≤ r := by omega
  have hr1 : ¬ r < 128 := by omega
  by_cases he : r = 65533
  · have het : (r == 65533) = true := by simpa using he
    have hlt : ∀ i (hi : i < s.size), (s[i]'hi).toNat < 128 := fun i hi => HA.out _ (by
      have := Array.getElem_mem_toList (xs := s.data) hi
      exact this)
    have HL := Lib.hid hlt
    clear he hasc hlt
    go_enter Tryd.func47, Tryd.ntmps47
    go_wp2
    go_loopg [5, 6] s.size (fun g _ _ wx => ∃ i : Nat, i + g = s.size ∧ wx = w.iter s i)
    case atStart => exact ⟨0, by omega, rfl⟩
    case round =>
      obtain ⟨i, hig, rfl⟩ := hrel
      cases gk with
      | zero =>
        obtain rfl : i = s.size := by omega
        have hnx := run_next_end (P := Tryd.prog) w s s.size
        go_wp2
        go_ret
        exact ⟨rfl, iter_below w s _⟩
      | succ g =>
        have hi : i < s.size := by omega
        have hx := HL.out i hi
        have hnx := fun ty => run_next_ascii (P := Tryd.prog) w s i ty hi hx
        obtain ⟨z, hz⟩ : ∃ z : Int, z = ((s[i]'hi).toNat : Int) := ⟨_, rfl⟩
        rw [← hz] at hnx
        have hze : (z == 65533) = false := by rw [beq_eq_false_iff_ne]; omega
        clear hz hx
        go_wp2
        go_roundg g
        case measure => omega
        case rel => exact ⟨i + 1, by omega, rfl⟩
  · have hef : (r == 65533) = false := by simpa using he
    have c1 := validRune_any r w hr hr2
    cases hv : validRune r with
    | false =>
      rw [hv] at c1
      clear he hasc hv
      go_enter Tryd.func47, Tryd.ntmps47
      go_wp2_with fail
      refine c1.mono ?_
      rintro e w1 ⟨rfl, rfl⟩
      clear c1
      go_wp2
      go_ret
      exact ⟨rfl, Below.refl _ _⟩
    | true =>
      obtain ⟨e1, e2, e3⟩ := encode_facts r (by rw [validRune_eq]; exact hv) hr
      rw [hv] at c1
      clear he hasc hv
      go_enter Tryd.func47, Tryd.ntmps47
      go_wp2_with fail
      refine c1.mono ?_
      rintro e w1 ⟨rfl, rfl⟩
      clear c1
      go_wp2_with fail
      go_step3
      go_upto_region 2 with fail
      generalize Utf8.encode r = rs at *
      obtain ⟨m, hm⟩ : ∃ m, rs.size = m + 1 := ⟨rs.size - 1, by omega⟩
      have hsz : (rs.size : Int) - 1 = (m : Int) := by omega
      have hmr : m < rs.size := by omega
      have h128 : 128 ≤ (rs[m]'hmr).toNat := by
        have := e3 (by omega)
        simpa only [hm, Nat.add_sub_cancel] using this
      have hm1 : 1 ≤ m := by omega
      have hm3 : m ≤ 3 := by omega
      have hs0 : (0 : Int) ≤ (s.size : Int) := by omega
      have hm0 : (0 : Int) ≤ (m : Int) := by omega
      have hmri : (m : Int) < (rs.size : Int) := by omega
      obtain ⟨c, hc⟩ : ∃ c, c = rs[m]'hmr := ⟨_, rfl⟩
      have hc128 : 128 ≤ c.toNat := by rw [hc]; exact h128
      have hcx : ((rs[m]'hmr).toNat : Int) = (c.toNat : Int) := by rw [hc]
      have HM := Lib.hid hm
      clear e1 e2 e3 hm h128 hc
      by_cases hms : m < s.size
      · have hmsi : (m : Int) < (s.size : Int) := by omega
        have hz : (s[m]'hms).toNat < 128 := HA.out _ (by
          have := Array.getElem_mem_toList (xs := s.data) hms
          exact this)
        obtain ⟨z, hzz⟩ : ∃ z : Int, ((s[m]'hms).toNat : Int) = z := ⟨_, rfl⟩
        obtain ⟨y, hyy⟩ : ∃ y : Int, (c.toNat : Int) = y := ⟨_, rfl⟩
        have hne : (z != y) = true := by simp; omega
        have hne2 : (z == y) = false := by rw [beq_eq_false_iff_ne]; omega
        have hy0 : y.toNat.toUInt8 = c := by rw [← hyy]; simp
        have c2 := fun W : World => Tryd.strings_IndexByte (s.extract (m + 1) s.size) y W
        rw [hy0, indexByte_ascii (fun b hb => HA.out b (mem_extract hb)) hc128] at c2
        have c3 := fun W : World => (c2 W).mono (fun e w' (h : e = .returned (.int .i64 (-1)) ∧ w' = W) => (⟨h.1, h.2.symm⟩ : e = .returned (.int .i64 (-1)) ∧ W = w'))
        clear c2
        rw [hyy] at hcx
        clear hz hy0 hc128 hyy
        go_wp2_with fail
        refine wp_loop_rounds 1 ?_
        rw [rounds_succ]
        go_wp2_with fail
        go_step3
        go_wp2_with fail
        go_quiet (fail)
        go_wp2_with fail
        have hm1i : IntKind.i64.wrap ((m : Int) + 1) = (m : Int) + 1 := IntWalk.i64_in _ (by omega)
        have hm2i : (0 : Int) ≤ (m : Int) + 1 := by omega
        have hm3i : (m : Int) + 1 ≤ (s.size : Int) := by omega
        have hm4i : ((m : Int) + 1).toNat = m + 1 := by omega
        go_quiet ((go_at_call 57; with_reducible exact quietlyAt (c3 _)))
        go_wp2
        rw [Exit.noGoto_ret]
        go_wp2
        rw [Exit.noGoto_ret]
        go_ret
        exact ⟨rfl, Below.drewN' (Below.refl _ _) _⟩
      · have hmsi : ¬ (m : Int) < (s.size : Int) := by omega
        clear hc128 hcx
        go_wp2_with fail
        refine wp_loop_rounds 1 ?_
        rw [rounds_succ]
        go_wp2
        rw [Exit.noGoto_ret]
        go_ret
        exact ⟨rfl, Below.refl _ _⟩
end Go.Proofs.YtdaekoapkclliaaDoor
