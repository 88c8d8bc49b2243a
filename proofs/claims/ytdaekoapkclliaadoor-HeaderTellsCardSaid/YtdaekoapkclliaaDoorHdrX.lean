/- The document's blank, low, Same, Get. -/
import Derived.Test.YtdaekoapkclliaaDoorHdrS
set_option linter.unusedVariables false
set_option linter.unusedSimpArgs false
namespace Go.Proofs.YtdaekoapkclliaaDoor
open Go.RowKit
theorem bl_ways (c : UInt8) : (isBl c = true ∧ ((c.toNat : Int) == 32) = true) ∨ (isBl c = true ∧ ((c.toNat : Int) == 32) = false ∧ ((c.toNat : Int) == 9) = true) ∨ (isBl c = false ∧ ((c.toNat : Int) == 32) = false ∧ ((c.toNat : Int) == 9) = false) := by
  by_cases h : c = 32
  · subst h; left; decide
  · by_cases h2 : c = 9
    · subst h2; right; left; decide
    · right; right
      refine ⟨?_, (u8F (n := 32) h rfl).1, (u8F (n := 9) h2 rfl).1⟩
      unfold isBl
      simp [h, h2]
set_option maxRecDepth 100000 in
theorem rblank_any (c : UInt8) (w : World) :
    Calls Tryd.prog 30 #[.int .u8 c.toNat] w fun e w' => e = .returned (.bool (isBl c)) ∧ w = w' := by
  have h := bl_ways c
  generalize isBl c = b at *
  rcases h with ⟨rfl, h1⟩ | ⟨rfl, h1, h2⟩ | ⟨rfl, h1, h2⟩
  all_goals
    go_enter Tryd.func30, Tryd.ntmps30
    go_wp2
    go_ret
    exact ⟨rfl, rfl⟩
set_option maxRecDepth 100000 in
theorem rlow_any (c : UInt8) (w : World) :
    Calls Tryd.prog 32 #[.int .u8 c.toNat] w fun e w' => e = .returned (.int .u8 (lowB c).toNat) ∧ w = w' := by
  obtain ⟨x, hx⟩ : ∃ x : Int, x = (c.toNat : Int) := ⟨_, rfl⟩
  rw [← hx]
  by_cases h65 : 65 ≤ x ∧ x ≤ 90
  · have hup := lowB_up hx h65.1 h65.2
    rw [hup]
    obtain ⟨h1, h2⟩ := h65
    have hw : IntKind.u8.wrap (x + 32) = x + 32 := IntWalk.u8_in _ (by omega)
    clear hx hup
    go_enter Tryd.func32, Tryd.ntmps32
    go_wp2
    go_ret
    exact ⟨rfl, rfl⟩
  · rw [lowB_no hx h65, ← hx]
    clear hx
    rcases (show ¬ 65 ≤ x ∨ (65 ≤ x ∧ ¬ x ≤ 90) by omega) with h1 | ⟨h1, h2⟩
    all_goals
      clear h65
      go_enter Tryd.func32, Tryd.ntmps32
      go_wp2
      go_ret
      exact ⟨rfl, rfl⟩
/-- Both begin alike. -/
def SmI (a b : Bs) (k : Nat) : Prop := (a.take k).map lowB = (b.take k).map lowB
theorem SmI.bad {a b : Bs} {k : Nat} (h1 : k < a.length) (h2 : k < b.length) (h : lowB a[k] ≠ lowB b[k]) : sameF a b = false := by
  unfold sameF
  refine decide_eq_false fun e => h ?_
  have := congrArg (·[k]?) e
  unfold lowS at this
  simpa [List.getElem?_map, List.getElem?_eq_getElem h1, List.getElem?_eq_getElem h2] using this
theorem SmI.next {a b : Bs} {k : Nat} (hI : SmI a b k) (h1 : k < a.length) (h2 : k < b.length) (h : lowB a[k] = lowB b[k]) : SmI a b (k + 1) := by
  unfold SmI at *
  rw [List.take_succ_eq_append_getElem h1, List.take_succ_eq_append_getElem h2, List.map_append, List.map_append, hI]
  simp [h]
theorem SmI.done {a b : Bs} {k : Nat} (hI : SmI a b k) (h1 : a.length = k) (h2 : b.length = k) : sameF a b = true := by
  unfold SmI at hI
  rw [List.take_of_length_le (by omega), List.take_of_length_le (by omega)] at hI
  unfold sameF lowS
  exact decide_eq_true hI
theorem sameF_len {a b : Bs} (h : a.length ≠ b.length) : sameF a b = false := by
  unfold sameF lowS
  exact decide_eq_false fun e => h (by have := congrArg List.length e; simpa using this)
theorem u8_eq (x y : UInt8) : ((x.toNat : Int) != (y.toNat : Int)) = decide (x ≠ y) := by
  by_cases h : x = y
  · subst h; simp
  · have : x.toNat ≠ y.toNat := fun e => h (UInt8.toNat_inj.1 e)
    simp [h]; omega
set_option maxRecDepth 100000 in
set_option maxHeartbeats 8000000 in
theorem rsame_any (a b : ByteArray) (w : World) (h1 : a.size ≤ 1000000) (h2 : b.size ≤ 1000000) :
    Calls Tryd.prog 20 #[.string a, .string b] w fun e w' => e = .returned (.bool (sameF a.data.toList b.data.toList)) ∧ Below w.heap.size w w' := by
  obtain ⟨R, hR⟩ : ∃ R, R = sameF a.data.toList b.data.toList := ⟨_, rfl⟩
  rw [← hR]
  have ha0 : (0 : Int) ≤ (a.size : Int) := by omega
  have hb0 : (0 : Int) ≤ (b.size : Int) := by omega
  by_cases hn : a.size = b.size
  · have hq : ((a.size : Int) == (b.size : Int)) = true := by rw [beq_iff_eq]; omega
    have hq2 : ((a.size : Int) != (b.size : Int)) = false := by rw [bne, hq]; rfl
    have HR := Lib.hid (And.intro hR hn)
    clear hR hn
    go_enter Tryd.func20, Tryd.ntmps20
    go_wp2
    go_loopw [5] (fun i wr => ∃ k : Nat, k ≤ a.size ∧ i = .int .i64 k ∧ Hid (SmI a.data.toList b.data.toList k) ∧ Below w.heap.size w wr) (fun i _ => a.size - (intOf i).toNat)
    case atStart => exact ⟨0, Nat.zero_le _, rfl, Lib.hid rfl, Below.refl _ _⟩
    case round =>
      obtain ⟨k, hk, rfl, hI, hbl⟩ := hrel
      have hk0 : (0 : Int) ≤ (k : Int) := by omega
      by_cases hlt : k < a.size
      · have hki : (k : Int) < (a.size : Int) := by omega
        have hlb : k < b.size := by rw [← HR.out.2]; exact hlt
        have hkb : (k : Int) < (b.size : Int) := by omega
        have hla : k < a.data.toList.length := by rw [bsize]; exact hlt
        have hlb2 : k < b.data.toList.length := by rw [bsize]; exact hlb
        have hca : a.data.toList[k] = a[k] := rfl
        have hcb : b.data.toList[k] = b[k] := rfl
        have c1 := fun n => rlow_any a[k] (wr.drewN n)
        have c2 := fun n => rlow_any b[k] (wr.drewN n)
        have hne := u8_eq (lowB a[k]) (lowB b[k])
        have HB := Lib.hid hbl
        by_cases hc : lowB a[k] = lowB b[k]
        · rw [decide_eq_false (fun h => h hc)] at hne
          have HN := Lib.hid (hI.out.next hla hlb2 (by rw [hca, hcb]; exact hc))
          clear hI hbl hc hca hcb
          go_upto_region 6 with fail
          go_quiet ((first | (go_at_call 32; with_reducible exact quietly (c1 _)) | (go_at_call 32; with_reducible exact quietly (c2 _))))
          go_wp2
          go_roundw
          case rel => exact ⟨k + 1, by omega, by go_num, HN.out, Below.drewN' HB.out _⟩
          case measure => simp [intOf]; omega
        · rw [decide_eq_true hc] at hne
          obtain rfl : R = false := HR.out.1.trans (SmI.bad hla hlb2 (by rw [hca, hcb]; exact hc))
          clear hI hbl hc hca hcb
          go_upto_region 6 with fail
          go_quiet ((first | (go_at_call 32; with_reducible exact quietly (c1 _)) | (go_at_call 32; with_reducible exact quietly (c2 _))))
          go_wp2
          go_ret
          exact ⟨rfl, Below.drewN' HB.out _⟩
      · obtain rfl : k = a.size := by omega
        have hjE : ¬ (a.size : Int) < (a.size : Int) := by omega
        obtain rfl : R = true := HR.out.1.trans (hI.out.done (bsize a) (by rw [bsize, HR.out.2]))
        have HB := Lib.hid hbl
        clear hI hbl
        go_wp2
        go_ret
        exact ⟨rfl, HB.out⟩
  · have hq : ((a.size : Int) == (b.size : Int)) = false := by rw [Bool.eq_false_iff]; intro e; have := beq_iff_eq.1 e; omega
    have hq2 : ((a.size : Int) != (b.size : Int)) = true := by rw [bne, hq]; rfl
    obtain rfl : R = false := hR.trans (sameF_len (by rw [bsize, bsize]; exact hn))
    clear hR hn
    go_enter Tryd.func20, Tryd.ntmps20
    go_wp2
    go_ret
    exact ⟨rfl, Below.refl _ _⟩
set_option maxRecDepth 100000 in
set_option maxHeartbeats 4000000 in
theorem rget_any (A : Option Addr) (n c : Nat) (xs : List Fld) (nm : ByteArray) (w : World) (h : FldsIn w A n xs) (hsm : Small xs) (h1 : nm.size ≤ 100000) :
    Calls Tryd.prog 16 #[.slice A n c, .string nm] w fun e w' => e = .returned (.tuple #[.string (getB xs nm.data.toList).1, .bool (getB xs nm.data.toList).2]) ∧ Below w.heap.size w w' := by
  obtain ⟨R, hR⟩ : ∃ R, R = getB xs nm.data.toList := ⟨_, rfl⟩
  rw [← hR]
  have hn0 : (0 : Int) ≤ (n : Int) := by omega
  have hnm := h.max
  have H := Lib.hid (And.intro h (And.intro hsm hR))
  clear h hsm hR
  go_enter Tryd.func16, Tryd.ntmps16
  go_wp2
  go_loopw [6] (fun i wr => ∃ k : Nat, k ≤ n ∧ i = .int .i64 k ∧ Hid (R = getB (xs.drop k) nm.data.toList) ∧ Below w.heap.size w wr) (fun i _ => n - (intOf i).toNat)
  case atStart => exact ⟨0, Nat.zero_le _, rfl, Lib.hid (by rw [List.drop_zero]; exact H.out.2.2), Below.refl _ _⟩
  case round =>
    obtain ⟨k, hk, rfl, hg, hbl⟩ := hrel
    have hk0 : (0 : Int) ≤ (k : Int) := by omega
    by_cases hlt : k < n
    · have hki : (k : Int) < (n : Int) := by omega
      obtain ⟨b, off, rfl, hc⟩ := (H.out.1.below hbl).cells (by omega)
      obtain ⟨e1, e2⟩ := hc k hlt
      have hkl : k < xs.length := by rw [H.out.1.len]; exact hlt
      have hsz := H.out.2.1.at_ hkl
      have hgd := hg.out
      rw [getB_drop hkl] at hgd
      generalize fl xs k = f at *
      obtain ⟨fn, fb⟩ := f
      dsimp only at e1 e2 hsz hgd
      have c1 := fun W => rsame_any fn nm W (by omega) (by omega)
      have HB := Lib.hid hbl
      cases hs : sameF fn.data.toList nm.data.toList with
      | true =>
        rw [hs] at c1 hgd
        simp only [if_true] at hgd
        subst hgd
        clear hc hkl hg hbl hs hsz
        go_wp2_with fail
        refine (c1 _).mono ?_
        rintro e w1 ⟨rfl, hb1⟩
        have q2 := (hb1.cell (p := ⟨b, off + k * 2 + 1, none⟩) (World.block_lt_of_cell? _ _ e2)).trans e2
        have HF := Lib.hid (HB.out.trans (hb1.mono HB.out.size))
        clear c1 hb1 e1 e2
        go_wp2
        go_ret2
        exact ⟨rfl, HF.out⟩
      | false =>
        rw [hs] at c1 hgd
        simp only [Bool.false_eq_true, if_false] at hgd
        have HG := Lib.hid hgd
        clear hc hkl hg hbl hs hsz hgd
        go_wp2_with fail
        refine (c1 _).mono ?_
        rintro e w1 ⟨rfl, hb1⟩
        have HF := Lib.hid (HB.out.trans (hb1.mono HB.out.size))
        clear c1 hb1
        go_wp2
        go_roundw
        case rel => exact ⟨k + 1, by omega, by go_num, HG.out, HF.out⟩
        case measure => simp [intOf]; omega
    · obtain rfl : k = n := by omega
      have hjE : ¬ (k : Int) < (k : Int) := by omega
      obtain rfl : R = (⟨#[]⟩, false) := by rw [hg.out, List.drop_of_length_le (by rw [H.out.1.len]; exact Nat.le_refl _)]; rfl
      have HF := Lib.hid hbl
      clear hg hbl
      go_wp2
      go_ret2
      exact ⟨rfl, HF.out⟩
end Go.Proofs.YtdaekoapkclliaaDoor
