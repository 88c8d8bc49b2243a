/- Package quota's law folder: QuotaPlays' other ways. -/
import Derived.Test.YtoekcknppphnjaaQuotaQ
import Derived.Laws.AppendOwnNone
set_option linter.unusedVariables false
set_option linter.unusedSimpArgs false
namespace Go.Proofs.Ytoekcknppphnjaa
open Go.RowKit
theorem refNew_not (A : Option Addr) (n c : Nat) (w : World) (xs : List Int) (h : IntsAt w A n xs) (hk : newOk xs = false) :
    Calls Try.prog 9 #[.slice A n c] w fun e w' => e = .returned (.tuple #[.agg #[.slice none 0 0, .slice none 0 0], .int .i64 1]) ∧ Below w.heap.size w w' := by
  have hall : Calls Try.prog 9 #[.slice A n c] w (RefNew xs w) := by
    by_cases hn : n < 1 ∨ 16 < n
    · exact refNew_len A n c w xs h.len h.max hn
    · obtain ⟨b, off, rfl, hc⟩ := h.cells (by omega)
      exact refNew_some b off n c w xs h.len (by omega) (by omega) hc
  refine hall.mono ?_
  rintro e w' ⟨hb, ⟨ht, _⟩ | ⟨_, he⟩⟩
  · rw [hk] at ht; cases ht
  · exact ⟨he, hb⟩
theorem own_intsAt {w : World} {base : Nat} {v : Value} {n : Nat} {xs : List Int} (h : w.ownsRow base 3 1 v n (xs.map (Value.int .i64))) (hm : n ≤ 9223372036854775807) (hl : xs.length = n) : ∃ A c, v = .slice A n c ∧ IntsAt w A n xs := by
  rcases h.2 with ⟨rfl, rfl⟩ | ⟨g, cap, cur, rfl, _⟩
  · exact ⟨none, 0, rfl, hl, hm, fun h => absurd h (by omega)⟩
  · refine ⟨some ⟨g, 0, none⟩, cap, rfl, hl, hm, fun _ => ⟨g, 0, rfl, fun j hj => ?_⟩⟩
    rw [Nat.zero_add, h.cellAt j (by omega), List.getElem?_map, get_nth (by omega)]; rfl
set_option maxRecDepth 100000 in
set_option maxHeartbeats 2000000 in
theorem plays_all (A0 : Option Addr) (l0 c0 : Nat) (xs : List Int) (A1 : Option Addr) (l1 c1 : Nat) (ys : List Act) (w : World) (h00 : IntsAt w A0 l0 xs ∧ (A0 = none → l0 = 0 ∧ c0 = 0)) (h1 : ActsAt w A1 l1 ys) :
    Calls Try.prog 3 #[.slice A0 l0 c0, .slice A1 l1 c1] w fun e w' => e = .returned (.bool true) ∧ Below w.heap.size w w' := by
  obtain ⟨h0, hA⟩ := h00
  have haw := awake_any w
  have m0 := h0.max
  have m1 := h1.max
  by_cases hout : 100 < l0 ∨ 300 < l1
  · clear h0 h1 hA
    rcases (show 100 < l0 ∨ (l0 ≤ 100 ∧ 300 < l1) by omega) with h | ⟨h, h'⟩
    all_goals
      clear hout
      go_enter Try.func3, Try.ntmps3
      go_wp2_with (first | (go_at_call 7; refine haw.mono ?_; rintro e w1 ⟨rfl, hb1⟩))
      go_ret
      exact ⟨rfl, hb1⟩
  · cases hk : newOk xs with
    | true =>
      have hb := newOk_bounds hk
      have hl := h0.len
      obtain ⟨b0, o0, rfl, hc0⟩ := h0.cells (by omega)
      exact plays_law b0 o0 l0 c0 xs A1 l1 c1 ys w h0.len hc0 h1 (by omega) (by omega) (by omega) hk
    | false =>
      have h2 : l0 ≤ 100 := by omega
      have h3 : l1 ≤ 300 := by omega
      have H0 := Lib.hid h0
      have HK := Lib.hid hk
      obtain ⟨i0, hi0, hz0, hz1, hz2⟩ := info_parts Try.infoInt
      clear h0 h1 hk hout
      cases A0 with
      | none =>
        obtain ⟨rfl, rfl⟩ := hA rfl
        clear hA
        go_enter Try.func3, Try.ntmps3
        go_wp2_with fail
        refine haw.mono ?_
        rintro e w1 ⟨rfl, hb1⟩
        go_wp2_with (at_builtin; refine wpList_append_own_none rfl (.tmp 27) (.tmp 28) 22 rfl w1.heap.size 3 i0 1 Try.underlying22 hi0 (.slice (some ⟨w1.heap.size, 0, none⟩) 0 0) 0 [] rfl ?o1 rfl ?_)
        case o1 =>
          have h := World.ownsRow_lit (base := w1.heap.size) (e := 3) (size := 1) w1 #[] 0 (by simp) (by decide) rfl
          simpa using h
        have hxs : xs = [] := List.eq_nil_of_length_eq_zero H0.out.len
        subst hxs
        clear haw
        go_wp2_with fail
        refine (new_not (some ⟨w1.heap.size, 0, none⟩) 0 0 _ [] ⟨rfl, by decide, fun h => absurd h (by decide)⟩ HK.out).mono ?_
        rintro e w2 ⟨rfl, hb2⟩
        have hb : Below w.heap.size w w2 := (hb1.alloc hb1.size _).trans (hb2.mono (by have := hb1.size; simp; omega))
        clear hb1 hb2
        go_wp2_with fail
        refine (refNew_not none 0 0 _ [] ⟨rfl, by decide, fun h => absurd h (by decide)⟩ HK.out).mono ?_
        rintro e w3 ⟨rfl, hb3⟩
        have hb' : Below w.heap.size w w3 := hb.trans (hb3.mono hb.size)
        have HB := Lib.hid hb'
        clear hb hb3 hb'
        go_wp2
        go_ret
        exact ⟨rfl, HB.out.alloc HB.out.size _⟩
      | some ad =>
        clear hA
        have hcells : ∀ t u, (xs.map (Value.int .i64))[t]? = some u → w.cell? (ad.add t) = some u := by
          intro t u ht
          have htl : t < l0 := by have := (List.getElem?_eq_some_iff.1 ht).1; simp at this; have := H0.out.len; omega
          obtain ⟨b, off, e, hc⟩ := H0.out.cells (by omega)
          simp only [Option.some.injEq] at e
          subst e
          rw [Go.WideShapes.add_plain, hc t htl]
          rw [List.getElem?_map, get_nth (by rw [H0.out.len]; exact htl)] at ht
          simpa using ht
        have HC := Lib.hid hcells
        clear hcells
        go_enter Try.func3, Try.ntmps3
        go_wp2_with fail
        refine haw.mono ?_
        rintro e w1 ⟨rfl, hb1⟩
        go_wp2_with (at_builtin; refine wpList_append_own_at _ rfl (.tmp 27) (.tmp 28) 22 rfl w1.heap.size 3 i0 (.int .i64 0) 1 8 Try.underlying22 hi0 hz0 hz1 hz2 rfl (by decide) (.slice (some ⟨w1.heap.size, 0, none⟩) 0 0) 0 [] rfl ?o1 ad l0 c0 (xs.map (Value.int .i64)) rfl ?o2 ?o3 ?o4 ?o5 ?o6 ?o7 ?_)
        case o1 =>
          have h := World.ownsRow_lit (base := w1.heap.size) (e := 3) (size := 1) w1 #[] 0 (by simp) (by decide) rfl
          simpa using h
        case o2 => simp [H0.out.len]
        case o3 =>
          intro t u ht
          have hc := HC.out t u ht
          have hlt := World.block_lt_of_cell? _ _ hc
          rw [World.cell?_alloc_lt _ _ _ (Nat.lt_of_lt_of_le hlt hb1.size), hb1.cell hlt, hc]
        case o4 => exact ints_oneCell _ _
        case o5 => simp only [maxLen]; omega
        case o6 => omega
        case o7 => simp
        intro v1 w2 hown hgrow _ hat
        try simp only [Nat.zero_add, List.nil_append] at hown
        obtain ⟨A2, cp, rfl, hI2⟩ := own_intsAt hown (by omega) H0.out.len
        have hb2 : Below w.heap.size w w2 := Below.grown (hb1.alloc hb1.size _) hgrow (by have := hb1.size; simp; omega) (fun k hk => by simp [Value.ownBlock] at hk; have := hb1.size; omega)
        have HI2 := Lib.hid hI2
        clear hown hgrow hat hI2 hb1 haw
        go_wp2_with fail
        refine (new_not A2 l0 cp _ xs HI2.out HK.out).mono ?_
        rintro e w3 ⟨rfl, hb3⟩
        have hb : Below w.heap.size w w3 := hb2.trans (hb3.mono hb2.size)
        clear hb2 hb3
        go_wp2_with fail
        refine (refNew_not (some ad) l0 c0 _ xs (H0.out.below hb) HK.out).mono ?_
        rintro e w4 ⟨rfl, hb4⟩
        have hb' : Below w.heap.size w w4 := hb.trans (hb4.mono hb.size)
        have HB := Lib.hid hb'
        clear hb hb4 hb'
        go_wp2
        go_ret
        exact ⟨rfl, HB.out.alloc HB.out.size _⟩
end Go.Proofs.Ytoekcknppphnjaa
