/- The reference of package quota: New. -/
import Derived.Test.YtoekcknppphnjaaQuotaN
import Derived.Deep.OwnRows
set_option linter.unusedVariables false
set_option linter.unusedSimpArgs false
namespace Go.Proofs.Ytoekcknppphnjaa
open Go.RowKit
def RefNew (xs : List Int) (w : World) (e : Ending) (w' : World) : Prop :=
  Below w.heap.size w w' ∧ ((newOk xs = true ∧ ∃ gB cB gT cT, e = .returned (.tuple #[.agg #[.slice (some ⟨gB, 0, none⟩) xs.length cB, .slice (some ⟨gT, 0, none⟩) xs.length cT], .int .i64 0]) ∧ RefB w' gB cB gT cT (newBook xs) ∧ w.heap.size ≤ gB ∧ w.heap.size ≤ gT) ∨
    (newOk xs = false ∧ e = .returned (.tuple #[.agg #[.slice none 0 0, .slice none 0 0], .int .i64 1])))
theorem newBook_takeB (xs : List Int) : (newBook xs).B.take (newBook xs).L = xs := by
  show (part xs xs.length).take xs.length = xs
  simp [part]
theorem newBook_takeT (xs : List Int) (h : xs.length ≤ 16) : (newBook xs).T.take (newBook xs).L = List.replicate xs.length 0 := by
  show (List.replicate 16 (0 : Int)).take xs.length = _
  rw [List.take_replicate, Nat.min_eq_left h]
set_option maxHeartbeats 400000 in
theorem refNew_len (A : Option Addr) (n c : Nat) (w : World) (xs : List Int) (hx : xs.length = n) (hm : n ≤ 9223372036854775807) (h : n < 1 ∨ 16 < n) :
    Calls Try.prog 9 #[.slice A n c] w (RefNew xs w) := by
  have HP : Hid (∀ w', Below w.heap.size w w' → RefNew xs w (.returned (.tuple #[.agg #[.slice none 0 0, .slice none 0 0], .int .i64 1])) w') := fun w' hb => ⟨hb, .inr ⟨newOk_len (by omega), rfl⟩⟩
  clear hx
  rcases h with h | h
  · go_enter Try.func9, Try.ntmps9
    go_wp2
    refine bodyPost_ret (v := .tuple #[.agg #[.slice none 0 0, .slice none 0 0], .int .i64 1]) ?_ rfl (HP.out _ ?_)
    · simp [results, Try.results9, go_sem]
    · repeat (first | exact Below.refl _ _ | apply Below.drew | apply pwdrewN | (refine Below.alloc ?_ (by simp; try omega) _) | (refine Below.setCell ?_ (by simp; try omega) _))
  · have h' : ¬ n < 1 := by omega
    go_enter Try.func9, Try.ntmps9
    go_wp2
    refine bodyPost_ret (v := .tuple #[.agg #[.slice none 0 0, .slice none 0 0], .int .i64 1]) ?_ rfl (HP.out _ ?_)
    · simp [results, Try.results9, go_sem]
    · repeat (first | exact Below.refl _ _ | apply Below.drew | apply pwdrewN | (refine Below.alloc ?_ (by simp; try omega) _) | (refine Below.setCell ?_ (by simp; try omega) _))
theorem Eff.setAt' {N : Nat} {a b : World} (h : Eff (· = N) a b) (i : Nat) (v : Value) : Eff (· = N) a (b.setCell ⟨N, i, none⟩ v) := Eff.setCell (S := (· = N)) h (p := ⟨N, i, none⟩) (fun _ => rfl) v
theorem cells5 {w : World} {N : Nat} {T : TypeId} {a b : Value} (h : w.heap[N]? = some (.cells #[a, b] T (0, 0))) :
    w.cell? ⟨N, 0, none⟩ = some a ∧ w.cell? ⟨N, 1, none⟩ = some b ∧ w.frozen? ⟨N, 0, none⟩ = false ∧ w.frozen? ⟨N, 1, none⟩ = false := by
  refine ⟨?_, ?_, frozen_of_row _ _ _ _ _ h, frozen_of_row _ _ _ _ _ h⟩
  · rw [cell_of_row _ _ _ _ _ _ h]; rfl
  · rw [cell_of_row _ _ _ _ _ _ h]; rfl
theorem cells5' {w : World} {N : Nat} {T : TypeId} {a b : Value} (h : w.heap[N]? = some (.cells #[a, b] T (0, 0))) :
    ∀ o : Obj, (w.alloc o).cell? ⟨N, 0, none⟩ = some a ∧ (w.alloc o).cell? ⟨N, 1, none⟩ = some b ∧ (w.alloc o).frozen? ⟨N, 0, none⟩ = false ∧ (w.alloc o).frozen? ⟨N, 1, none⟩ = false :=
  fun _ => cells5 ((Below.heap_alloc _ _ _ (lt_of_block h)).trans h)
theorem own_zero (W : World) (n : Nat) (hn : n ≤ 16) : OwnI (W.alloc (.cells (madeCells #[.int .i64 0] n) 3)) 0 (.slice (some ⟨W.heap.size, 0, none⟩) n n) (List.replicate n 0) := by
  have h := World.ownsRow_lit (base := 0) (e := 3) (size := 1) W (madeCells #[.int .i64 0] n) n (Nat.zero_le _) (by simp only [maxLen]; omega) (by simp [madeCells])
  unfold OwnI
  rw [toList_madeCells_one] at h
  simpa using h
theorem refNew_end {xs : List Int} {w F : World} {g cp t n : Nat} (hk : newOk xs = true) (hn : xs.length = n) (hb : Below w.heap.size w F) (h1 : OwnI F 0 (.slice (some ⟨g, 0, none⟩) n cp) xs) (h2 : OwnI F 0 (.slice (some ⟨t, 0, none⟩) n n) (List.replicate n 0))
    (hg : w.heap.size ≤ g) (ht : w.heap.size ≤ t) :
    RefNew xs w (.returned (.tuple #[.agg #[.slice (some ⟨g, 0, none⟩) n cp, .slice (some ⟨t, 0, none⟩) n n], .int .i64 0])) F := by
  subst hn
  refine ⟨hb, .inl ⟨hk, g, cp, t, xs.length, rfl, ⟨?_, ?_⟩, hg, ht⟩⟩
  · rw [newBook_takeB]; exact h1
  · rw [newBook_takeT _ (newOk_bounds hk).2]; exact h2
theorem own_base0 {w : World} {base : Nat} {e : TypeId} {size : Nat} {v : Value} {n : Nat} {xs : List Value} (h : w.ownsRow base e size v n xs) : w.ownsRow 0 e size v n xs := by
  refine ⟨h.1, ?_⟩
  rcases h.2 with h' | ⟨g', cp, cur, h', _, r⟩
  · exact .inl h'
  · exact .inr ⟨g', cp, cur, h', Nat.zero_le _, r⟩
set_option maxHeartbeats 1000000 in
theorem refNew_some (b0 off n c : Nat) (w : World) (xs : List Int) (hx : xs.length = n) (h1 : 1 ≤ n) (h2 : n ≤ 16) (hc : ∀ j, j < n → w.cell? ⟨b0, off + j, none⟩ = some (.int .i64 (nth xs j))) :
    Calls Try.prog 9 #[.slice (some ⟨b0, off, none⟩) n c] w (RefNew xs w) := by
  have hb0 : b0 < w.heap.size := World.block_lt_of_cell? _ _ (hc 0 (by omega))
  have HP : Hid (∀ w', newOk xs = false → Below w.heap.size w w' → RefNew xs w (.returned (.tuple #[.agg #[.slice none 0 0, .slice none 0 0], .int .i64 1])) w') := fun w' hk hb => ⟨hb, .inr ⟨hk, rfl⟩⟩
  have HX := Lib.hid hx
  have hc' : ∀ (o : Obj) j, j < n → (w.alloc o).cell? ⟨b0, off + j, none⟩ = some (.int .i64 (nth xs j)) := fun o j hj => (World.cell?_alloc_lt w o _ hb0).trans (hc j hj)
  have HC := Lib.hid hc
  clear hx hc
  go_enter Try.func9, Try.ntmps9
  go_wp2
  go_loop [4] (fun i => ∃ j : Nat, j ≤ n ∧ i = .int .i64 j ∧ (∀ t, t < j → okB (nth xs t) = true)) (fun i => n - (intOf i).toNat)
  case atStart => exact ⟨0, Nat.zero_le _, rfl, fun t ht => absurd ht (by omega)⟩
  case round =>
    obtain ⟨j, hj, rfl, hgood⟩ := hrel
    have HG := Lib.hid hgood
    clear hgood
    by_cases hlt : j < n
    · have hcj := fun o => hc' o j hlt
      have hj1 : (0 : Int) ≤ (j : Int) := by omega
      have hj2 : (j : Int) < (n : Int) := by omega
      clear hc'
      by_cases hbad : okB (nth xs j) = false
      · have HB : Hid (newOk xs = false) := newOk_bad (by rw [HX.out]; exact hlt) hbad
        have hq : nth xs j < 0 ∨ (0 ≤ nth xs j ∧ 1099511627776 < nth xs j) := by
          simp [okB] at hbad; omega
        clear hbad
        generalize nth xs j = x at *
        rcases hq with hq | ⟨hq1, hq2⟩
        · go_wp2
          refine bodyPost_ret (v := .tuple #[.agg #[.slice none 0 0, .slice none 0 0], .int .i64 1]) ?_ rfl (HP.out _ HB.out ?_)
          · simp [results, Try.results9, go_sem]
          · repeat (first | exact Below.refl _ _ | apply Below.drew | apply pwdrewN | (refine Below.alloc ?_ (by simp; try omega) _) | (refine Below.setCell ?_ (by simp; try omega) _))
        · go_wp2
          refine bodyPost_ret (v := .tuple #[.agg #[.slice none 0 0, .slice none 0 0], .int .i64 1]) ?_ rfl (HP.out _ HB.out ?_)
          · simp [results, Try.results9, go_sem]
          · repeat (first | exact Below.refl _ _ | apply Below.drew | apply pwdrewN | (refine Below.alloc ?_ (by simp; try omega) _) | (refine Below.setCell ?_ (by simp; try omega) _))
      · have hbad' : okB (nth xs j) = true := by simpa using hbad
        have hq : 0 ≤ nth xs j ∧ nth xs j ≤ 1099511627776 := by simpa [okB] using hbad'
        obtain ⟨hq1, hq2⟩ := hq
        have HB := Lib.hid hbad'
        clear hbad hbad'
        generalize hxx : nth xs j = x at *
        have HXX := Lib.hid hxx
        clear hxx
        go_wp2
        go_round
        case rel =>
          refine ⟨j + 1, by omega, by go_num, fun t ht => ?_⟩
          by_cases e : t = j
          · subst e; rw [HXX.out]; exact HB.out
          · exact HG.out t (by omega)
        case measure => simp [intOf]; omega
    · obtain rfl : j = n := by omega
      have HK : Hid (newOk xs = true) := newOk_all (by rw [HX.out]; exact h1) (by rw [HX.out]; exact h2) fun t ht => HG.out t (by rw [HX.out] at ht; exact ht)
      obtain ⟨i0, hi0, hz0, hz1, hz2⟩ := info_parts Try.infoInt
      have hmk : ∀ W : World, (Instr.makeSlice 22 (.int .i64 (j : Int)) (.int .i64 (j : Int))).run Try.prog W = .ok (.slice (some ⟨W.heap.size, 0, none⟩) j j) (W.alloc (.cells (madeCells #[.int .i64 0] j) 3)) := fun W =>
        run_make_row' 22 3 (.int .i64 0) 8 Try.underlying22 Try.infoInt rfl .i64 .i64 j (by omega) (by omega) W
      have hcells : ∀ W', Below w.heap.size w W' → ∀ t u, (xs.map (Value.int .i64))[t]? = some u → W'.cell? ((⟨b0, off, none⟩ : Addr).add t) = some u := by
        intro W' hb t u ht
        have htl : t < j := by have := (List.getElem?_eq_some_iff.1 ht).1; simp at this; have := HX.out; omega
        rw [Go.WideShapes.add_plain, hb.cell hb0, HC.out t htl]
        rw [List.getElem?_map, get_nth (by rw [HX.out]; exact htl)] at ht
        simpa using ht
      have HCE := Lib.hid hcells
      clear hcells hc'
      go_wp2
      go_region_law (refine step_append_grows rfl (.tmp 33) (.tmp 34) 22 rfl 3 i0 (.int .i64 0) 1 8 Try.underlying22 hi0 hz0 hz1 hz2 rfl (by decide) _ 0 0 [] rfl (fun h => by cases h) rfl (fun _ _ j u h => by simp at h) ⟨b0, off, none⟩ j c (xs.map (Value.int .i64)) rfl (by simp [HX.out]) (HCE.out _ (by repeat (first | exact Below.refl _ _ | apply Below.drew | (refine Below.alloc ?_ (by simp; try omega) _)))) (ints_oneCell _ _) (by omega) (by simp only [maxLen]; omega) (by omega) ?_; intro v' w5 hown hgrow; obtain ⟨g, cp, rfl, hgb, hgs⟩ := hown.form (by omega); have e5 := (hgrow.block w.heap.size (by simp; try omega) (by simp)).trans (show _ = some (Obj.cells #[.slice none 0 0, .slice none 0 0] 30 (0, 0)) by (first | exact heap_alloc_new _ _ | exact (Below.heap_alloc _ _ _ (by simp)).trans (heap_alloc_new _ _) | exact (Below.heap_alloc _ _ _ (by simp; try omega)).trans ((Below.heap_alloc _ _ _ (by simp)).trans (heap_alloc_new _ _)))); have z0 := cells5 e5; have z1 := cells5' e5; have Z5 := Lib.hid e5; clear e5)
      all_goals go_wp2
      · have hgN : ¬ g = w.heap.size := by simp at hgb; omega
        have hs5 : w.heap.size < w5.heap.size := by have := hgrow.size; simp at this; omega
        have h1 := own_base0 hown
        simp only [Nat.zero_add, List.nil_append] at h1
        refine bodyPost_ret (v := .tuple #[.agg #[.slice (some ⟨g, 0, none⟩) j cp, .slice (some ⟨w5.heap.size, 0, none⟩) j j], .int .i64 0]) ?_ rfl (refNew_end HK.out HX.out ?_ (Eff.own (S := (· = w.heap.size)) (a := w5) ?_ (by rw [HX.out]; exact h1) (fun k hk => ?_)) ?_ (by simp at hgb; omega) (by first | omega | (simp; omega)))
        · simp [results, Try.results9, go_sem, z0, z1]
        · have hb5 : Below w.heap.size w w5 := Below.grown (by repeat (first | exact Below.refl _ _ | apply Below.drew | (refine Below.alloc ?_ (by simp; try omega) _))) hgrow (by simp; try omega) (fun k hk => by cases hk)
          repeat (first | exact hb5 | (refine Below.setCell ?_ (by simp) _) | (refine Below.alloc ?_ (by omega) _))
        · repeat (first | exact Eff.refl _ _ | apply Eff.drew | apply Eff.alloc | apply Eff.setAt')
        · simp [Value.ownBlock] at hk; subst hk; exact hgN
        · refine Eff.own (S := (· = w.heap.size)) ?_ (by have h := own_zero w5 j h2; unfold OwnI at h; exact h) (fun k hk => ?_)
          · repeat (first | exact Eff.refl _ _ | apply Eff.drew | apply Eff.alloc | apply Eff.setAt')
          · simp [Value.ownBlock] at hk; omega
      · have hgN : ¬ g = w.heap.size := by simp at hgb; omega
        have hs5 : w.heap.size < w5.heap.size := by have := hgrow.size; simp at this; omega
        have h1 := own_base0 hown
        simp only [Nat.zero_add, List.nil_append] at h1
        refine bodyPost_ret (v := .tuple #[.agg #[.slice (some ⟨g, 0, none⟩) j cp, .slice (some ⟨w.heap.size + 1 + 1, 0, none⟩) j j], .int .i64 0]) ?_ rfl (refNew_end HK.out HX.out ?_ (Eff.own (S := (· = w.heap.size)) (a := w5) ?_ (by rw [HX.out]; exact h1) (fun k hk => ?_)) ?_ (by simp at hgb; omega) (by first | omega | (simp; omega)))
        · simp [results, Try.results9, go_sem, z0, z1]
        · have hb5 : Below w.heap.size w w5 := Below.grown (by repeat (first | exact Below.refl _ _ | apply Below.drew | (refine Below.alloc ?_ (by simp; try omega) _))) hgrow (by simp; try omega) (fun k hk => by cases hk)
          repeat (first | exact hb5 | (refine Below.setCell ?_ (by simp) _) | (refine Below.alloc ?_ (by omega) _))
        · repeat (first | exact Eff.refl _ _ | apply Eff.drew | apply Eff.alloc | apply Eff.setAt')
        · simp [Value.ownBlock] at hk; subst hk; exact hgN
        · have h := own_zero ((w.alloc (.cells #[.slice none 0 0, .slice none 0 0] 30)).alloc (.cells #[] 3)) j h2
          simp only [World.size_alloc, World.size_drew] at h
          refine Eff.own (S := (· = w.heap.size)) ?_ h (fun k hk => ?_)
          · refine Eff.setAt' (Eff.setAt' (Eff.grown ?_ hgrow (fun k hk => by cases hk)) _ _) _ _
            repeat (first | exact Eff.refl _ _ | apply Eff.drew | apply Eff.alloc)
          · simp [Value.ownBlock] at hk; omega
      · have hgN : ¬ g = w.heap.size := by simp at hgb; omega
        have hs5 : w.heap.size < w5.heap.size := by have := hgrow.size; simp at this; omega
        have h1 := own_base0 hown
        simp only [Nat.zero_add, List.nil_append] at h1
        refine bodyPost_ret (v := .tuple #[.agg #[.slice (some ⟨g, 0, none⟩) j cp, .slice (some ⟨w.heap.size + 1, 0, none⟩) j j], .int .i64 0]) ?_ rfl (refNew_end HK.out HX.out ?_ (Eff.own (S := (· = w.heap.size)) (a := w5) ?_ (by rw [HX.out]; exact h1) (fun k hk => ?_)) ?_ (by simp at hgb; omega) (by first | omega | (simp; omega)))
        · simp [results, Try.results9, go_sem, z0, z1]
        · have hb5 : Below w.heap.size w w5 := Below.grown (by repeat (first | exact Below.refl _ _ | apply Below.drew | (refine Below.alloc ?_ (by simp; try omega) _))) hgrow (by simp; try omega) (fun k hk => by cases hk)
          repeat (first | exact hb5 | (refine Below.setCell ?_ (by simp) _) | (refine Below.alloc ?_ (by omega) _))
        · repeat (first | exact Eff.refl _ _ | apply Eff.drew | apply Eff.alloc | apply Eff.setAt')
        · simp [Value.ownBlock] at hk; subst hk; exact hgN
        · have h := own_zero ((w.alloc (.cells #[.slice none 0 0, .slice none 0 0] 30))) j h2
          simp only [World.size_alloc, World.size_drew] at h
          refine Eff.own (S := (· = w.heap.size)) ?_ h (fun k hk => ?_)
          · refine Eff.setAt' (Eff.setAt' (Eff.grown ?_ hgrow (fun k hk => by cases hk)) _ _) _ _
            repeat (first | exact Eff.refl _ _ | apply Eff.drew | apply Eff.alloc)
          · simp [Value.ownBlock] at hk; omega
end Go.Proofs.Ytoekcknppphnjaa
