/- Package lattice: slices.Clone of texts; table. -/
import Derived.Test.YtmcianehedhfeaaGreatDoorLatG
import Derived.Test.YtmcianehedhfeaaGreatDoorLatB
import Derived.Maps.OwnSet
import Derived.StringKeys
import Derived.Carry
import Derived.WalkArith
set_option linter.unusedVariables false
set_option linter.unusedSimpArgs false
namespace Go.Proofs.YtmcianehedhfeaaGreatDoor
open Go.RowKit Go.Maps
theorem clone_any (v : Value) (l : List ByteArray) (w : World) (h : SlIn w v l) (hs : l.length ≤ 100) :
    Calls Tryz.prog 31 #[v] w fun e w' => ∃ v', e = .returned v' ∧ SSo w' w.heap.size v' l ∧ Below w.heap.size w w' := by
  obtain ⟨A, c, rfl, hA, hA0⟩ := h
  cases A with
  | none =>
    have hm : l.length = 0 := by
      rcases Nat.eq_zero_or_pos l.length with h0 | h0
      · exact h0
      · obtain ⟨b, off, hA, _⟩ := hA.cells h0; cases hA
    obtain rfl := List.eq_nil_of_length_eq_zero hm
    exact (Tryz.slices_Clone_string_nil _ c w).mono fun e w' ⟨h1, h2⟩ => ⟨_, h1, by rw [h2]; exact SSo.nil _ _, by rw [h2]; exact Below.refl _ _⟩
  | some a =>
    rcases Nat.eq_zero_or_pos l.length with h0 | h0
    · obtain rfl := List.eq_nil_of_length_eq_zero h0
      exact (Tryz.slices_Clone_string_zero a c w).mono fun e w' ⟨v', h1, h2, _, h3⟩ => ⟨v', h1, h2, h3⟩
    · obtain ⟨b, off, hA1, hc⟩ := hA.cells h0
      cases hA1
      exact (Tryz.slices_Clone_string b off l.length c l w (Nat.le_refl _) (by omega) (fun j hj => by rw [hc j hj]; rfl)).mono fun e w' ⟨v', h1, h2, _, h3⟩ => ⟨v', h1, by unfold SSo; rwa [List.take_length] at h2, h3⟩
theorem nms_get {l : List ByteArray} {k : Nat} (h : k < l.length) (h' : k < (nms l).length) : (nms l)[k]'h' = l[k].data.toList := List.getElem_map ..
/-- A map from the first k names to their numbers, and from nothing else. -/
structure TabD (D : DataW Unit) (N : List Bs) (k : Nat) : Prop where
  is : IsMap D
  hit : ∀ j (h : j < N.length), j < k → D.atKey (.string N[j]) (.lit (.int .i64 0)) = .lit (.int .i64 j) ∧ Maps.has D (.string N[j]) = true
  miss : ∀ x : Bs, x ∉ N.take k → Maps.has D (.string x) = false
theorem TabD.zero (N : List Bs) : TabD (.map []) N 0 := ⟨isMap_empty, fun j _ h => absurd h (Nat.not_lt_zero _), fun x _ => rfl⟩
theorem TabD.next {D : DataW Unit} {N : List Bs} {k : Nat} (h : TabD D N k) (hd : N.Nodup) (hk : k < N.length) : TabD (D.put (.string N[k]) (.lit (.int .i64 k))) N (k + 1) := by
  have hne : ∀ {x y : Bs}, x ≠ y → (Lit.string x) ≠ (Lit.string y) := fun hx e => hx (by cases e; rfl)
  refine ⟨h.is.put _ _, fun j hj hjk => ?_, fun x hx => ?_⟩
  · by_cases e : j = k
    · subst e
      exact ⟨atKey_put_same h.is (show WideAt.IsKeyLit (.string N[j]) from trivial) _ _, has_put_same h.is (show WideAt.IsKeyLit (.string N[j]) from trivial) _⟩
    · have hx : N[j] ≠ N[k] := fun e' => e (nd_inj hd hj hk e')
      rw [atKey_put_other (hne hx), has_put_other (hne hx)]
      exact h.hit j hj (by omega)
  · rw [List.take_succ_eq_append_getElem hk] at hx
    have h1 : x ∉ N.take k := fun h' => hx (List.mem_append_left _ h')
    have h2 : x ≠ N[k] := fun h' => hx (by rw [h']; exact List.mem_append_right _ (List.mem_singleton.2 rfl))
    rw [has_put_other (hne h2)]
    exact h.miss x h1
def TabAt (w : World) (b : Nat) (N : List Bs) (k : Nat) : Prop := ∃ (D : DataW Unit), w.ownsMap Tryz.prog 9 (plainElem Tryz.prog 3) b k D ∧ TabD D N k
theorem TabAt.lt {w : World} {b : Nat} {N : List Bs} {k : Nat} (h : TabAt w b N k) : b < w.heap.size := by
  obtain ⟨D, h1, _⟩ := h
  exact h1.lt
theorem TabAt.eff {w w' : World} {b : Nat} {N : List Bs} {k : Nat} (h : TabAt w b N k) {S : Nat → Prop} (he : Eff S w w') (hn : ¬ S b) : TabAt w' b N k := by
  obtain ⟨D, ⟨es, clock, hb, r⟩, h2⟩ := h
  exact ⟨D, ⟨es, clock, he.heap hb hn, r⟩, h2⟩
/-- Look-up of a name in a whole table. -/
theorem TabD.look {D : DataW Unit} {N : List Bs} (h : TabD D N N.length) (x : Bs) : (∃ j, ix N x = some j ∧ D.atKey (.string x) (.lit (.int .i64 0)) = .lit (.int .i64 (j : Int)) ∧ Maps.has D (.string x) = true) ∨ (ix N x = none ∧ Maps.has D (.string x) = false) := by
  cases hx : ix N x with
  | none => right; exact ⟨rfl, h.miss x (by rw [List.take_length]; exact ix_none.1 hx)⟩
  | some j =>
    left
    obtain ⟨hj, rfl⟩ := ix_some hx
    exact ⟨j, rfl, h.hit j hj hj⟩
theorem law_str : Keyed Tryz.prog 9 := string_keyed Tryz.underlying9
set_option maxRecDepth 100000 in
set_option maxHeartbeats 2000000 in
theorem table_any (v : Value) (l : List ByteArray) (w : World) (h : SlIn w v l) (hs : l.length ≤ 100) (hd : (nms l).Nodup) (hz : ∀ x ∈ l, x.size ≤ 1000) :
    Calls Tryz.prog 49 #[v] w fun e w' => ∃ b, e = .returned (.map (some b)) ∧ w.heap.size ≤ b ∧ TabAt w' b (nms l) l.length ∧ Below w.heap.size w w' := by
  obtain ⟨A, c, rfl, hA, hA0⟩ := h
  have hmm := @run_makeMap Tryz.prog
  generalize hn : l.length = n at *
  have hn0 : (0 : Int) ≤ (n : Int) := by omega
  have hni : (n : Int) ≤ 100 := by omega
  have H := Lib.hid (And.intro hA (And.intro hd (And.intro hz hn)))
  have hm0 := World.ownsMap_made (H := Unit) w Tryz.prog 9 (plainElem Tryz.prog 3)
  have hb0 : Below w.heap.size w (w.alloc (.map #[] 0)) := (Below.refl _ w).alloc (Nat.le_refl _) _
  have hgt : w.heap.size < (w.alloc (.map #[] 0)).heap.size := hm0.lt
  clear hA hA0 hd hz hn
  go_enter Tryz.func49, Tryz.ntmps49
  go_wp2
  generalize w.alloc (.map #[] 0) = w1 at *
  go_loopw [9] (fun i wr => ∃ k : Nat, k ≤ n ∧ i = .int .i64 k ∧ TabAt wr w.heap.size (nms l) k ∧ Below w.heap.size w wr) (fun i _ => n - (intOf i).toNat)
  case atStart => exact ⟨0, Nat.zero_le _, rfl, ⟨_, hm0, TabD.zero _⟩, hb0⟩
  case round =>
    obtain ⟨k, hk, rfl, ⟨D, hown, hT⟩, hbl⟩ := hrel
    obtain ⟨hA, hd, hz, hn⟩ := H.out
    have hk0 : (0 : Int) ≤ (k : Int) := by omega
    by_cases hkn : k < n
    · have hki : (k : Int) < (n : Int) := by omega
      obtain ⟨b, off, rfl, hc⟩ := (hA.below hbl).cells (by omega)
      have hcell := hc k hkn
      have hkl : k < l.length := by omega
      have hx : str l k = l[k] := by unfold str; rw [List.getD_eq_getElem?_getD, List.getElem?_eq_getElem hkl]; rfl
      have hxz : (str l k).size ≤ 1000 := by rw [hx]; exact hz _ (List.getElem_mem hkl)
      have hkN : k < (nms l).length := by rw [nms_len]; exact hkl
      have hget : (nms l)[k] = (str l k).data.toList := by rw [hx]; exact nms_get hkl hkN
      have hnx := hT.next hd hkN
      rw [hget] at hnx
      generalize str l k = x at *
      have hkey := Go.WideMaps.keyOf_string_mk (P := Tryz.prog) (k := 9) Tryz.underlying9 (s := x) (by unfold maxLen; omega)
      have hval := plainElem_int (H := Unit) (P := Tryz.prog) (e := 3) Tryz.underlying3 (a := (k : Int)) (Go.WalkArith.wf_i64 (by omega))
      have HN := Lib.hid (And.intro hnx hbl)
      clear hA hd hz hn hc hx hxz hget hnx hT hbl hm0 hb0 hkl hkN
      go_wp2_with (at_mapUpdate; refine wpList_mapUpdate_own _ rfl _ _ _ 69 rfl 9 3 law_str Tryz.underlying69 _ w.heap.size k D rfl hown (by unfold maxLen; omega) _ _ _ rfl rfl hkey _ [] hval ?_)
      intro w3 hown3 hgrow3
      have H3 := Lib.hid (And.intro hown3 (HN.out.2.grown hgrow3 HN.out.2.size (fun k hk => by have := Option.some.inj hk; omega)))
      clear hown3 hgrow3 hown hcell
      go_wp2
      go_roundw
      case rel => exact ⟨k + 1, by omega, by go_num, ⟨_, H3.out.1, HN.out.1⟩, H3.out.2⟩
      case measure => simp [intOf]; omega
    · have hkE : k = n := by omega
      have hki : ¬ (k : Int) < (n : Int) := by omega
      subst hkE
      have HN := Lib.hid (And.intro (⟨D, hown, hT⟩ : TabAt wr w.heap.size (nms l) k) hbl)
      clear hown hT hbl hA hd hz hn
      go_wp2
      go_ret
      exact ⟨w.heap.size, rfl, Nat.le_refl _, HN.out.1, HN.out.2⟩
end Go.Proofs.YtmcianehedhfeaaGreatDoor
