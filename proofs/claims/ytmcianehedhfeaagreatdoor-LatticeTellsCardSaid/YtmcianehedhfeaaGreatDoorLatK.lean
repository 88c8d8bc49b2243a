/- Package lattice: the tables are laid; ask. -/
import Derived.Test.YtmcianehedhfeaaGreatDoorLatJ
set_option linter.unusedVariables false
set_option linter.unusedSimpArgs false
namespace Go.Proofs.YtmcianehedhfeaaGreatDoor
open Go.RowKit
def cellOr (W : World) (a : Addr) : Value := (W.cell? a).getD undef
theorem cellOr_of {W : World} {a : Addr} {v : Value} (h : W.cell? a = some v) : W.cell? a = some (cellOr W a) := by unfold cellOr; rw [h]; rfl
/-- What the laying of the tables keeps in mind. -/
def LayS (w : World) (bx g : Nat) (v1 v2 : Value) (W : World) : Prop := W.cell? ⟨bx, 0, none⟩ = some (.pointer (some ⟨g, 0, none⟩)) ∧ W.cell? ⟨g, 0, none⟩ = some v1 ∧ W.cell? ⟨g, 1, none⟩ = some v2 ∧ W.cell? ⟨g, 5, none⟩ = some (cellOr W ⟨g, 5, none⟩) ∧ W.cell? ⟨g, 6, none⟩ = some (cellOr W ⟨g, 6, none⟩) ∧ W.frozen? ⟨g, 5, none⟩ = false ∧ W.frozen? ⟨g, 6, none⟩ = false ∧ Hid (Eff (· = g) w W)
theorem LayS.below {w : World} {bx g : Nat} {v1 v2 : Value} {W W' : World} (h : LayS w bx g v1 v2 W) (hb : Below W.heap.size W W') : LayS w bx g v1 v2 W' := by
  obtain ⟨a, b, c, d, e, f, i, j⟩ := h
  have hg := hb.block g (World.block_lt_of_cell? _ _ b)
  have fz : ∀ k, W'.frozen? ⟨g, k, none⟩ = W.frozen? ⟨g, k, none⟩ := fun k => by unfold World.frozen?; rw [hg]
  exact ⟨(hb.cell (p := ⟨bx, 0, none⟩) (World.block_lt_of_cell? _ _ a)).trans a, (hb.cell (p := ⟨g, 0, none⟩) (World.block_lt_of_cell? _ _ b)).trans b, (hb.cell (p := ⟨g, 1, none⟩) (World.block_lt_of_cell? _ _ c)).trans c,
    cellOr_of ((hb.cell (p := ⟨g, 5, none⟩) (World.block_lt_of_cell? _ _ d)).trans d), cellOr_of ((hb.cell (p := ⟨g, 6, none⟩) (World.block_lt_of_cell? _ _ e)).trans e), (fz 5).trans f, (fz 6).trans i, Lib.hid (j.out.trans (Eff.of_below hb _))⟩
theorem LayS.store {w : World} {bx g : Nat} {v1 v2 : Value} {W : World} (h : LayS w bx g v1 v2 W) (hbg : bx ≠ g) (k : Nat) (hk : k = 5 ∨ k = 6) (v : Value) : LayS w bx g v1 v2 (W.setCell ⟨g, k, none⟩ v) := by
  obtain ⟨a, b, c, d, e, f, i, j⟩ := h
  have ot : ∀ (p : Addr) (x : Value), W.cell? p = some x → ⟨g, k, none⟩ ≠ p → (W.setCell ⟨g, k, none⟩ v).cell? p = some x := fun p x hx hn => (World.cell?_setCell_other W _ _ _ hn).trans hx
  have sm : ∀ (j : Nat), (∃ x, W.cell? ⟨g, j, none⟩ = some x) → ∃ x, (W.setCell ⟨g, k, none⟩ v).cell? ⟨g, j, none⟩ = some x := fun j ⟨x, hx⟩ => by
    by_cases hj : k = j
    · subst hj; exact ⟨_, World.cell?_setCell_same W _ _ hx⟩
    · exact ⟨x, ot _ _ hx (by intro e; cases e; exact hj rfl)⟩
  obtain ⟨_, s5⟩ := sm 5 ⟨_, d⟩
  obtain ⟨_, s6⟩ := sm 6 ⟨_, e⟩
  refine ⟨ot _ _ a (by intro e; cases e; exact hbg rfl), ot _ _ b (by intro e; cases e; omega), ot _ _ c (by intro e; cases e; omega), cellOr_of s5, cellOr_of s6, ?_, ?_, Lib.hid (Eff.setCell (S := (· = g)) j.out (p := ⟨g, k, none⟩) (fun _ => rfl) v)⟩
  · rw [World.frozen?_setCell]; exact f
  · rw [World.frozen?_setCell]; exact i
theorem lay_fin {w w3 w4 : World} {g b1 b2 : Nat} {v1 v2 : Value} {lv cp : List ByteArray} {d st cnt : Int} (hn : NmW w g v1 v2 d st (.map none) (.map none) cnt) (hba : Below w.heap.size w w3) (hbb : Below w3.heap.size w3 w4) (h1 : w.heap.size ≤ b1) (h2 : w3.heap.size ≤ b2) (t1 : TabAt w3 b1 (nms lv) lv.length) (t2 : TabAt w4 b2 (nms cp) cp.length) :
    (∃ c1 c2, w.heap.size ≤ c1 ∧ w.heap.size ≤ c2 ∧ NmW ((w4.setCell ⟨g, 5, none⟩ (.map (some b1))).setCell ⟨g, 6, none⟩ (.map (some b2))) g v1 v2 d st (.map (some c1)) (.map (some c2)) cnt ∧ TabAt ((w4.setCell ⟨g, 5, none⟩ (.map (some b1))).setCell ⟨g, 6, none⟩ (.map (some b2))) c1 (nms lv) lv.length ∧ TabAt ((w4.setCell ⟨g, 5, none⟩ (.map (some b1))).setCell ⟨g, 6, none⟩ (.map (some b2))) c2 (nms cp) cp.length) ∧
    Eff (· = g) w ((w4.setCell ⟨g, 5, none⟩ (.map (some b1))).setCell ⟨g, 6, none⟩ (.map (some b2))) := by
  have hg := hn.lt
  have s := hba.size
  have e := Eff.setCell (S := (· = g)) (Eff.setCell (S := (· = g)) (Eff.refl _ w4) (p := ⟨g, 5, none⟩) (fun _ => rfl) (.map (some b1))) (p := ⟨g, 6, none⟩) (fun _ => rfl) (.map (some b2))
  have n4 := ((hn.belowW hba).belowW hbb).setM (.map (some b1)) |>.setN (.map (some b2))
  exact ⟨⟨b1, b2, h1, by omega, n4, (t1.eff (Eff.of_below hbb (fun _ => False)) (fun x => x)).eff e (by show ¬ b1 = g; omega), t2.eff e (by show ¬ b2 = g; omega)⟩, (Eff.of_below (hba.trans (hbb.mono hba.size)) _).trans e⟩
set_option maxRecDepth 100000 in
set_option maxHeartbeats 4000000 in
/-- What the once does. -/
theorem lay_any (bx g : Nat) (v1 v2 : Value) (lv cp : List ByteArray) (d st : Int) (cnt : Int) (w : World) (hbx : w.cell? ⟨bx, 0, none⟩ = some (.pointer (some ⟨g, 0, none⟩))) (hbg : bx ≠ g) (hn : NmW w g v1 v2 d st (.map none) (.map none) cnt) (h1 : SlB w v1 lv g) (h2 : SlB w v2 cp g) (hok : LatOk (nms lv) (nms cp)) :
    Calls Tryz.prog 48 #[.pointer (some ⟨bx, 0, none⟩)] w fun e w' => e = .returned (.tuple #[]) ∧ (∃ b1 b2, w.heap.size ≤ b1 ∧ w.heap.size ≤ b2 ∧ NmW w' g v1 v2 d st (.map (some b1)) (.map (some b2)) cnt ∧ TabAt w' b1 (nms lv) lv.length ∧ TabAt w' b2 (nms cp) cp.length) ∧ Eff (· = g) w w' := by
  have l1 := hok.l16
  have l2 := hok.c64
  rw [nms_len] at l1 l2
  have sz : ∀ (l : List ByteArray), (∀ x ∈ nms l, nmOk x = true) → ∀ x ∈ l, x.size ≤ 1000 := fun l h x hx => by
    have := (nmOk_len (h _ (List.mem_map.2 ⟨x, hx, rfl⟩))).2
    rw [bsize] at this; omega
  have z1 := sz lv fun x hx => hok.nm x (List.mem_append_left _ hx)
  have z2 := sz cp fun x hx => hok.nm x (List.mem_append_right _ hx)
  have d1 := fun W (hb : W.cell? ⟨bx, 0, none⟩ = some (.pointer (some ⟨g, 0, none⟩)) ∧ W.cell? ⟨g, 0, none⟩ = some v1 ∧ W.cell? ⟨g, 1, none⟩ = some v2 ∧ W.cell? ⟨g, 5, none⟩ = some (cellOr W ⟨g, 5, none⟩) ∧ W.cell? ⟨g, 6, none⟩ = some (cellOr W ⟨g, 6, none⟩) ∧ W.frozen? ⟨g, 5, none⟩ = false ∧ W.frozen? ⟨g, 6, none⟩ = false ∧ Hid (Eff (· = g) w W)) => table_any v1 lv W (h1.eff hb.2.2.2.2.2.2.2.out).1 (by omega) hok.ndl z1
  have d2 := fun W (hb : W.cell? ⟨bx, 0, none⟩ = some (.pointer (some ⟨g, 0, none⟩)) ∧ W.cell? ⟨g, 0, none⟩ = some v1 ∧ W.cell? ⟨g, 1, none⟩ = some v2 ∧ W.cell? ⟨g, 5, none⟩ = some (cellOr W ⟨g, 5, none⟩) ∧ W.cell? ⟨g, 6, none⟩ = some (cellOr W ⟨g, 6, none⟩) ∧ W.frozen? ⟨g, 5, none⟩ = false ∧ W.frozen? ⟨g, 6, none⟩ = false ∧ Hid (Eff (· = g) w W)) => table_any v2 cp W (h2.eff hb.2.2.2.2.2.2.2.out).1 (by omega) hok.ndc z2
  obtain ⟨k0, k1, _, _, _, k5, k6, _⟩ := hn.cells
  have KB : w.drew.cell? ⟨bx, 0, none⟩ = some (.pointer (some ⟨g, 0, none⟩)) ∧ w.drew.cell? ⟨g, 0, none⟩ = some v1 ∧ w.drew.cell? ⟨g, 1, none⟩ = some v2 ∧ w.drew.cell? ⟨g, 5, none⟩ = some (cellOr w.drew ⟨g, 5, none⟩) ∧ w.drew.cell? ⟨g, 6, none⟩ = some (cellOr w.drew ⟨g, 6, none⟩) ∧ w.drew.frozen? ⟨g, 5, none⟩ = false ∧ w.drew.frozen? ⟨g, 6, none⟩ = false ∧ Hid (Eff (· = g) w w.drew) := ⟨hbx, k0, k1, cellOr_of k5, cellOr_of k6, hn.free 5, hn.free 6, Lib.hid (Eff.refl _ w).drew⟩
  have K : ∀ W, (W.cell? ⟨bx, 0, none⟩ = some (.pointer (some ⟨g, 0, none⟩)) ∧ W.cell? ⟨g, 0, none⟩ = some v1 ∧ W.cell? ⟨g, 1, none⟩ = some v2 ∧ W.cell? ⟨g, 5, none⟩ = some (cellOr W ⟨g, 5, none⟩) ∧ W.cell? ⟨g, 6, none⟩ = some (cellOr W ⟨g, 6, none⟩) ∧ W.frozen? ⟨g, 5, none⟩ = false ∧ W.frozen? ⟨g, 6, none⟩ = false ∧ Hid (Eff (· = g) w W)) → ∀ W', Below W.heap.size W W' → (W'.cell? ⟨bx, 0, none⟩ = some (.pointer (some ⟨g, 0, none⟩)) ∧ W'.cell? ⟨g, 0, none⟩ = some v1 ∧ W'.cell? ⟨g, 1, none⟩ = some v2 ∧ W'.cell? ⟨g, 5, none⟩ = some (cellOr W' ⟨g, 5, none⟩) ∧ W'.cell? ⟨g, 6, none⟩ = some (cellOr W' ⟨g, 6, none⟩) ∧ W'.frozen? ⟨g, 5, none⟩ = false ∧ W'.frozen? ⟨g, 6, none⟩ = false ∧ Hid (Eff (· = g) w W')) := fun W h W' h' => LayS.below h h'
  have K5 : ∀ W, (W.cell? ⟨bx, 0, none⟩ = some (.pointer (some ⟨g, 0, none⟩)) ∧ W.cell? ⟨g, 0, none⟩ = some v1 ∧ W.cell? ⟨g, 1, none⟩ = some v2 ∧ W.cell? ⟨g, 5, none⟩ = some (cellOr W ⟨g, 5, none⟩) ∧ W.cell? ⟨g, 6, none⟩ = some (cellOr W ⟨g, 6, none⟩) ∧ W.frozen? ⟨g, 5, none⟩ = false ∧ W.frozen? ⟨g, 6, none⟩ = false ∧ Hid (Eff (· = g) w W)) → ∀ v, ((W.setCell ⟨g, 5, none⟩ v).cell? ⟨bx, 0, none⟩ = some (.pointer (some ⟨g, 0, none⟩)) ∧ (W.setCell ⟨g, 5, none⟩ v).cell? ⟨g, 0, none⟩ = some v1 ∧ (W.setCell ⟨g, 5, none⟩ v).cell? ⟨g, 1, none⟩ = some v2 ∧ (W.setCell ⟨g, 5, none⟩ v).cell? ⟨g, 5, none⟩ = some (cellOr (W.setCell ⟨g, 5, none⟩ v) ⟨g, 5, none⟩) ∧ (W.setCell ⟨g, 5, none⟩ v).cell? ⟨g, 6, none⟩ = some (cellOr (W.setCell ⟨g, 5, none⟩ v) ⟨g, 6, none⟩) ∧ (W.setCell ⟨g, 5, none⟩ v).frozen? ⟨g, 5, none⟩ = false ∧ (W.setCell ⟨g, 5, none⟩ v).frozen? ⟨g, 6, none⟩ = false ∧ Hid (Eff (· = g) w (W.setCell ⟨g, 5, none⟩ v))) := fun W h v => LayS.store h hbg 5 (.inl rfl) v
  have K6 : ∀ W, (W.cell? ⟨bx, 0, none⟩ = some (.pointer (some ⟨g, 0, none⟩)) ∧ W.cell? ⟨g, 0, none⟩ = some v1 ∧ W.cell? ⟨g, 1, none⟩ = some v2 ∧ W.cell? ⟨g, 5, none⟩ = some (cellOr W ⟨g, 5, none⟩) ∧ W.cell? ⟨g, 6, none⟩ = some (cellOr W ⟨g, 6, none⟩) ∧ W.frozen? ⟨g, 5, none⟩ = false ∧ W.frozen? ⟨g, 6, none⟩ = false ∧ Hid (Eff (· = g) w W)) → ∀ v, ((W.setCell ⟨g, 6, none⟩ v).cell? ⟨bx, 0, none⟩ = some (.pointer (some ⟨g, 0, none⟩)) ∧ (W.setCell ⟨g, 6, none⟩ v).cell? ⟨g, 0, none⟩ = some v1 ∧ (W.setCell ⟨g, 6, none⟩ v).cell? ⟨g, 1, none⟩ = some v2 ∧ (W.setCell ⟨g, 6, none⟩ v).cell? ⟨g, 5, none⟩ = some (cellOr (W.setCell ⟨g, 6, none⟩ v) ⟨g, 5, none⟩) ∧ (W.setCell ⟨g, 6, none⟩ v).cell? ⟨g, 6, none⟩ = some (cellOr (W.setCell ⟨g, 6, none⟩ v) ⟨g, 6, none⟩) ∧ (W.setCell ⟨g, 6, none⟩ v).frozen? ⟨g, 5, none⟩ = false ∧ (W.setCell ⟨g, 6, none⟩ v).frozen? ⟨g, 6, none⟩ = false ∧ Hid (Eff (· = g) w (W.setCell ⟨g, 6, none⟩ v))) := fun W h v => LayS.store h hbg 6 (.inr rfl) v
  have HK := Lib.hid K
  have HK5 := Lib.hid K5
  have HK6 := Lib.hid K6
  have HKB := Lib.hid KB
  have HD1 := Lib.hid d1
  have HD2 := Lib.hid d2
  have HN := Lib.hid hn
  clear K KB K5 K6 d1 d2 hn h1 h2 hok k0 k1 k5 k6 l1 l2 z1 z2 sz hbx
  go_enter Tryz.func48, Tryz.ntmps48
  go_region_held3 (fun w' => w'.cell? ⟨bx, 0, none⟩ = some (.pointer (some ⟨g, 0, none⟩)) ∧ w'.cell? ⟨g, 0, none⟩ = some v1 ∧ w'.cell? ⟨g, 1, none⟩ = some v2 ∧ w'.cell? ⟨g, 5, none⟩ = some (cellOr w' ⟨g, 5, none⟩) ∧ w'.cell? ⟨g, 6, none⟩ = some (cellOr w' ⟨g, 6, none⟩) ∧ w'.frozen? ⟨g, 5, none⟩ = false ∧ w'.frozen? ⟨g, 6, none⟩ = false ∧ Hid (Eff (· = g) w w'))
    (first | exact HKB.out | exact HK.out _ (by assumption) _ hba | exact HK.out _ (by assumption) _ hbb | exact HK5.out _ (by assumption) _ | exact HK6.out _ (by assumption) _)
    (first | (go_at_call 49; (with_reducible refine (HD1.out _ (by assumption)).mono ?_); rintro e w3 ⟨b1, rfl, hl1, ht1, hba⟩) | (go_at_call 49; (with_reducible refine (HD2.out _ (by assumption)).mono ?_); rintro e w4 ⟨b2, rfl, hl2, ht2, hbb⟩))
  have HF := Lib.hid (lay_fin HN.out (below_undrew hba) hbb hl1 hl2 ht1 ht2)
  clear hl1 hl2 ht1 ht2 hba hbb
  go_end0
  exact ⟨rfl, HF.out⟩
end Go.Proofs.YtmcianehedhfeaaGreatDoor
