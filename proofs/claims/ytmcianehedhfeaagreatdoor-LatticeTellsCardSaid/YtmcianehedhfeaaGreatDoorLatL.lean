/- Package lattice: the tables are laid once; ask; Asked. -/
import Derived.Test.YtmcianehedhfeaaGreatDoorLatK
set_option linter.unusedVariables false
set_option linter.unusedSimpArgs false
namespace Go.Proofs.YtmcianehedhfeaaGreatDoor
open Go.RowKit
/-- The tables lie in blocks of their own. -/
def NmL (w : World) (g : Nat) (v1 v2 : Value) (lv cp : List ByteArray) (d st : Int) (cnt : Int) : Prop := ∃ b1 b2, b1 ≠ g ∧ b2 ≠ g ∧ NmW w g v1 v2 d st (.map (some b1)) (.map (some b2)) cnt ∧ TabAt w b1 (nms lv) lv.length ∧ TabAt w b2 (nms cp) cp.length
theorem NmL.setD {w : World} {g : Nat} {v1 v2 : Value} {lv cp : List ByteArray} {d st : Int} {cnt : Int} (h : NmL w g v1 v2 lv cp d st cnt) (x : Int) : NmL (w.setCell ⟨g, 2, none⟩ (.int .u32 x)) g v1 v2 lv cp x st cnt := by
  obtain ⟨b1, b2, h1, h2, h3, h4, h5⟩ := h
  have e := Eff.setCell (S := (· = g)) (Eff.refl _ w) (p := ⟨g, 2, none⟩) (fun _ => rfl) (.int .u32 x)
  exact ⟨b1, b2, h1, h2, h3.setD x, h4.eff e h1, h5.eff e h2⟩
theorem NmL.setL {w : World} {g : Nat} {v1 v2 : Value} {lv cp : List ByteArray} {d st : Int} {cnt : Int} (h : NmL w g v1 v2 lv cp d st cnt) (x : Int) : NmL (w.setCell ⟨g, 3, none⟩ (.int .i32 x)) g v1 v2 lv cp d x cnt := by
  obtain ⟨b1, b2, h1, h2, h3, h4, h5⟩ := h
  have e := Eff.setCell (S := (· = g)) (Eff.refl _ w) (p := ⟨g, 3, none⟩) (fun _ => rfl) (.int .i32 x)
  exact ⟨b1, b2, h1, h2, h3.setL x, h4.eff e h1, h5.eff e h2⟩
theorem NmL.setC {w : World} {g : Nat} {v1 v2 : Value} {lv cp : List ByteArray} {d st : Int} {cnt : Int} (h : NmL w g v1 v2 lv cp d st cnt) (x : Int) : NmL (w.setCell ⟨g, 7, none⟩ (.int .i64 x)) g v1 v2 lv cp d st x := by
  obtain ⟨b1, b2, h1, h2, h3, h4, h5⟩ := h
  have e := Eff.setCell (S := (· = g)) (Eff.refl _ w) (p := ⟨g, 7, none⟩) (fun _ => rfl) (.int .i64 x)
  exact ⟨b1, b2, h1, h2, h3.setC x, h4.eff e h1, h5.eff e h2⟩
theorem NmL.drew {w : World} {g : Nat} {v1 v2 : Value} {lv cp : List ByteArray} {d st : Int} {cnt : Int} (h : NmL w g v1 v2 lv cp d st cnt) : NmL w.drew g v1 v2 lv cp d st cnt := h
set_option maxRecDepth 100000 in
set_option maxHeartbeats 4000000 in
theorem slow_any (bx g : Nat) (v1 v2 : Value) (lv cp : List ByteArray) (cnt : Int) (w : World) (hbx : w.cell? ⟨bx, 0, none⟩ = some (.pointer (some ⟨g, 0, none⟩))) (hbg : bx ≠ g) (h : NmW w g v1 v2 0 0 (.map none) (.map none) cnt) (s1 : SlB w v1 lv g) (s2 : SlB w v2 cp g) (hok : LatOk (nms lv) (nms cp)) :
    Calls Tryz.prog 60 #[.pointer (some ⟨g, 2, none⟩), .func (.func 48) #[] #[.pointer (some ⟨bx, 0, none⟩)]] w fun e w' => e = .returned (.tuple #[]) ∧ NmL w' g v1 v2 lv cp 1 0 cnt ∧ Eff (· = g) w w' := by
  have h1 := h.setL 1
  have e1 := Eff.setCell (S := (· = g)) (Eff.refl _ w) (p := ⟨g, 3, none⟩) (fun _ => rfl) (.int .i32 1)
  have c1 := lock_free ⟨g, 3, none⟩ w h.cells.2.2.2.1 (h.free 3)
  have cb := bool_any ⟨g, 2, none⟩ 0 (w.setCell ⟨g, 3, none⟩ (.int .i32 1)) h1.cells.2.2.1
  have c2 := lay_any bx g v1 v2 lv cp 0 1 cnt _ (e1.cell hbx hbg) hbg h1 (s1.eff e1) (s2.eff e1) hok
  have hnot : ∀ (x : Bool) (w : World), (Op.unary .not (.bool x)).run Tryz.prog w = .ok (.bool (!x)) w := fun _ _ => rfl
  have H := Lib.hid (And.intro h1 e1)
  clear h h1 e1 s1 s2 hok hbx
  go_enter_defers Tryz.func60, Tryz.ntmps60
  go_wp2_with fail
  refine c1.mono ?_
  rintro e w' ⟨rfl, rfl⟩
  generalize w.setCell ⟨g, 3, none⟩ (.int .i32 1) = w1 at *
  go_wp2_with fail
  refine cb.mono ?_
  rintro e w' ⟨rfl, rfl⟩
  go_wp2_with fail
  refine c2.mono ?_
  rintro e w2 ⟨rfl, ⟨b1, b2, hb1, hb2, hc2, ht1, ht2⟩, he2⟩
  have hg1 := H.out.1.lt
  have hL : NmL w2 g v1 v2 lv cp 0 1 cnt := ⟨b1, b2, by omega, by omega, hc2, ht1, ht2⟩
  have H2 := Lib.hid (And.intro hL he2)
  have x0 := hc2.cells.2.2.1
  have z0 := hc2.free 2
  clear hc2 he2 hL ht1 ht2 hb1 hb2
  go_wp2
  refine leaves_cons (f := 74) (args := #[.pointer (some ⟨g, 2, none⟩), .bool true]) (by simp) (by simp [go_sem]) ?_
  refine (store_deferred ⟨g, 2, none⟩ (.int .u32 0) .returning _ x0 z0).mono ?_
  rintro e u' w'' ⟨rfl, rfl, rfl⟩
  have h3 : NmL (w2.drew.setCell ⟨g, 2, none⟩ (.int .u32 1)) g v1 v2 lv cp 1 1 cnt := H2.out.1.drew.setD 1
  have h3c : (w2.drew.setCell ⟨g, 2, none⟩ (.int .u32 1)).cell? ⟨g, 3, none⟩ = some (.int .i32 1) ∧ (w2.drew.setCell ⟨g, 2, none⟩ (.int .u32 1)).frozen? ⟨g, 3, none⟩ = false := by
    obtain ⟨_, _, _, _, h5, _⟩ := h3
    exact ⟨h5.cells.2.2.2.1, h5.free 3⟩
  refine leaves_cons (f := 73) (args := #[.pointer (some ⟨g, 3, none⟩)]) (by simp [settle]) (by simp [go_sem]) ?_
  refine (unlock_deferred ⟨g, 3, none⟩ _ _ h3c.1 h3c.2).mono ?_
  rintro e u' w'' ⟨rfl, rfl, rfl⟩
  have h4 := h3.setL 0
  have e4 : Eff (· = g) w ((w2.drew.setCell ⟨g, 2, none⟩ (.int .u32 1)).setCell ⟨g, 3, none⟩ (.int .i32 0)) :=
    Eff.setCell (S := (· = g)) (Eff.setCell (S := (· = g)) ((H.out.2.trans H2.out.2).drew) (p := ⟨g, 2, none⟩) (fun _ => rfl) _) (p := ⟨g, 3, none⟩) (fun _ => rfl) _
  have H4 := Lib.hid (And.intro h4 e4)
  simp [Leaves, settle, results, Tryz.results60]
  exact H4.out
set_option maxRecDepth 100000 in
set_option maxHeartbeats 4000000 in
theorem do_first (bx g : Nat) (v1 v2 : Value) (lv cp : List ByteArray) (cnt : Int) (w : World) (hbx : w.cell? ⟨bx, 0, none⟩ = some (.pointer (some ⟨g, 0, none⟩))) (hbg : bx ≠ g) (h : NmW w g v1 v2 0 0 (.map none) (.map none) cnt) (s1 : SlB w v1 lv g) (s2 : SlB w v2 cp g) (hok : LatOk (nms lv) (nms cp)) :
    Calls Tryz.prog 47 #[.pointer (some ⟨g, 2, none⟩), .func (.func 48) #[] #[.pointer (some ⟨bx, 0, none⟩)]] w fun e w' => e = .returned (.tuple #[]) ∧ NmL w' g v1 v2 lv cp 1 0 cnt ∧ Eff (· = g) w w' := by
  have c1 := slow_any bx g v1 v2 lv cp cnt w hbx hbg h s1 s2 hok
  have cb := bool_any ⟨g, 2, none⟩ 0 w h.cells.2.2.1
  have hnot : ∀ (x : Bool) (w : World), (Op.unary .not (.bool x)).run Tryz.prog w = .ok (.bool (!x)) w := fun _ _ => rfl
  clear h s1 s2 hok hbx hbg
  go_enter Tryz.func47, Tryz.ntmps47
  go_wp2_with fail
  refine cb.mono ?_
  rintro e w' ⟨rfl, rfl⟩
  go_wp2_with fail
  refine c1.mono ?_
  rintro e w2 ⟨rfl, hc2, he2⟩
  have H2 := Lib.hid (And.intro hc2 he2)
  clear hc2 he2
  go_wp2
  go_end0
  exact ⟨rfl, H2.out⟩
set_option maxRecDepth 100000 in
set_option maxHeartbeats 4000000 in
theorem do_done (bx g : Nat) (v1 v2 : Value) (lv cp : List ByteArray) (cnt : Int) (w : World) (h : NmL w g v1 v2 lv cp 1 0 cnt) :
    Calls Tryz.prog 47 #[.pointer (some ⟨g, 2, none⟩), .func (.func 48) #[] #[.pointer (some ⟨bx, 0, none⟩)]] w fun e w' => e = .returned (.tuple #[]) ∧ NmL w' g v1 v2 lv cp 1 0 cnt ∧ Eff (· = g) w w' := by
  have cb := bool_any ⟨g, 2, none⟩ 1 w (by obtain ⟨_, _, _, _, h5, _⟩ := h; exact h5.cells.2.2.1)
  have hnot : ∀ (x : Bool) (w : World), (Op.unary .not (.bool x)).run Tryz.prog w = .ok (.bool (!x)) w := fun _ _ => rfl
  have H := Lib.hid h
  clear h
  go_enter Tryz.func47, Tryz.ntmps47
  go_wp2_with fail
  refine cb.mono ?_
  rintro e w' ⟨rfl, rfl⟩
  go_wp2
  go_end0
  exact ⟨rfl, H.out, Eff.refl _ _⟩
theorem NmAt.belowW {w w' : World} {g : Nat} {lv cp : List ByteArray} {cnt : Int} (h : NmAt w g lv cp cnt) (hb : Below w.heap.size w w') : NmAt w' g lv cp cnt := by
  obtain ⟨hok, v1, v2, s1, s2, hh⟩ := h
  refine ⟨hok, v1, v2, s1.below hb, s2.below hb, ?_⟩
  rcases hh with hh | ⟨b1, b2, n1, n2, h3, h4, h5⟩
  · exact .inl (hh.belowW hb)
  · exact .inr ⟨b1, b2, n1, n2, h3.belowW hb, h4.eff (Eff.of_below hb (fun _ => False)) (fun x => x), h5.eff (Eff.of_below hb (fun _ => False)) (fun x => x)⟩
theorem NmAt.cnt {w : World} {g : Nat} {lv cp : List ByteArray} {cnt : Int} (h : NmAt w g lv cp cnt) : w.cell? ⟨g, 7, none⟩ = some (.int .i64 cnt) ∧ w.frozen? ⟨g, 7, none⟩ = false := by
  obtain ⟨hok, v1, v2, s1, s2, hh⟩ := h
  rcases hh with hh | ⟨b1, b2, n1, n2, h3, h4, h5⟩
  · exact ⟨hh.cells.2.2.2.2.2.2.2, hh.free 7⟩
  · exact ⟨h3.cells.2.2.2.2.2.2.2, h3.free 7⟩
theorem NmAt.lt {w : World} {g : Nat} {lv cp : List ByteArray} {cnt : Int} (h : NmAt w g lv cp cnt) : g < w.heap.size := World.block_lt_of_cell? _ _ h.cnt.1
theorem NmAt.setC {w : World} {g : Nat} {lv cp : List ByteArray} {cnt : Int} (h : NmAt w g lv cp cnt) (x : Int) : NmAt (w.setCell ⟨g, 7, none⟩ (.int .i64 x)) g lv cp x := by
  obtain ⟨hok, v1, v2, s1, s2, hh⟩ := h
  have e := Eff.setCell (S := (· = g)) (Eff.refl _ w) (p := ⟨g, 7, none⟩) (fun _ => rfl) (.int .i64 x)
  refine ⟨hok, v1, v2, s1.eff e, s2.eff e, ?_⟩
  rcases hh with hh | hh
  · exact .inl (hh.setC x)
  · obtain ⟨b1, b2, n1, n2, h3⟩ := hh
    exact .inr ⟨b1, b2, n1, n2, h3.1.setC x, h3.2.1.eff e n1, h3.2.2.eff e n2⟩
/-- Names whose tables are laid. -/
structure NmD (w : World) (g : Nat) (lv cp : List ByteArray) (cnt : Int) : Prop where
  ok : LatOk (nms lv) (nms cp)
  at_ : ∃ v1 v2, SlB w v1 lv g ∧ SlB w v2 cp g ∧ NmL w g v1 v2 lv cp 1 0 cnt
theorem NmD.at {w : World} {g : Nat} {lv cp : List ByteArray} {cnt : Int} (h : NmD w g lv cp cnt) : NmAt w g lv cp cnt := by
  obtain ⟨hok, v1, v2, s1, s2, hh⟩ := h
  exact ⟨hok, v1, v2, s1, s2, .inr hh⟩
theorem NmD.belowW {w w' : World} {g : Nat} {lv cp : List ByteArray} {cnt : Int} (h : NmD w g lv cp cnt) (hb : Below w.heap.size w w') : NmD w' g lv cp cnt := by
  obtain ⟨hok, v1, v2, s1, s2, b1, b2, n1, n2, h3, h4, h5⟩ := h
  exact ⟨hok, v1, v2, s1.below hb, s2.below hb, b1, b2, n1, n2, h3.belowW hb, h4.eff (Eff.of_below hb (fun _ => False)) (fun x => x), h5.eff (Eff.of_below hb (fun _ => False)) (fun x => x)⟩
theorem do_any (bx g : Nat) (lv cp : List ByteArray) (cnt : Int) (w : World) (hbx : w.cell? ⟨bx, 0, none⟩ = some (.pointer (some ⟨g, 0, none⟩))) (hbg : bx ≠ g) (h : NmAt w g lv cp cnt) :
    Calls Tryz.prog 47 #[.pointer (some ⟨g, 2, none⟩), .func (.func 48) #[] #[.pointer (some ⟨bx, 0, none⟩)]] w fun e w' => e = .returned (.tuple #[]) ∧ NmD w' g lv cp cnt ∧ Eff (· = g) w w' := by
  obtain ⟨hok, v1, v2, s1, s2, hh⟩ := h
  rcases hh with hh | hh
  · exact (do_first bx g v1 v2 lv cp cnt w hbx hbg hh s1 s2 hok).mono fun e w' ⟨h1, h2, h3⟩ => ⟨h1, ⟨hok, v1, v2, s1.eff h3, s2.eff h3, h2⟩, h3⟩
  · exact (do_done bx g v1 v2 lv cp cnt w hh).mono fun e w' ⟨h1, h2, h3⟩ => ⟨h1, ⟨hok, v1, v2, s1.eff h3, s2.eff h3, h2⟩, h3⟩
set_option maxRecDepth 100000 in
set_option maxHeartbeats 4000000 in
theorem ask_any (g : Nat) (lv cp : List ByteArray) (cnt : Int) (w : World) (h : NmAt w g lv cp cnt) (hc : 0 ≤ cnt ∧ cnt ≤ 1000) :
    Calls Tryz.prog 32 #[.pointer (some ⟨g, 0, none⟩)] w fun e w' => e = .returned (.tuple #[]) ∧ NmD w' g lv cp (cnt + 1) ∧ Eff (· = g) w w' := by
  have hg := h.lt
  have hb1 : Below w.heap.size w (w.alloc (.cells #[.pointer (some ⟨g, 0, none⟩)] 43 (0, 0))) := (Below.refl _ w).alloc (Nat.le_refl _) _
  have hg1 := heap_alloc_new w (.cells #[.pointer (some ⟨g, 0, none⟩)] 43 (0, 0))
  have hn1 := h.belowW hb1
  go_enter Tryz.func32, Tryz.ntmps32
  go_wp2_with fail
  generalize w.alloc (.cells #[.pointer (some ⟨g, 0, none⟩)] 43 (0, 0)) = w1 at *
  refine (add_any ⟨g, 7, none⟩ cnt 1 w1 hn1.cnt.1 hn1.cnt.2 (by omega) (by omega)).mono ?_
  rintro e w2 ⟨rfl, rfl⟩
  have e2 := Eff.setCell (S := (· = g)) (Eff.refl _ w1) (p := ⟨g, 7, none⟩) (fun _ => rfl) (.int .i64 (cnt + 1))
  have hn2 := hn1.setC (cnt + 1)
  have hx2 : (w1.setCell ⟨g, 7, none⟩ (.int .i64 (cnt + 1))).cell? ⟨w.heap.size, 0, none⟩ = some (.pointer (some ⟨g, 0, none⟩)) := e2.cell (by rw [cell_of_row _ _ _ _ _ _ hg1]; rfl) (by show ¬ w.heap.size = g; omega)
  generalize w1.setCell ⟨g, 7, none⟩ (.int .i64 (cnt + 1)) = w2 at *
  have c2 := do_any w.heap.size g lv cp (cnt + 1) w2 hx2 (by omega) hn2
  have H := Lib.hid (And.intro hb1 e2)
  clear hb1 e2 hn1 hn2 hg1 h hg hc
  go_wp2_with fail
  refine c2.mono ?_
  rintro e w3 ⟨rfl, hd, he⟩
  have H3 := Lib.hid (And.intro hd (((Eff.of_below H.out.1 (· = g)).trans H.out.2).trans he))
  clear hd he c2
  go_wp2
  go_end0
  exact ⟨rfl, H3.out⟩
end Go.Proofs.YtmcianehedhfeaaGreatDoor
