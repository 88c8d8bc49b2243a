/- Package lattice: Names in memory; New; ask. -/
import Derived.Test.YtmcianehedhfeaaGreatDoorLatH
import Derived.Test.YtmcianehedhfeaaGreatDoorLatI
import Derived.Test.YtmcianehedhfeaaGreatDoorOnc
import Derived.Deep.RegionHeld3
set_option linter.unusedVariables false
set_option linter.unusedSimpArgs false
namespace Go.Proofs.YtmcianehedhfeaaGreatDoor
open Go.RowKit
/-- Names in block g: d says whether the tables are laid; st: its lock; cnt: how often it was asked. -/
def nmc (v1 v2 : Value) (d st : Int) (m1 m2 : Value) (cnt : Int) : Array Value := #[v1, v2, .int .u32 d, .int .i32 st, .int .u32 0, m1, m2, .int .i64 cnt]
def NmW (w : World) (g : Nat) (v1 v2 : Value) (d st : Int) (m1 m2 : Value) (cnt : Int) : Prop := w.heap[g]? = some (.cells (nmc v1 v2 d st m1 m2 cnt) 74 (0, 0))
theorem NmW.cells {w : World} {g : Nat} {v1 v2 : Value} {d st : Int} {m1 m2 : Value} {cnt : Int} (h : NmW w g v1 v2 d st m1 m2 cnt) :
    w.cell? ⟨g, 0, none⟩ = some v1 ∧ w.cell? ⟨g, 1, none⟩ = some v2 ∧ w.cell? ⟨g, 2, none⟩ = some (.int .u32 d) ∧ w.cell? ⟨g, 3, none⟩ = some (.int .i32 st) ∧ w.cell? ⟨g, 4, none⟩ = some (.int .u32 0) ∧ w.cell? ⟨g, 5, none⟩ = some m1 ∧ w.cell? ⟨g, 6, none⟩ = some m2 ∧ w.cell? ⟨g, 7, none⟩ = some (.int .i64 cnt) := by
  unfold NmW nmc at h
  refine ⟨?_, ?_, ?_, ?_, ?_, ?_, ?_, ?_⟩ <;> (rw [cell_of_row _ _ _ _ _ _ h]; rfl)
theorem NmW.free {w : World} {g : Nat} {v1 v2 : Value} {d st : Int} {m1 m2 : Value} {cnt : Int} (h : NmW w g v1 v2 d st m1 m2 cnt) (k : Nat) : w.frozen? ⟨g, k, none⟩ = false := frozen_of_row _ _ _ _ _ h
theorem NmW.setD {w : World} {g : Nat} {v1 v2 : Value} {d st : Int} {m1 m2 : Value} {cnt : Int} (h : NmW w g v1 v2 d st m1 m2 cnt) (x : Int) : NmW (w.setCell ⟨g, 2, none⟩ (.int .u32 x)) g v1 v2 x st m1 m2 cnt := setCell_heap h 2 _
theorem NmW.setL {w : World} {g : Nat} {v1 v2 : Value} {d st : Int} {m1 m2 : Value} {cnt : Int} (h : NmW w g v1 v2 d st m1 m2 cnt) (x : Int) : NmW (w.setCell ⟨g, 3, none⟩ (.int .i32 x)) g v1 v2 d x m1 m2 cnt := setCell_heap h 3 _
theorem NmW.setM {w : World} {g : Nat} {v1 v2 : Value} {d st : Int} {m1 m2 : Value} {cnt : Int} (h : NmW w g v1 v2 d st m1 m2 cnt) (x : Value) : NmW (w.setCell ⟨g, 5, none⟩ x) g v1 v2 d st x m2 cnt := setCell_heap h 5 _
theorem NmW.setN {w : World} {g : Nat} {v1 v2 : Value} {d st : Int} {m1 m2 : Value} {cnt : Int} (h : NmW w g v1 v2 d st m1 m2 cnt) (x : Value) : NmW (w.setCell ⟨g, 6, none⟩ x) g v1 v2 d st m1 x cnt := setCell_heap h 6 _
theorem NmW.setC {w : World} {g : Nat} {v1 v2 : Value} {d st : Int} {m1 m2 : Value} {cnt : Int} (h : NmW w g v1 v2 d st m1 m2 cnt) (x : Int) : NmW (w.setCell ⟨g, 7, none⟩ (.int .i64 x)) g v1 v2 d st m1 m2 x := setCell_heap h 7 _
theorem NmW.lt {w : World} {g : Nat} {v1 v2 : Value} {d st : Int} {m1 m2 : Value} {cnt : Int} (h : NmW w g v1 v2 d st m1 m2 cnt) : g < w.heap.size := lt_of_block h
theorem NmW.belowW {w w' : World} {g : Nat} {v1 v2 : Value} {d st : Int} {m1 m2 : Value} {cnt : Int} (h : NmW w g v1 v2 d st m1 m2 cnt) (hb : Below w.heap.size w w') : NmW w' g v1 v2 d st m1 m2 cnt := (hb.block g h.lt).trans h
/-- A slice of texts that does not lie in block g. -/
def SlB (w : World) (v : Value) (l : List ByteArray) (g : Nat) : Prop := SlIn w v l ∧ ∀ a n c, v = .slice (some a) n c → a.block ≠ g
theorem SlB.eff {w w' : World} {v : Value} {l : List ByteArray} {g : Nat} (h : SlB w v l g) (he : Eff (· = g) w w') : SlB w' v l g := by
  obtain ⟨⟨A, c, rfl, h1, h2⟩, h3⟩ := h
  refine ⟨⟨A, c, rfl, ⟨h1.len, h1.max, fun hn => ?_⟩, h2⟩, h3⟩
  obtain ⟨b, off, e, hc⟩ := h1.cells hn
  refine ⟨b, off, e, fun j hj => he.cell (p := ⟨b, off + j, none⟩) (hc j hj) ?_⟩
  show b ≠ g
  exact h3 ⟨b, off, none⟩ _ _ (by rw [e])
theorem SlB.below {w w' : World} {v : Value} {l : List ByteArray} {g : Nat} (h : SlB w v l g) (hb : Below w.heap.size w w') : SlB w' v l g := ⟨h.1.below hb, h.2⟩
theorem SSo.slB {w : World} {base : Nat} {v : Value} {l : List ByteArray} {g : Nat} (h : SSo w base v l) (hg : w.heap.size ≤ g) : SlB w v l g := by
  refine ⟨h.slIn, fun a n c hv => ?_⟩
  have := (World.ownsRow.lt h a.block (by rw [hv]; rfl)).2
  omega
/-- Names as its makers leave it: new, or its tables laid. -/
structure NmAt (w : World) (g : Nat) (lv cp : List ByteArray) (cnt : Int) : Prop where
  ok : LatOk (nms lv) (nms cp)
  at_ : ∃ v1 v2, SlB w v1 lv g ∧ SlB w v2 cp g ∧ (NmW w g v1 v2 0 0 (.map none) (.map none) cnt ∨ ∃ b1 b2, b1 ≠ g ∧ b2 ≠ g ∧ NmW w g v1 v2 1 0 (.map (some b1)) (.map (some b2)) cnt ∧ TabAt w b1 (nms lv) lv.length ∧ TabAt w b2 (nms cp) cp.length)
set_option maxRecDepth 100000 in
set_option maxHeartbeats 2000000 in
theorem new_no (v1 v2 : Value) (lv cp : List ByteArray) (w : World) (h1 : SlIn w v1 lv) (h2 : SlIn w v2 cp) (hm : lv.length ≤ 9223372036854775807 ∧ cp.length ≤ 9223372036854775807) (hR : latR (nms lv) (nms cp) = false) :
    Calls Tryz.prog 20 #[.agg #[v1, v2]] w fun e w' => e = .returned (.tuple #[.pointer none, .int .i64 2]) ∧ Below w.heap.size w w' := by
  have c1 := fun W (hb : Below w.heap.size w W) => right_any v1 v2 lv cp W (h1.below hb) (h2.below hb) hm
  rw [hR] at c1
  obtain ⟨A, c, rfl, _, _⟩ := id h1
  obtain ⟨B, q, rfl, _, _⟩ := id h2
  clear h1 h2 hR hm
  have hb1 : Below w.heap.size w (w.alloc (.cells #[.slice A lv.length c, .slice B cp.length q] 24 (0, 0))) := (Below.refl _ w).alloc (Nat.le_refl _) _
  have c1 := c1 _ hb1
  generalize lv.length = n at *
  generalize cp.length = k at *
  have HB := Lib.hid hb1
  clear hb1
  go_enter Tryz.func20, Tryz.ntmps20
  go_wp2_with fail
  generalize w.alloc (.cells #[.slice A n c, .slice B k q] 24 (0, 0)) = w1 at *
  refine c1.mono ?_
  rintro e w2 ⟨rfl, hb2⟩
  have H2 := Lib.hid (HB.out.trans (hb2.mono HB.out.size))
  clear hb2 c1
  go_wp2
  go_ret2
  exact ⟨rfl, H2.out⟩
theorem SSo.belowB {w w' : World} {base : Nat} {v : Value} {l : List ByteArray} (h : SSo w base v l) (hb : Below w.heap.size w w') : SSo w' base v l := by
  refine ⟨h.1, ?_⟩
  rcases h.2 with hn | ⟨g, cap, cur, hv, hg, hh, r⟩
  · exact .inl hn
  · exact .inr ⟨g, cap, cur, hv, hg, (hb.block g (lt_of_block hh)).trans hh, r⟩
theorem new_fin {w w4 : World} {b1 b2 : Nat} {va vb : Value} {lv cp : List ByteArray} (hok : LatOk (nms lv) (nms cp)) (h1 : SSo w4 b1 va lv) (h2 : SSo w4 b2 vb cp) (hb : Below w.heap.size w w4) :
    w.heap.size ≤ w4.heap.size ∧ NmAt (w4.alloc (.cells (nmc va vb 0 0 (.map none) (.map none) 0) 74 (0, 0))) w4.heap.size lv cp 0 ∧ Below w.heap.size w (w4.alloc (.cells (nmc va vb 0 0 (.map none) (.map none) 0) 74 (0, 0))) := by
  refine ⟨hb.size, ⟨hok, va, vb, ?_, ?_, .inl (heap_alloc_new _ _)⟩, hb.alloc hb.size _⟩
  · exact (h1.slB (Nat.le_refl _)).below ((Below.refl _ w4).alloc (Nat.le_refl _) _)
  · exact (h2.slB (Nat.le_refl _)).below ((Below.refl _ w4).alloc (Nat.le_refl _) _)
theorem clone_sl (v : Value) (l : List ByteArray) (w : World) (h : SlIn w v l) (hs : l.length ≤ 100) :
    Calls Tryz.prog 31 #[v] w fun e w' => ∃ A c, e = .returned (.slice A l.length c) ∧ SSo w' w.heap.size (.slice A l.length c) l ∧ Below w.heap.size w w' :=
  (clone_any v l w h hs).mono fun e w' ⟨v', h1, h2, h3⟩ => by
    obtain ⟨A, c, rfl, _⟩ := h2.in_
    exact ⟨A, c, h1, h2, h3⟩
set_option maxRecDepth 100000 in
set_option maxHeartbeats 4000000 in
theorem new_ok (v1 v2 : Value) (lv cp : List ByteArray) (w : World) (h1 : SlIn w v1 lv) (h2 : SlIn w v2 cp) (hok : LatOk (nms lv) (nms cp)) :
    Calls Tryz.prog 20 #[.agg #[v1, v2]] w fun e w' => ∃ g, e = .returned (.tuple #[.pointer (some ⟨g, 0, none⟩), .int .i64 0]) ∧ w.heap.size ≤ g ∧ NmAt w' g lv cp 0 ∧ Below w.heap.size w w' := by
  have l1 := hok.l16
  have l2 := hok.c64
  rw [nms_len] at l1 l2
  have c1 := fun W (hb : Below w.heap.size w W) => right_any v1 v2 lv cp W (h1.below hb) (h2.below hb) (by omega)
  rw [(latR_iff _ _).2 hok] at c1
  have d1 := fun W (hb : W.cell? ⟨w.heap.size, 0, none⟩ = some v1 ∧ W.cell? ⟨w.heap.size, 1, none⟩ = some v2 ∧ Hid (Below w.heap.size w W)) => clone_sl v1 lv W (h1.below hb.2.2.out) (by omega)
  have d2 := fun W (hb : W.cell? ⟨w.heap.size, 0, none⟩ = some v1 ∧ W.cell? ⟨w.heap.size, 1, none⟩ = some v2 ∧ Hid (Below w.heap.size w W)) => clone_sl v2 cp W (h2.below hb.2.2.out) (by omega)
  have HOK := Lib.hid hok
  clear hok h1 h2 l1 l2
  have hb1 : Below w.heap.size w (w.alloc (.cells #[v1, v2] 24 (0, 0))) := (Below.refl _ w).alloc (Nat.le_refl _) _
  have hg1 := heap_alloc_new w (.cells #[v1, v2] 24 (0, 0))
  have c1 := c1 _ hb1
  go_enter Tryz.func20, Tryz.ntmps20
  go_wp2_with fail
  generalize w.alloc (.cells #[v1, v2] 24 (0, 0)) = w1 at *
  refine c1.mono ?_
  rintro e w2 ⟨rfl, hb2⟩
  have hg2 := (hb2.block _ (lt_of_block hg1)).trans hg1
  have hbw2 := hb1.trans (hb2.mono hb1.size)
  have KB : w2.drew.cell? ⟨w.heap.size, 0, none⟩ = some v1 ∧ w2.drew.cell? ⟨w.heap.size, 1, none⟩ = some v2 ∧ Hid (Below w.heap.size w w2.drew) := ⟨by rw [show w2.drew.cell? ⟨w.heap.size, 0, none⟩ = w2.cell? ⟨w.heap.size, 0, none⟩ from rfl, cell_of_row _ _ _ _ _ _ hg2]; rfl, by rw [show w2.drew.cell? ⟨w.heap.size, 1, none⟩ = w2.cell? ⟨w.heap.size, 1, none⟩ from rfl, cell_of_row _ _ _ _ _ _ hg2]; rfl, Lib.hid hbw2.drew⟩
  have K : ∀ W, (W.cell? ⟨w.heap.size, 0, none⟩ = some v1 ∧ W.cell? ⟨w.heap.size, 1, none⟩ = some v2 ∧ Hid (Below w.heap.size w W)) → ∀ W', Below W.heap.size W W' → (W'.cell? ⟨w.heap.size, 0, none⟩ = some v1 ∧ W'.cell? ⟨w.heap.size, 1, none⟩ = some v2 ∧ Hid (Below w.heap.size w W')) := fun W h W' h' =>
    ⟨(h'.cell (p := ⟨w.heap.size, 0, none⟩) (World.block_lt_of_cell? _ _ h.1)).trans h.1, (h'.cell (p := ⟨w.heap.size, 1, none⟩) (World.block_lt_of_cell? _ _ h.2.1)).trans h.2.1, Lib.hid (h.2.2.out.trans (h'.mono h.2.2.out.size))⟩
  have KA : ∀ W, (W.cell? ⟨w.heap.size, 0, none⟩ = some v1 ∧ W.cell? ⟨w.heap.size, 1, none⟩ = some v2 ∧ Hid (Below w.heap.size w W)) → ∀ o, ((W.alloc o).cell? ⟨w.heap.size, 0, none⟩ = some v1 ∧ (W.alloc o).cell? ⟨w.heap.size, 1, none⟩ = some v2 ∧ Hid (Below w.heap.size w (W.alloc o))) := fun W h o => K W h _ ((Below.refl _ W).alloc (Nat.le_refl _) o)
  have HK := Lib.hid K
  have HKA := Lib.hid KA
  have HKB := Lib.hid KB
  have HD1 := Lib.hid d1
  have HD2 := Lib.hid d2
  have HB2 := Lib.hid hbw2
  clear hb2 c1 hb1 hg1 hg2 K KA KB d1 d2 hbw2
  go_wp2_with fail
  go_region_held3 (fun w' => w'.cell? ⟨w.heap.size, 0, none⟩ = some v1 ∧ w'.cell? ⟨w.heap.size, 1, none⟩ = some v2 ∧ Hid (Below w.heap.size w w'))
    (first | exact HKB.out | exact HK.out _ (by assumption) _ hba | exact HK.out _ (by assumption) _ hbb | exact HKA.out _ (by assumption) _)
    (first | (go_at_call 31; refine (HD1.out _ (by assumption)).mono ?_; rintro e w3 ⟨A1, p1, rfl, ho1, hba⟩) | (go_at_call 31; refine (HD2.out _ (by assumption)).mono ?_; rintro e w4 ⟨A2, p2, rfl, ho2, hbb⟩))
  · have HF := Lib.hid (new_fin HOK.out (ho1.belowB hbb) ho2 (((HB2.out.drew).trans (hba.mono HB2.out.size)).trans (hbb.mono (Nat.le_trans HB2.out.size hba.size))))
    clear ho1 ho2 hba hbb
    go_wp2
    go_ret2
    exact ⟨_, rfl, HF.out⟩
end Go.Proofs.YtmcianehedhfeaaGreatDoor
