/- Package frame: the framer's small methods. -/
import Derived.Test.YteiepgbdngamiaaDoorFrmF
set_option linter.unusedVariables false
set_option linter.unusedSimpArgs false
namespace Go.Proofs.YteiepgbdngamiaaDoor
open Go.RowKit
def last13 (r : List UInt8) : Bool := decide (r.getLast? = some 13)
/-- A framer in memory: its struct is block g; v holds what matters of what waits. -/
structure FrAt (w : World) (g B : Nat) (v : Value) (r : List UInt8) (fed : Int) : Prop where
  mem : w.heap[g]? = some (.cells #[v, .int .i64 r.length, .bool (last13 r), .int .i64 fed] 60 (0, 0))
  own : BS w B v (r.take 999)
theorem FrAt.cell {w : World} {g B : Nat} {v : Value} {r : List UInt8} {fed : Int} (h : FrAt w g B v r fed) :
    w.cell? ⟨g, 0, none⟩ = some v ∧ w.cell? ⟨g, 1, none⟩ = some (.int .i64 r.length) ∧ w.cell? ⟨g, 2, none⟩ = some (.bool (last13 r)) ∧ w.cell? ⟨g, 3, none⟩ = some (.int .i64 fed) := by
  refine ⟨?_, ?_, ?_, ?_⟩ <;> rw [cell_of_row _ _ _ _ _ _ h.mem] <;> rfl
theorem FrAt.free {w : World} {g B : Nat} {v : Value} {r : List UInt8} {fed : Int} (h : FrAt w g B v r fed) (i : Nat) : w.frozen? ⟨g, i, none⟩ = false := frozen_of_row _ _ _ _ _ h.mem
theorem load_any (a : Addr) (v : Int) (w : World) (hc : w.cell? a = some (.int .i64 v)) :
    Calls Tryd.prog 24 #[.pointer (some a)] w fun e w' => e = .returned (.int .i64 v) ∧ w = w' := by
  have hl := run_call_load (P := Tryd.prog) Tryd.func33 (by kernel_rfl) (by kernel_rfl) (by kernel_rfl) .i64 (by kernel_rfl) hc
  go_enter Tryd.func24, Tryd.ntmps24
  go_wp2
  go_ret
  exact ⟨rfl, rfl⟩
theorem add_any (a : Addr) (v d : Int) (w : World) (hc : w.cell? a = some (.int .i64 v)) (hf : w.frozen? a = false) (h1 : -9223372036854775808 ≤ v + d) (h2 : v + d ≤ 9223372036854775807) :
    Calls Tryd.prog 23 #[.pointer (some a), .int .i64 d] w fun e w' => e = .returned (.int .i64 (v + d)) ∧ w.setCell a (.int .i64 (v + d)) = w' := by
  have hs : IntKind.i64.wrap (v + d) = v + d := IntWalk.i64_in _ (by omega)
  have hl := run_call_add (P := Tryd.prog) Tryd.func32 (by kernel_rfl) (by kernel_rfl) (by kernel_rfl) .i64 (by kernel_rfl) (y := d) (s := v + d) hc hf (by simp [go_sem, hs])
  clear hs
  go_enter Tryd.func23, Tryd.ntmps23
  go_wp2
  go_ret
  exact ⟨rfl, rfl⟩
theorem new_any (w : World) : Calls Tryd.prog 11 #[] w fun e w' => e = .returned (.pointer (some ⟨w.heap.size, 0, none⟩)) ∧ FrAt w' w.heap.size w.heap.size (.slice none 0 0) [] 0 ∧ Below w.heap.size w w' := by
  go_enter Tryd.func11, Tryd.ntmps11
  go_wp2
  go_ret
  refine ⟨rfl, ⟨heap_alloc_new _ _, BS.nil _ _⟩, (Below.refl _ _).alloc (Nat.le_refl _) _⟩
theorem waiting_any (g B : Nat) (v : Value) (r : List UInt8) (fed : Int) (w : World) (h : FrAt w g B v r fed) (hr : r.length ≤ 1000000000) :
    Calls Tryd.prog 15 #[.pointer (some ⟨g, 0, none⟩)] w fun e w' => e = .returned (.int .i64 (min r.length 999 : Nat)) ∧ w = w' := by
  have h1 := h.cell.2.1
  clear h
  rcases Nat.le_total r.length 999 with hl | hl
  all_goals
    have hi : (r.length : Int) ≤ 1000000000 := by omega
    go_enter Tryd.func15, Tryd.ntmps15
    go_wp2
    go_ret
    exact ⟨ret_int (by omega), rfl⟩
theorem fed_any (g B : Nat) (v : Value) (r : List UInt8) (fed : Int) (w : World) (h : FrAt w g B v r fed) :
    Calls Tryd.prog 16 #[.pointer (some ⟨g, 0, none⟩)] w fun e w' => e = .returned (.int .i64 fed) ∧ w = w' := by
  have c1 := load_any _ _ w h.cell.2.2.2
  clear h
  go_enter Tryd.func16, Tryd.ntmps16
  go_wp2_with (go_at_call 24; refine c1.mono ?_; rintro e w' ⟨rfl, rfl⟩)
  go_ret
  exact ⟨rfl, rfl⟩
theorem BS.eff {w w' : World} {base : Nat} {v : Value} {l : List UInt8} (h : BS w base v l) {S : Nat → Prop} (he : Eff S w w') (hn : ∀ k, v.ownBlock = some k → ¬ S k) : BS w' base v l := Eff.own he h hn
theorem reset_any (g B : Nat) (v : Value) (r : List UInt8) (fed : Int) (w : World) (h : FrAt w g B v r fed) :
    Calls Tryd.prog 12 #[.pointer (some ⟨g, 0, none⟩)] w fun e w' => e = .returned (.tuple #[]) ∧ FrAt w' g B (.slice none 0 0) [] fed ∧ Eff (· = g) w w' := by
  obtain ⟨c0, c1, c2, c3⟩ := h.cell
  have f0 := h.free 0
  have f1 := h.free 1
  have f2 := h.free 2
  have H := Lib.hid h
  clear h
  go_enter Tryd.func12, Tryd.ntmps12
  go_wp2
  go_end0
  refine ⟨rfl, ⟨(setCell_heap (setCell_heap (setCell_heap H.out.mem 0 _) 1 _) 2 _).trans rfl, BS.nil _ _⟩, ((Eff.setCell (S := (· = g)) (Eff.setCell (S := (· = g)) (Eff.setCell (S := (· = g)) (Eff.refl _ _) (p := ⟨g, 0, none⟩) (fun _ => rfl) _) (p := ⟨g, 1, none⟩) (fun _ => rfl) _) (p := ⟨g, 2, none⟩) (fun _ => rfl) _))⟩
end Go.Proofs.YteiepgbdngamiaaDoor
