/- Labels in new blocks; the awake lattice in plain words. -/
import Derived.Test.YtmcianehedhfeaaGreatDoorLatO
set_option linter.unusedVariables false
set_option linter.unusedSimpArgs false
namespace Go.Proofs.YtmcianehedhfeaaGreatDoor
open Go.RowKit
theorem agg_keep {wa W : World} {g : Nat} {v1 v2 : Value} {T : TypeId} {fr : Nat × Nat} (h : wa.heap[g]? = some (.cells #[v1, v2] T fr)) (hb : Below wa.heap.size wa W) : W.cell? ⟨g, 0, none⟩ = some v1 ∧ W.cell? ⟨g, 1, none⟩ = some v2 := by
  have h2 := (hb.block _ (lt_of_block h)).trans h
  exact ⟨by rw [cell_of_row _ _ _ _ _ _ h2]; rfl, by rw [cell_of_row _ _ _ _ _ _ h2]; rfl⟩
def awL : List ByteArray := [⟨#[76, 79, 87]⟩, ⟨#[72, 73, 71, 72]⟩]
def awC : List ByteArray := [⟨#[65]⟩, ⟨#[66]⟩]
theorem aw_lat : latR (nms awL) (nms awC) = true := by decide
theorem aw_ok : LatOk (nms awL) (nms awC) := (latR_iff _ _).1 aw_lat
theorem aw_print : lprT (nms awL) (nms awC) 1 3 = [72, 73, 71, 72, 47, 47, 65, 47, 66] ∧ lprE (nms awL) (nms awC) 1 3 = 0 := by decide
theorem aw_print0 : lprT (nms awL) (nms awC) 0 0 = [76, 79, 87] ∧ lprE (nms awL) (nms awC) 0 0 = 0 := by decide
theorem aw_parse : lpP (nms awL) (nms awC) [72, 73, 71, 72, 47, 47, 66] = (1, 2, 0) := by
  unfold lpP; rw [if_pos aw_lat]
  exact lpF_some aw_ok ⟨by decide, by decide, by decide⟩
theorem aw_parse2 : lpP (nms awL) (nms awC) [72, 73, 71, 72, 47, 47, 66, 47, 65] = (0, 0, 2) := by
  unfold lpP; rw [if_pos aw_lat, lpF_code aw_ok (a := 1) (by decide +kernel), if_neg (by decide +kernel)]
theorem aw_dom : domB 1 2 0 0 = true := domB_true.2 ⟨by decide, subB.zero _⟩
theorem slIn_row {w : World} {g : Nat} {l : List ByteArray} {T : TypeId} (h : w.heap[g]? = some (.cells (l.map Value.string).toArray T (0, 0))) (hl : l.length ≤ 100) : SlIn w (.slice (some ⟨g, 0, none⟩) l.length l.length) l := by
  refine ⟨_, _, rfl, ⟨rfl, by omega, fun _ => ⟨g, 0, rfl, fun j hj => ?_⟩⟩, fun x => by cases x⟩
  rw [Nat.zero_add, cell_of_row _ _ _ _ _ _ h, List.getElem?_toArray, List.getElem?_map, List.getElem?_eq_getElem hj]
  unfold str
  rw [List.getD_eq_getElem?_getD, List.getElem?_eq_getElem hj]; rfl
theorem size_alloc (w : World) (o : Obj) : (w.alloc o).heap.size = w.heap.size + 1 := by show (w.heap.push o).size = _; rw [Array.size_push]
/-- Three labels in new blocks. -/
theorem box3 (w : World) (A B D : Obj) : (((w.alloc A).alloc B).alloc D).heap[w.heap.size]? = some A ∧ (((w.alloc A).alloc B).alloc D).heap[w.heap.size + 1]? = some B ∧ (((w.alloc A).alloc B).alloc D).heap[w.heap.size + 1 + 1]? = some D := by
  refine ⟨?_, ?_, heap3_new _ _ _ _⟩
  · rw [Below.heap_alloc _ _ _ (by rw [size_alloc, size_alloc]; omega), heap_alloc2_old]
  · rw [Below.heap_alloc _ _ _ (by rw [size_alloc, size_alloc]; omega), heap_alloc2_new]
def lab (a : Int) (m : Nat) : Obj := .cells #[.int .i64 a, .int .u64 (m : Int)] 27 (0, 0)
theorem domB_refl (a : Int) (m : Nat) : domB a m a m = true := domB_true.2 ⟨Int.le_refl _, subB.refl _⟩
theorem domB_trans {a b c : Int} {m n o : Nat} (h : domB a m b n = true) (k : domB b n c o = true) : domB a m c o = true := by
  rw [domB_true] at *
  exact ⟨by omega, k.2.trans h.2⟩
theorem domB_anti {a b : Int} {m n : Nat} (h : domB a m b n = true) (k : domB b n a m = true) : a = b ∧ m = n := by
  rw [domB_true] at *
  exact ⟨by omega, (k.2.eq h.2)⟩
end Go.Proofs.YtmcianehedhfeaaGreatDoor
