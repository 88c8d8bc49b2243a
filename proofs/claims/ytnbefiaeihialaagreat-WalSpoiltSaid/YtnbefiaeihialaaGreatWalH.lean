/- The digest, word by word; math/bits.RotateLeft32. -/
import Derived.Test.YtnbefiaeihialaaGreatWalG
import Derived.BigRegion
import Derived.Deep.DeepCutAuto
import Derived.Deep.CutBlock
set_option linter.unusedVariables false
set_option linter.unusedSimpArgs false
namespace Go.Proofs.YtnbefiaeihialaaGreat
open Go.RowKit
def rol (x : Int) (s : Nat) : Int := bits .or .u32 (x * 2 ^ s % 4294967296) (x / 2 ^ (32 - s))
set_option maxRecDepth 100000 in
theorem rot_any (x k : Int) (s : Nat) (w : World) (hs : 1 ≤ s) (hs2 : s < 32) (hk : bits BinOp.and IntKind.u64 (IntKind.u64.wrap k) 31 = (s : Int)) :
    Calls Tryz.prog 69 #[.int .u32 x, .int .i64 k] w fun e w' => e = .returned (.int .u32 (rol x s)) ∧ w = w' := by
  have hs0 : (0 : Int) ≤ (s : Int) := by omega
  have h32 : IntKind.u64.wrap (32 - (s : Int)) = 32 - (s : Int) := by rw [IntKind.wrap_u64]; omega
  have h320 : (0 : Int) ≤ 32 - (s : Int) := by omega
  go_enter Tryz.func69, Tryz.ntmps69
  go_wp2
  go_ret
  exact ⟨rfl, rfl⟩
/-- Eight words. -/
structure V8 where
  a : Int
  b : Int
  c : Int
  d : Int
  e : Int
  f : Int
  g : Int
  h : Int
def V8.list (v : V8) : List Int := [v.a, v.b, v.c, v.d, v.e, v.f, v.g, v.h]
def w32 (l : List Int) : List Value := l.map fun x => Value.int .u32 x
def V8.agg (v : V8) : Value := .agg #[.int .u32 v.a, .int .u32 v.b, .int .u32 v.c, .int .u32 v.d, .int .u32 v.e, .int .u32 v.f, .int .u32 v.g, .int .u32 v.h]
def sig0 (p : Int) : Int := bits .xor .u32 (bits .xor .u32 (rol p 25) (rol p 14)) (p / 8)
def sig1 (q : Int) : Int := bits .xor .u32 (bits .xor .u32 (rol q 15) (rol q 13)) (q / 1024)
def mixW (l : List Int) (i : Nat) : Int := (nth l (i - 16) + sig0 (nth l (i - 15)) + nth l (i - 7) + sig1 (nth l (i - 2))) % 4294967296
def wordAt (blk : Bs) (l : List Int) (i : Nat) : Int := if i < 16 then (numF ((blk.drop (4 * i)).take 4) : Int) else mixW l i
def wordsF (blk : Bs) : Nat → List Int
  | 0 => []
  | i + 1 => wordsF blk i ++ [wordAt blk (wordsF blk i) i]
theorem wordsF_len (blk : Bs) (i : Nat) : (wordsF blk i).length = i := by induction i with | zero => rfl | succ i ih => simp [wordsF, ih]
def one32 (e : Int) : Int := bits .xor .u32 (bits .xor .u32 (rol e 26) (rol e 21)) (rol e 7)
def two32 (a : Int) : Int := bits .xor .u32 (bits .xor .u32 (rol a 30) (rol a 19)) (rol a 10)
def not32 (e : Int) : Int := bits BinOp.xor IntKind.u32 (if IntKind.u32.signed = true then -1 else IntKind.u32.max) e
def pick32 (e f g : Int) : Int := bits .xor .u32 (bits .and .u32 e f) (bits .and .u32 (not32 e) g)
def most32 (a b c : Int) : Int := bits .xor .u32 (bits .xor .u32 (bits .and .u32 a b) (bits .and .u32 a c)) (bits .and .u32 b c)
def sumX (v : V8) (k w : Int) : Int := v.h + one32 v.e + pick32 v.e v.f v.g + k + w
def rndF (v : V8) (k w : Int) : V8 := ⟨(sumX v k w + two32 v.a + most32 v.a v.b v.c) % 4294967296, v.a, v.b, v.c, (v.d + sumX v k w) % 4294967296, v.e, v.f, v.g⟩
def roundsF (tab wd : List Int) (v : V8) : Nat → V8
  | 0 => v
  | i + 1 => rndF (roundsF tab wd v i) (nth tab i) (nth wd i)
def add8 (h v : V8) : V8 := ⟨(h.a + v.a) % 4294967296, (h.b + v.b) % 4294967296, (h.c + v.c) % 4294967296, (h.d + v.d) % 4294967296, (h.e + v.e) % 4294967296, (h.f + v.f) % 4294967296, (h.g + v.g) % 4294967296, (h.h + v.h) % 4294967296⟩
def pressF (tab : List Int) (h : V8) (blk : Bs) : V8 := add8 h (roundsF tab (wordsF blk 64) h 64)
/-- The first i words are added. -/
def addK (h v : V8) (i : Nat) : List Int := (add8 h v).list.take i ++ h.list.drop i
theorem w32_len (l : List Int) : (w32 l).length = l.length := by simp [w32]
theorem w32_at {l : List Int} {i : Nat} (h : i < l.length) : (w32 l)[i]? = some (.int .u32 (nth l i)) := by
  unfold w32; rw [List.getElem?_map, get_nth h]; rfl
theorem w32_set (l : List Int) (i : Nat) (x : Int) : ((w32 l).toArray).setIfInBounds i (.int .u32 x) = (w32 (l.set i x)).toArray := by
  apply Array.ext'
  rw [Array.toList_setIfInBounds]
  show (w32 l).set i _ = w32 _
  unfold w32; rw [List.map_set]
/-- A row of words in memory. -/
theorem w32_cell {w : World} {g : Nat} {l : List Int} {T : TypeId} {z : Nat × Nat} (h : w.heap[g]? = some (.cells (w32 l).toArray T z)) {i : Nat} (hi : i < l.length) : w.cell? ⟨g, i, none⟩ = some (.int .u32 (nth l i)) := by
  rw [cell_of_row _ _ _ _ _ _ h, List.getElem?_toArray, w32_at hi]
theorem nth_app_l {a b : List Int} {i : Nat} (h : i < a.length) : nth (a ++ b) i = nth a i := by
  rw [nth_eq, nth_eq, List.getElem?_append_left h]
theorem words_put {blk : Bs} {j : Nat} (h : j < 64) : (wordsF blk j ++ List.replicate (64 - j) 0).set j (wordAt blk (wordsF blk j) j) = wordsF blk (j + 1) ++ List.replicate (64 - (j + 1)) 0 := by
  rw [List.set_append_right _ _ (by rw [wordsF_len]; exact Nat.le_refl _), wordsF_len, Nat.sub_self, show 64 - j = (64 - (j + 1)) + 1 by omega, List.replicate_succ, List.set_cons_zero]
  show _ = (wordsF blk j ++ [_]) ++ _
  rw [List.append_assoc]; rfl
/-- Eight cells are stored. -/
def W8 (W : World) (V : Nat) (x : V8) : World := (((((((W.setCell ⟨V, 0, none⟩ (.int .u32 x.a)).setCell ⟨V, 1, none⟩ (.int .u32 x.b)).setCell ⟨V, 2, none⟩ (.int .u32 x.c)).setCell ⟨V, 3, none⟩ (.int .u32 x.d)).setCell ⟨V, 4, none⟩ (.int .u32 x.e)).setCell ⟨V, 5, none⟩ (.int .u32 x.f)).setCell ⟨V, 6, none⟩ (.int .u32 x.g)).setCell ⟨V, 7, none⟩ (.int .u32 x.h)
theorem W8.here {W : World} {V : Nat} {v : V8} {T : TypeId} {z : Nat × Nat} (h : W.heap[V]? = some (.cells (w32 v.list).toArray T z)) (x : V8) : (W8 W V x).heap[V]? = some (.cells (w32 x.list).toArray T z) := by
  obtain ⟨v0, v1, v2, v3, v4, v5, v6, v7⟩ := v
  obtain ⟨x0, x1, x2, x3, x4, x5, x6, x7⟩ := x
  have e : ∀ l : List Int, (w32 l).toArray = (l.map fun x => Value.int .u32 x).toArray := fun _ => rfl
  rw [e] at h ⊢
  simp only [V8.list, List.map_cons, List.map_nil] at h ⊢
  have h0 := setCell_heap h 0 (.int .u32 x0)
  have h1 := setCell_heap h0 1 (.int .u32 x1)
  have h2 := setCell_heap h1 2 (.int .u32 x2)
  have h3 := setCell_heap h2 3 (.int .u32 x3)
  have h4 := setCell_heap h3 4 (.int .u32 x4)
  have h5 := setCell_heap h4 5 (.int .u32 x5)
  have h6 := setCell_heap h5 6 (.int .u32 x6)
  have h7 := setCell_heap h6 7 (.int .u32 x7)
  unfold W8
  rw [h7]
  simp
theorem W8.else_ {W : World} {V k : Nat} (x : V8) (h : k ≠ V) : (W8 W V x).heap[k]? = W.heap[k]? := by
  unfold W8
  iterate 8 rw [Below.heap_setCell _ _ _ _ (by exact h)]
theorem W8.below {B : Nat} {w W : World} {V : Nat} (x : V8) (h : Below B w W) (hB : B ≤ V) : Below B w (W8 W V x) :=
  (((((((h.setCell (p := ⟨V, 0, none⟩) hB _).setCell (p := ⟨V, 1, none⟩) hB _).setCell (p := ⟨V, 2, none⟩) hB _).setCell (p := ⟨V, 3, none⟩) hB _).setCell (p := ⟨V, 4, none⟩) hB _).setCell (p := ⟨V, 5, none⟩) hB _).setCell (p := ⟨V, 6, none⟩) hB _).setCell (p := ⟨V, 7, none⟩) hB _
theorem addK_len (h v : V8) {i : Nat} (hi : i ≤ 8) : (addK h v i).length = 8 := by
  unfold addK
  rw [List.length_append, List.length_take, List.length_drop]
  show min i 8 + (8 - i) = 8; omega
theorem nth8 (x : V8) : ∀ i, i < 8 → x.list[i]? = some (nth x.list i) := fun i hi => get_nth hi
theorem addK_at (h v : V8) {i : Nat} (hi : i < 8) : nth (addK h v i) i = nth h.list i := by
  unfold addK
  rw [nth_eq, List.getElem?_append_right (by rw [List.length_take]; omega), List.length_take, List.getElem?_drop, nth_eq]
  have e : i + (i - min i (add8 h v).list.length) = i := by
    show i + (i - min i 8) = i; omega
  rw [e]
theorem add8_at (h v : V8) : ∀ i, i < 8 → nth (add8 h v).list i = (nth h.list i + nth v.list i) % 4294967296
  | 0, _ => rfl
  | 1, _ => rfl
  | 2, _ => rfl
  | 3, _ => rfl
  | 4, _ => rfl
  | 5, _ => rfl
  | 6, _ => rfl
  | 7, _ => rfl
theorem addK_next (h v : V8) {i : Nat} (hi : i < 8) : (addK h v i).set i ((nth h.list i + nth v.list i) % 4294967296) = addK h v (i + 1) := by
  rw [← add8_at h v i hi]
  have hl : i < (add8 h v).list.length := hi
  unfold addK
  rw [List.set_append_right _ _ (by rw [List.length_take]; omega), List.length_take, show i - min i (add8 h v).list.length = 0 by show i - min i 8 = 0; omega, List.drop_eq_getElem_cons (show i < h.list.length from hi), List.set_cons_zero, List.take_succ_eq_append_getElem hl, nth_lt hl, List.append_assoc]; rfl
theorem addK_all (h v : V8) : addK h v 8 = (add8 h v).list := by unfold addK; rfl
end Go.Proofs.YtnbefiaeihialaaGreat
