/- Small words on worlds: what a call may have changed. They speak of no program. -/
import Derived.WalkKit
import Derived.WalkSpells
import Derived.WalkLawsBesides
import Derived.Lib.Hide
import Derived.Deep.QuietTactic
import Derived.BigQuiet
set_option linter.unusedVariables false
set_option linter.unusedSimpArgs false
namespace Go.Proofs.YtnbefiaeihialaaGreat
open Go.RowKit

/-- Of the blocks that were there only those of S may have changed. -/
structure Eff (S : Nat → Prop) (w w' : World) : Prop where
  os : w'.os = w.os
  tape : w'.tape = w.tape
  output : w'.output = w.output
  size : w.heap.size ≤ w'.heap.size
  block : ∀ k, k < w.heap.size → ¬ S k → w'.heap[k]? = w.heap[k]?
theorem Eff.refl (S : Nat → Prop) (w : World) : Eff S w w := ⟨rfl, rfl, rfl, Nat.le_refl _, fun _ _ _ => rfl⟩
theorem Eff.trans {S : Nat → Prop} {a b c : World} (h : Eff S a b) (k : Eff S b c) : Eff S a c :=
  ⟨k.os.trans h.os, k.tape.trans h.tape, k.output.trans h.output, Nat.le_trans h.size k.size, fun i hi hs => (k.block i (Nat.lt_of_lt_of_le hi h.size) hs).trans (h.block i hi hs)⟩
theorem Eff.mono {S S' : Nat → Prop} {a b : World} (h : Eff S a b) (hs : ∀ k, k < a.heap.size → S k → S' k) : Eff S' a b :=
  ⟨h.os, h.tape, h.output, h.size, fun i hi hn => h.block i hi fun x => hn (hs i hi x)⟩
/-- A second step may touch what the first one made, too. -/
theorem Eff.trans' {S S' : Nat → Prop} {a b c : World} (h : Eff S a b) (k : Eff S' b c) (hs : ∀ i, i < a.heap.size → S' i → S i) : Eff S a c :=
  ⟨k.os.trans h.os, k.tape.trans h.tape, k.output.trans h.output, Nat.le_trans h.size k.size,
    fun i hi hn => (k.block i (Nat.lt_of_lt_of_le hi h.size) fun x => hn (hs i hi x)).trans (h.block i hi hn)⟩
theorem Eff.drew {S : Nat → Prop} {a b : World} (h : Eff S a b) : Eff S a b.drew := ⟨h.os, h.tape, h.output, h.size, h.block⟩
theorem Eff.drewN {S : Nat → Prop} {a b : World} (h : Eff S a b) (n : Nat) : Eff S a (b.drewN n) := ⟨h.os, h.tape, h.output, h.size, h.block⟩
theorem Eff.alloc {S : Nat → Prop} {a b : World} (h : Eff S a b) (o : Obj) : Eff S a (b.alloc o) :=
  ⟨h.os, h.tape, h.output, by have := h.size; simp; omega, fun i hi hn => (Below.heap_alloc b o i (Nat.lt_of_lt_of_le hi h.size)).trans (h.block i hi hn)⟩
theorem Eff.setCell {S : Nat → Prop} {a b : World} (h : Eff S a b) {p : Addr} (hp : p.block < a.heap.size → S p.block) (v : Value) : Eff S a (b.setCell p v) :=
  ⟨h.os, h.tape, h.output, by have := h.size; simp; omega, fun i hi hn => (Below.heap_setCell b p v i fun e => hn (e ▸ hp (e ▸ hi))).trans (h.block i hi hn)⟩
theorem Eff.below {S : Nat → Prop} {B : Nat} {w0 a b : World} (h0 : Below B w0 a) (h : Eff S a b) (hB : B ≤ a.heap.size) (hs : ∀ k, S k → B ≤ k) : Below B w0 b :=
  h0.trans ⟨h.os, h.tape, h.output, h.size, fun k hk => h.block k (by omega) fun x => by have := hs k x; omega⟩
theorem Eff.of_below {w w' : World} (h : Below w.heap.size w w') (S : Nat → Prop) : Eff S w w' := ⟨h.os, h.tape, h.output, h.size, fun k hk _ => h.block k hk⟩
theorem Eff.to_below {S : Nat → Prop} {w w' : World} (h : Eff S w w') {B : Nat} (hB : B ≤ w.heap.size) (hs : ∀ k, S k → B ≤ k) : Below B w w' :=
  ⟨h.os, h.tape, h.output, h.size, fun k hk => h.block k (by omega) fun x => by have := hs k x; omega⟩
theorem Eff.grown {S : Nat → Prop} {a b c : World} {row : Option Nat} (h : Eff S a b) (hg : b.grownBy c row) (hr : ∀ k, row = some k → k < a.heap.size → S k) : Eff S a c :=
  ⟨hg.os.trans h.os, hg.tape.trans h.tape, hg.output.trans h.output, Nat.le_trans h.size hg.size,
    fun i hi hn => (hg.block i (Nat.lt_of_lt_of_le hi h.size) fun e => hn (hr i e.symm hi)).trans (h.block i hi hn)⟩
theorem Eff.heap {S : Nat → Prop} {a b : World} (h : Eff S a b) {k : Nat} {o : Obj} (hk : a.heap[k]? = some o) (hn : ¬ S k) : b.heap[k]? = some o :=
  (h.block k (lt_of_block hk) hn).trans hk
theorem Eff.cell {S : Nat → Prop} {a b : World} (h : Eff S a b) {p : Addr} {v : Value} (hc : a.cell? p = some v) (hn : ¬ S p.block) : b.cell? p = some v :=
  (World.cell?_of_block (h.block p.block (World.block_lt_of_cell? a p hc) hn)).trans hc
theorem Eff.frozen {S : Nat → Prop} {a b : World} (h : Eff S a b) {p : Addr} (hk : p.block < a.heap.size) (hn : ¬ S p.block) : b.frozen? p = a.frozen? p :=
  World.frozen?_of_block (h.block p.block hk hn)
theorem Eff.own {S : Nat → Prop} {a b : World} (h : Eff S a b) {base : Nat} {e : TypeId} {size n : Nat} {v : Value} {xs : List Value} (ho : a.ownsRow base e size v n xs)
    (hn : ∀ k, v.ownBlock = some k → ¬ S k) : b.ownsRow base e size v n xs := by
  refine ⟨ho.1, ?_⟩
  rcases ho.2 with ⟨rfl, h0⟩ | ⟨g, cap, cur, rfl, hb, hh, r⟩
  · exact .inl ⟨rfl, h0⟩
  · exact .inr ⟨g, cap, cur, rfl, hb, h.heap hh (hn g rfl), r⟩
theorem setCell_heap {w : World} {b : Nat} {cs : Array Value} {T : TypeId} {fr : Nat × Nat} (h : w.heap[b]? = some (.cells cs T fr)) (i : Nat) (v : Value) :
    (w.setCell ⟨b, i, none⟩ v).heap[b]? = some (.cells (cs.setIfInBounds i v) T fr) := by
  simp [World.setCell, Array.getElem?_modify, h]
theorem below_eff {w0 a b : World} {B : Nat} (h0 : Below B w0 a) (h : Eff (fun _ => False) a b) (hB : B ≤ a.heap.size) : Below B w0 b := h.below h0 hB fun _ x => x.elim
theorem quietly {P : Program} {f : FuncId} {args : Array Value} {w : World} {n : Nat} {v : Value}
    (h : Calls P f args (w.drewN n) fun e w' => e = .returned v ∧ w.drewN n = w') : Calls P f args (w.drewN n) fun e w'' => e = .returned v ∧ ∃ m, w'' = w.drewN m :=
  h.mono fun _ _ ⟨he, hm⟩ => ⟨he, n, hm.symm⟩
theorem quietly2 {P : Program} {f : FuncId} {args : Array Value} {w : World} {n : Nat} {v : Value}
    (h : Calls P f args (w.drewN n) fun e w' => e = .returned v ∧ ∃ m, (w.drewN n).drewN m = w') : Calls P f args (w.drewN n) fun e w'' => e = .returned v ∧ ∃ m, w'' = w.drewN m :=
  h.mono fun _ _ ⟨he, m, hm⟩ => ⟨he, n + m, by rw [← hm, World.drewN_drewN]⟩
/-- A list's element, 0 behind its end (simp does not look into it). -/
def nth (l : List Int) (i : Nat) : Int := l.getD i 0
theorem nth_eq (l : List Int) (i : Nat) : nth l i = l[i]?.getD 0 := by simp [nth, List.getD_eq_getElem?_getD]
theorem nth_lt {l : List Int} {i : Nat} (h : i < l.length) : nth l i = l[i] := by simp [nth_eq, List.getElem?_eq_getElem h]
theorem nth_ge {l : List Int} {i : Nat} (h : l.length ≤ i) : nth l i = 0 := by simp [nth_eq, List.getElem?_eq_none h]
theorem get_nth {l : List Int} {i : Nat} (h : i < l.length) : l[i]? = some (nth l i) := by simp [nth_lt h, List.getElem?_eq_getElem h]
theorem nth_set (l : List Int) (i j : Nat) (v : Int) (h : i < l.length) : nth (l.set i v) j = if i = j then v else nth l j := by
  simp only [nth_eq, List.getElem?_set]
  by_cases e : i = j
  · simp [e ▸ h, e]
  · simp [e]
theorem nth_ext {l m : List Int} (hl : l.length = m.length) (h : ∀ i, i < l.length → nth l i = nth m i) : l = m := by
  refine List.ext_getElem hl fun i h1 h2 => ?_
  have := h i h1
  rwa [nth_lt h1, nth_lt h2] at this
/-- A slice of whole numbers that came in: its cells. -/
structure IntsAt (w : World) (A : Option Addr) (n : Nat) (xs : List Int) : Prop where
  len : xs.length = n
  max : n ≤ 9223372036854775807
  cells : 0 < n → ∃ b off, A = some ⟨b, off, none⟩ ∧ ∀ j, j < n → w.cell? ⟨b, off + j, none⟩ = some (.int .i64 (nth xs j))
theorem IntsAt.below {w w' : World} {A : Option Addr} {n : Nat} {xs : List Int} (h : IntsAt w A n xs) (hb : Below w.heap.size w w') : IntsAt w' A n xs :=
  ⟨h.len, h.max, fun hn => by
    obtain ⟨b, off, e, hc⟩ := h.cells hn
    exact ⟨b, off, e, fun j hj => (hb.cell (World.block_lt_of_cell? _ _ (hc j hj))).trans (hc j hj)⟩⟩
theorem ret_int {k : IntKind} {a b : Int} (h : a = b) : Ending.returned (.int k a) = .returned (.int k b) := by rw [h]
theorem ret_bool {a b : Bool} (h : a = b) : Ending.returned (.bool a) = .returned (.bool b) := by rw [h]
end Go.Proofs.YtnbefiaeihialaaGreat
