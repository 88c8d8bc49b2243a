/- What a call may have changed, rows of bytes of its own aside; slices of bytes and of strings of a call's own. -/
import Derived.Test.YtnbefiaeihialaaGreatRows
import Derived.Test.YtnbefiaeihialaaGreatBytes
import Derived.Lib.OthersKept
import Derived.Lib.AppendStr
import Derived.Laws.AppendOwnNone
set_option linter.unusedVariables false
set_option linter.unusedSimpArgs false
namespace Go.Proofs.YtnbefiaeihialaaGreat
open Go.RowKit
/-- Nothing below block B has changed; above it only blocks of S and rows of bytes. -/
structure Chg (B : Nat) (S : Nat → Prop) (w w' : World) : Prop where
  below : Below B w w'
  keep : ∀ k o, w.heap[k]? = some o → ¬ S k → (∀ c fz, o ≠ .cells c 5 fz) → w'.heap[k]? = some o
theorem Chg.refl (B : Nat) (S : Nat → Prop) (w : World) : Chg B S w w := ⟨Below.refl _ _, fun _ _ h _ _ => h⟩
theorem Chg.trans {B : Nat} {S : Nat → Prop} {a b c : World} (h : Chg B S a b) (k : Chg B S b c) : Chg B S a c :=
  ⟨h.below.trans k.below, fun i o hi hs ho => k.keep i o (h.keep i o hi hs ho) hs ho⟩
theorem Chg.mono {B B' : Nat} {S S' : Nat → Prop} {a b : World} (h : Chg B S a b) (hB : B' ≤ B) (hS : ∀ k, S k → S' k) : Chg B' S' a b :=
  ⟨h.below.mono hB, fun i o hi hs ho => h.keep i o hi (fun x => hs (hS i x)) ho⟩
theorem Chg.alloc {B : Nat} {S : Nat → Prop} {a b : World} (h : Chg B S a b) (hB : B ≤ b.heap.size) (o : Obj) : Chg B S a (b.alloc o) :=
  ⟨h.below.alloc hB o, fun i x hi hs ho => by
    have h1 := h.keep i x hi hs ho
    exact (Below.heap_alloc b o i (lt_of_block h1)).trans h1⟩
theorem Below.drewN' {B : Nat} {a b : World} (h : Below B a b) (n : Nat) : Below B a (b.drewN n) := ⟨h.os, h.tape, h.output, h.size, h.block⟩
theorem Chg.drewN {B : Nat} {S : Nat → Prop} {a b : World} (h : Chg B S a b) (n : Nat) : Chg B S a (b.drewN n) := ⟨Below.drewN' h.below n, h.keep⟩
theorem Chg.drew {B : Nat} {S : Nat → Prop} {a b : World} (h : Chg B S a b) : Chg B S a b.drew := ⟨h.below.drew, h.keep⟩
theorem Chg.setCell {B : Nat} {S : Nat → Prop} {a b : World} (h : Chg B S a b) {p : Addr} (hB : B ≤ p.block) (hS : S p.block) (v : Value) : Chg B S a (b.setCell p v) :=
  ⟨h.below.setCell hB v, fun i x hi hs ho => by
    have h1 := h.keep i x hi hs ho
    rw [Below.heap_setCell _ _ _ _ (fun e => hs (by rw [e]; exact hS))]
    exact h1⟩
theorem Chg.of_below {B : Nat} {w w' : World} (h : Below w.heap.size w w') (hB : B ≤ w.heap.size) (S : Nat → Prop) : Chg B S w w' :=
  ⟨h.mono hB, fun k o hk _ _ => (h.block k (lt_of_block hk)).trans hk⟩
theorem Chg.of_others {B b : Nat} {w w' : World} (hb : Below B w w') (ho : Lib.OthersKept 5 (some b) w w') : Chg B (· = b) w w' :=
  ⟨hb, fun k o hk hs hx => ho k o hk (fun e => hs (Option.some.inj e)) hx⟩
theorem Chg.grown {B : Nat} {S : Nat → Prop} {a w w' : World} {row : Option Nat} (h : Chg B S a w) (hg : w.grownBy w' row) (hB : B ≤ w.heap.size)
    (hr : ∀ g, row = some g → B ≤ g ∧ (S g ∨ ∃ c fz, w.heap[g]? = some (.cells c 5 fz))) : Chg B S a w' :=
  ⟨h.below.grown hg hB (fun k hk => (hr k hk).1), fun i x hi hs ho => by
    have h1 := h.keep i x hi hs ho
    rw [hg.block i (lt_of_block h1) ?_]
    · exact h1
    · intro e
      rcases (hr i e.symm).2 with hh | ⟨c, fz, hc⟩
      · exact hs hh
      · rw [h1] at hc
        exact ho c fz (Option.some.inj hc)⟩
theorem Chg.heap {B : Nat} {S : Nat → Prop} {w w' : World} (h : Chg B S w w') {k : Nat} {cs : Array Value} {T : TypeId} {fr : Nat × Nat} (hk : w.heap[k]? = some (.cells cs T fr)) (hn : ¬ S k) (hT : T ≠ 5) : w'.heap[k]? = some (.cells cs T fr) :=
  h.keep k _ hk hn fun c fz e => hT (by cases e; rfl)
theorem Chg.size {B : Nat} {S : Nat → Prop} {w w' : World} (h : Chg B S w w') : w.heap.size ≤ w'.heap.size := h.below.size
/-- A later step may also change what is new since. -/
theorem Chg.then {B B' : Nat} {S S' : Nat → Prop} {a b c : World} (h : Chg B S a b) (k : Chg B' S' b c) (hB : B ≤ B') (hS : ∀ i, i < a.heap.size → S' i → S i) : Chg B S a c :=
  ⟨h.below.trans (k.below.mono hB), fun i o hi hs ho => k.keep i o (h.keep i o hi hs ho) (fun x => hs (hS i (lt_of_block hi) x)) ho⟩
/-- A slice of bytes of the call's own: v holds l; its block lies from 'base' on. -/
def BS (w : World) (base : Nat) (v : Value) (l : List UInt8) : Prop := w.ownsRow base 5 1 v l.length (bcells l)
theorem BS.nil (w : World) (base : Nat) : BS w base (.slice none 0 0) [] := ⟨by simp [bcells], .inl ⟨rfl, rfl⟩⟩
theorem BS.shape {w : World} {base : Nat} {v : Value} {l : List UInt8} (h : BS w base v l) : ∃ ao cap, v = .slice ao l.length cap := by
  rcases h.2 with ⟨hv, h0⟩ | ⟨g, cap, cur, hv, _⟩
  · exact ⟨none, 0, by rw [hv, h0]⟩
  · exact ⟨_, _, hv⟩
theorem BS.alloc {w : World} {base : Nat} {v : Value} {l : List UInt8} (h : BS w base v l) (o : Obj) : BS (w.alloc o) base v l := World.ownsRow.alloc h o
theorem BS.drewN {w : World} {base : Nat} {v : Value} {l : List UInt8} (h : BS w base v l) (n : Nat) : BS (w.drewN n) base v l := h
theorem BS.below {w w' : World} {base : Nat} {v : Value} {l : List UInt8} (h : BS w base v l) (hb : Below w.heap.size w w') : BS w' base v l := by
  refine ⟨h.1, ?_⟩
  rcases h.2 with hn | ⟨g, cap, cur, hv, hg, hh, r⟩
  · exact .inl hn
  · exact .inr ⟨g, cap, cur, hv, hg, (hb.block g (lt_of_block hh)).trans hh, r⟩
theorem BS.mono {w : World} {base base' : Nat} {v : Value} {l : List UInt8} (h : BS w base v l) (hb : base' ≤ base) : BS w base' v l := by
  refine ⟨h.1, ?_⟩
  rcases h.2 with hn | ⟨g, cap, cur, hv, hg, hh, r⟩
  · exact .inl hn
  · exact .inr ⟨g, cap, cur, hv, by omega, hh, r⟩
/-- string(v). -/
theorem conv_row {w : World} {g off n cap : Nat} {l : List UInt8} (hl : l.length = n) (hc : ∀ j (h : j < l.length), w.cell? ⟨g, off + j, none⟩ = some (.int .u8 l[j].toNat)) :
    (convert 73 9 (.slice (some ⟨g, off, none⟩) n cap)).run Tryz.prog w = .ok (.string ⟨l.toArray⟩) w := by
  rw [← strOfNums_bytes]
  refine run_convert_bytes_arg w 73 5 Tryz.underlying73 Tryz.underlying5 g off n cap _ (by rw [List.length_map, hl]) (fun j hj => ?_) 9 Tryz.underlying9
  rw [hc j (by omega)]
  simp [List.getD_eq_getElem?_getD, List.getElem?_eq_getElem (show j < l.length by omega)]
theorem conv_new {w : World} {g n cap : Nat} {l : List UInt8} {R : List Value} {T : TypeId} {fz : Nat × Nat} (h : w.heap[g]? = some (.cells (bcells l ++ R).toArray T fz)) (hl : l.length = n) :
    (convert 73 9 (.slice (some ⟨g, 0, none⟩) n cap)).run Tryz.prog w = .ok (.string ⟨l.toArray⟩) w :=
  conv_row hl fun j hj => by
    rw [Nat.zero_add, cell_of_row _ _ _ _ _ _ h, List.getElem?_toArray, List.getElem?_append_left (by rw [bcells_length]; exact hj), bcells_get hj]
theorem BS.cell {w : World} {base : Nat} {l : List UInt8} {g n cap : Nat} (h : BS w base (.slice (some ⟨g, 0, none⟩) n cap) l) (j : Nat) (hj : j < l.length) : w.cell? ⟨g, j, none⟩ = some (.int .u8 l[j].toNat) := by
  have := World.ownsRow.cells h (g := g) rfl j (.int .u8 l[j].toNat) (bcells_get hj)
  have hadd : (⟨g, 0, none⟩ : Addr).add j = ⟨g, j, none⟩ := by unfold Addr.add; split <;> simp_all
  rwa [hadd] at this
theorem BS.conv {w : World} {base : Nat} {v : Value} {l : List UInt8} (h : BS w base v l) : (convert 73 9 v).run Tryz.prog w = .ok (.string ⟨l.toArray⟩) w := by
  have h2 := h.2
  rcases h.2 with ⟨hv, h0⟩ | ⟨g, cap, cur, hv, _⟩
  · subst hv
    obtain rfl : l = [] := List.eq_nil_of_length_eq_zero h0
    exact run_convert_bytes_nil w 73 5 Tryz.underlying73 Tryz.underlying5 0 0 9 Tryz.underlying9
  · subst hv
    exact conv_row rfl fun j hj => by rw [Nat.zero_add]; exact h.cell j hj
theorem Tryz.infoU8 : (Tryz.prog.info? 5).map (fun i => (i.zero, i.size, i.bytes)) = some (some (.int .u8 0), 1, 1) := by kernel_rfl
theorem BS.grown {w w' : World} {base : Nat} {v v' : Value} {l m : List UInt8} (h : BS w base v l) (hg : w.grownBy w' v.ownBlock) (hbase : base ≤ w.heap.size) : Chg base (fun _ => False) w w' :=
  (Chg.refl base _ w).grown hg hbase fun g hgr => by
    refine ⟨(World.ownsRow.lt h g hgr).1, .inr ?_⟩
    rcases h.2 with ⟨hv, h0⟩ | ⟨g', cap, cur, hv, _, hh, _⟩
    · rw [hv] at hgr; simp [Value.ownBlock] at hgr
    · rw [hv] at hgr; simp [Value.ownBlock] at hgr; subst hgr; exact ⟨_, _, hh⟩
/-- append(v, x...) where x's cells are known. -/
theorem wp_app {w : World} {ops : Array Oper} {rest : List Oper} {o : Oper} {a : Act} {Q : Exit → Act → World → Prop} (hgd : o.guard = none) (s x : Operand)
    (ho : o.op = .call { callee := .builtin .append, args := #[s, x], argTypes := #[73, 73] })
    (base : Nat) (v : Value) (l : List UInt8) (hs : a.eval s = v) (hown : BS w base v l)
    (ad : Addr) (m c : Nat) (news : List UInt8) (hx : a.eval x = .slice (some ad) m c) (hl : news.length = m) (hnews : ∀ j (h : j < news.length), w.cell? (ad.add j) = some (.int .u8 news[j].toNat))
    (hlen : l.length + m ≤ 70368744177664) (hbase : base ≤ w.heap.size)
    (h : ∀ v' w', BS w' base v' (l ++ news) → Chg base (fun _ => False) w w' → wpList Tryz.prog ops Q rest (a.put o.dst v') w') : wpList Tryz.prog ops Q (o :: rest) a w := by
  obtain ⟨i0, hi, hz0, hz1, hz2⟩ := info_parts Tryz.infoU8
  refine wpList_append_own (w := w) hgd s x 73 ho base 5 i0 (.int .u8 0) 1 1 Tryz.underlying73 hi hz0 hz1 hz2 rfl (by decide) v l.length (bcells l) hs hown ad m c (bcells news) hx (by rw [bcells_length, hl]; omega) ?_ (bcells_one _) (by unfold maxLen; omega) (by omega) hbase ?_
  · intro j u hu
    have hj : j < news.length := by
      rcases Nat.lt_or_ge j news.length with h' | h'
      · exact h'
      · rw [List.getElem?_eq_none (by rw [bcells_length]; exact h')] at hu; cases hu
    rw [bcells_get hj] at hu
    rw [hnews j hj, hu]
  · intro v' w' hown' hgrow _
    refine h v' w' ?_ (hown.grown (v' := v') (m := news) hgrow hbase)
    unfold BS
    rw [bcells_append, List.length_append, hl]
    exact hown'
/-- append(v, x) of one byte: its cell lies in a new block. -/
theorem wp_app1 {w : World} {ops : Array Oper} {rest : List Oper} {o : Oper} {a : Act} {Q : Exit → Act → World → Prop} (hgd : o.guard = none) (s x : Operand)
    (ho : o.op = .call { callee := .builtin .append, args := #[s, x], argTypes := #[73, 73] })
    (base : Nat) (v : Value) (l : List UInt8) (hs : a.eval s = v) (c : UInt8) (z : Int) (hz : z = c.toNat) (hown : BS w base v l)
    (hx : a.eval x = .slice (some ⟨w.heap.size, 0, none⟩) 1 1)
    (hlen : l.length + 1 ≤ 70368744177664) (hbase : base ≤ w.heap.size)
    (h : ∀ v' w', BS w' base v' (l ++ [c]) → Chg base (fun _ => False) w w' → wpList Tryz.prog ops Q rest (a.put o.dst v') w') : wpList Tryz.prog ops Q (o :: rest) a (w.alloc (.cells #[.int .u8 z] 5 (0, 0))) := by
  subst hz
  refine wp_app hgd s x ho base v l hs (hown.alloc _) _ 1 1 [c] hx rfl (fun j hj => ?_) hlen (by simp; omega) fun v' w' h1 h2 => h v' w' h1 (((Chg.refl base _ w).alloc hbase _).trans h2)
  obtain rfl : j = 0 := by simpa using hj
  have h1 := heap_alloc_new w (.cells #[.int .u8 c.toNat] 5 (0, 0))
  rw [show (⟨w.heap.size, 0, none⟩ : Addr).add 0 = ⟨w.heap.size, 0, none⟩ by rfl, cell_of_row _ _ _ _ _ _ h1]
  rfl
/-- append(v, s...) of a string. -/
theorem wp_apps {w : World} {ops : Array Oper} {rest : List Oper} {o : Oper} {a : Act} {Q : Exit → Act → World → Prop} (hgd : o.guard = none) (sl x : Operand)
    (ho : o.op = .call { callee := .builtin .append, args := #[sl, x], argTypes := #[73, 9] })
    (base : Nat) (v : Value) (l : List UInt8) (hs : a.eval sl = v) (hown : BS w base v l) (s : ByteArray) (hx : a.eval x = .string s)
    (hlen : l.length + s.size ≤ 70368744177664) (hbase : base ≤ w.heap.size)
    (h : ∀ v' w', BS w' base v' (l ++ s.data.toList) → Chg base (fun _ => False) w w' → wpList Tryz.prog ops Q rest (a.put o.dst v') w') : wpList Tryz.prog ops Q (o :: rest) a w := by
  obtain ⟨i0, hi, hz0, hz1, hz2⟩ := info_parts Tryz.infoU8
  refine Lib.wpList_append_own_string (w := w) hgd sl x 73 9 ho base 5 i0 Tryz.underlying73 Tryz.underlying9 hi hz0 hz1 hz2 v l.length (bcells l) hs hown s hx (by unfold maxLen; omega) (by omega) hbase ?_
  intro v' w' hown' hgrow _
  refine h v' w' ?_ (hown.grown (v' := v') (m := s.data.toList) hgrow hbase)
  unfold BS
  have hsz : s.data.toList.length = s.size := by rw [Array.length_toList]; rfl
  rw [bcells_append, List.length_append, hsz]
  exact hown'
/-- A row of strings that a slice shows: its block is g. -/
structure StrsAt (w : World) (g cap : Nat) (l : List ByteArray) : Prop where
  cells : ∃ cur : Array Value, w.heap[g]? = some (.cells cur 9 (0, 0)) ∧ cur.toList.take l.length = l.map Value.string
  room : l.length ≤ cap
  max : cap ≤ maxLen
theorem StrsAt.cell {w : World} {g cap : Nat} {l : List ByteArray} (h : StrsAt w g cap l) (j : Nat) (hj : j < l.length) : w.cell? ⟨g, j, none⟩ = some (.string l[j]) := by
  obtain ⟨cur, hh, ht⟩ := h.cells
  rw [cell_of_row _ _ _ _ _ _ hh]
  have : (cur.toList.take l.length)[j]? = (l.map Value.string)[j]? := by rw [ht]
  rw [List.getElem?_take, if_pos hj, List.getElem?_map, List.getElem?_eq_getElem hj] at this
  simpa using this
theorem strNe : (9 : TypeId) ≠ 5 := by decide
theorem StrsAt.chg {w w' : World} {g cap : Nat} {l : List ByteArray} (h : StrsAt w g cap l) {B : Nat} {S : Nat → Prop} (hc : Chg B S w w') (hn : ¬ S g) : StrsAt w' g cap l := by
  obtain ⟨cur, hh, ht⟩ := h.cells
  exact ⟨⟨cur, hc.heap hh hn strNe, ht⟩, h.room, h.max⟩
theorem StrsAt.lt {w : World} {g cap : Nat} {l : List ByteArray} (h : StrsAt w g cap l) : g < w.heap.size := by
  obtain ⟨cur, hh, ht⟩ := h.cells
  exact lt_of_block hh
/-- A slice of strings of the call's own. -/
def SSo (w : World) (base : Nat) (v : Value) (l : List ByteArray) : Prop := w.ownsRow base 9 1 v l.length (l.map Value.string)
theorem SSo.nil (w : World) (base : Nat) : SSo w base (.slice none 0 0) [] := ⟨by simp, .inl ⟨rfl, rfl⟩⟩
theorem SSo.shape {w : World} {base : Nat} {v : Value} {l : List ByteArray} (h : SSo w base v l) : ∃ ao cap, v = .slice ao l.length cap := by
  rcases h.2 with ⟨hv, h0⟩ | ⟨g, cap, cur, hv, _⟩
  · exact ⟨none, 0, by rw [hv, h0]⟩
  · exact ⟨_, _, hv⟩
theorem SSo.strs {w : World} {base : Nat} {v : Value} {l : List ByteArray} (h : SSo w base v l) (h0 : 0 < l.length) : ∃ g cap, v = .slice (some ⟨g, 0, none⟩) l.length cap ∧ base ≤ g ∧ StrsAt w g cap l := by
  rcases h.2 with ⟨hv, h1⟩ | ⟨g, cap, cur, hv, hg, hh, h1, h2, h3, h4⟩
  · omega
  · exact ⟨g, cap, hv, hg, ⟨cur, hh, by simpa using h4⟩, h1, h2⟩
theorem SSo.alloc {w : World} {base : Nat} {v : Value} {l : List ByteArray} (h : SSo w base v l) (o : Obj) : SSo (w.alloc o) base v l := World.ownsRow.alloc h o
theorem SSo.drewN {w : World} {base : Nat} {v : Value} {l : List ByteArray} (h : SSo w base v l) (n : Nat) : SSo (w.drewN n) base v l := h
theorem SSo.chg {w w' : World} {base : Nat} {v : Value} {l : List ByteArray} (h : SSo w base v l) {B : Nat} {S : Nat → Prop} (hc : Chg B S w w') (hn : ∀ g, v.ownBlock = some g → ¬ S g) : SSo w' base v l := by
  refine ⟨h.1, ?_⟩
  rcases h.2 with hn | ⟨g, cap, cur, hv, hg, hh, r⟩
  · exact .inl hn
  · exact .inr ⟨g, cap, cur, hv, hg, hc.heap hh (hn g (by rw [hv]; rfl)) strNe, r⟩
theorem Tryz.infoStr : (Tryz.prog.info? 9).map (fun i => (i.zero, i.size, i.bytes)) = some (some (.string ⟨#[]⟩), 1, 16) := by kernel_rfl
/-- append(v, x) of one string: its cell lies in a new block. -/
theorem wp_appstr {w : World} {ops : Array Oper} {rest : List Oper} {o : Oper} {a : Act} {Q : Exit → Act → World → Prop} (hgd : o.guard = none) (s x : Operand)
    (ho : o.op = .call { callee := .builtin .append, args := #[s, x], argTypes := #[58, 58] })
    (base : Nat) (v : Value) (l : List ByteArray) (hs : a.eval s = v) (c : ByteArray) (hown : SSo w base v l)
    (hx : a.eval x = .slice (some ⟨w.heap.size, 0, none⟩) 1 1)
    (hlen : l.length + 1 ≤ 1000000000000) (hbase : base ≤ w.heap.size)
    (h : ∀ v' w', SSo w' base v' (l ++ [c]) → Below base w w' → wpList Tryz.prog ops Q rest (a.put o.dst v') w') : wpList Tryz.prog ops Q (o :: rest) a (w.alloc (.cells #[.string c] 9 (0, 0))) := by
  obtain ⟨i0, hi, hz0, hz1, hz2⟩ := info_parts Tryz.infoStr
  refine wpList_append_own (w := w.alloc (.cells #[.string c] 9 (0, 0))) hgd s x 58 ho base 9 i0 (.string ⟨#[]⟩) 1 16 Tryz.underlying58 hi hz0 hz1 hz2 rfl (by decide) v l.length (l.map Value.string) hs (SSo.alloc hown _) ⟨w.heap.size, 0, none⟩ 1 1 [.string c] hx rfl ?_ (by intro u hu; simp at hu; subst hu; rfl) (by unfold maxLen; omega) (by omega) (by simp; omega) ?_
  · intro j u hu
    match j, hu with
    | 0, hu =>
      simp at hu
      subst hu
      have h1 := heap_alloc_new w (.cells #[.string c] 9 (0, 0))
      rw [show (⟨w.heap.size, 0, none⟩ : Addr).add 0 = ⟨w.heap.size, 0, none⟩ by rfl, cell_of_row _ _ _ _ _ _ h1]
      rfl
  · intro v' w' hown' hgrow _
    refine h v' w' ?_ (((Below.refl base w).alloc hbase _).grown hgrow (by simp; omega) fun k hk => (World.ownsRow.lt hown k hk).1)
    unfold SSo
    rw [List.length_append, List.map_append]
    exact hown'
theorem bsize (s : ByteArray) : s.data.toList.length = s.size := by rw [Array.length_toList]; rfl
theorem lsize (l : List UInt8) : (⟨l.toArray⟩ : ByteArray).size = l.length := by show l.toArray.size = _; rw [List.size_toArray]
theorem u8T {c d : UInt8} {n : Int} (h : c = d) (hn : n = d.toNat) : ((c.toNat : Int) == n) = true ∧ ((c.toNat : Int) != n) = false := by subst h hn; simp
theorem u8F {c d : UInt8} {n : Int} (h : c ≠ d) (hn : n = d.toNat) : ((c.toNat : Int) == n) = false ∧ ((c.toNat : Int) != n) = true := by
  have e : ((c.toNat : Int) == n) = false := by
    rw [Bool.eq_false_iff]; intro e
    have e2 := beq_iff_eq.1 e
    exact h (UInt8.toNat_inj.1 (by omega))
  exact ⟨e, by rw [bne, e]; rfl⟩
theorem below_undrew {w w' : World} (h : Below w.drew.heap.size w.drew w') : Below w.heap.size w w' := ⟨h.os, h.tape, h.output, h.size, h.block⟩
theorem below_undrewN {w w' : World} {n : Nat} (h : Below (w.drewN n).heap.size (w.drewN n) w') : Below w.heap.size w w' := ⟨h.os, h.tape, h.output, h.size, h.block⟩
theorem ret_si {a b : ByteArray} {c d : Int} {k : IntKind} (h : a = b) (h2 : c = d) : Ending.returned (.tuple #[.string a, .int k c]) = .returned (.tuple #[.string b, .int k d]) := by rw [h, h2]
theorem ret_str {a b : List UInt8} (h : a = b) : Ending.returned (.string ⟨a.toArray⟩) = .returned (.string ⟨b.toArray⟩) := by rw [h]
end Go.Proofs.YtnbefiaeihialaaGreat
