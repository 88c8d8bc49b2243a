/- Package lattice: slices.Grow, slices.Concat, slices.Clone of texts; Right. -/
import Derived.Test.YtmcianehedhfeaaGreatDoorLatD
import Derived.Test.YtmcianehedhfeaaGreatDoorLatE
import Derived.Test.YtmcianehedhfeaaGreatDoorLatArgs
import Derived.Test.YtmcianehedhfeaaGreatDoorShelf
import Derived.Lib.AppendZeros
import Derived.Laws.AppendOwnNone
import Derived.LoopN
set_option linter.unusedVariables false
set_option linter.unusedSimpArgs false
namespace Go.Proofs.YtmcianehedhfeaaGreatDoor
open Go.RowKit
theorem SSo.in_ {w : World} {base : Nat} {v : Value} {l : List ByteArray} (h : SSo w base v l) : ∃ A cap, v = .slice A l.length cap ∧ StrsIn w A l.length l ∧ l.length ≤ cap ∧ cap ≤ maxLen := by
  rcases Nat.eq_zero_or_pos l.length with h0 | h0
  · rcases h.2 with ⟨hv, _⟩ | ⟨g, cap, cur, hv, _, _, h1, h2, _⟩
    · exact ⟨none, 0, by rw [hv, h0], ⟨rfl, by omega, fun x => absurd x (by omega)⟩, by omega, by unfold maxLen; omega⟩
    · exact ⟨_, cap, hv, ⟨rfl, by omega, fun x => absurd x (by omega)⟩, h1, h2⟩
  · obtain ⟨g, cap, hv, _, hs⟩ := h.strs h0
    refine ⟨_, cap, hv, ⟨rfl, ?_, fun _ => ⟨g, 0, rfl, fun j hj => ?_⟩⟩, hs.room, hs.max⟩
    · have h1 := hs.room
      have h2 := hs.max
      unfold maxLen at h2; omega
    · rw [Nat.zero_add, hs.cell j hj]; unfold str; rw [List.getD_eq_getElem?_getD, List.getElem?_eq_getElem hj]; rfl
set_option maxRecDepth 100000 in
theorem grow_nil (n : Nat) (h1 : 1 ≤ n) (h2 : n ≤ 1000) (w : World) :
    Calls Tryz.prog 37 #[.slice none 0 0, .int .i64 n] w fun e w' => ∃ v, e = .returned v ∧ SSo w' w.heap.size v [] ∧ Below w.heap.size w w' := by
  obtain ⟨i0, hi, hz0, hz1, hz2⟩ := info_parts Tryz.infoStr
  have hr := fun w : World => Lib.run_append_nil_zeros (P := Tryz.prog) w 22 3 22 9 i0 (.string ⟨#[]⟩) .i64 .i64 Tryz.underlying22 Tryz.underlying3 hi hz0 n (by omega) (by rw [hz1]; decide) (by omega) (by rw [hz2]; omega)
  have hni : (1 : Int) ≤ (n : Int) := by omega
  have hni2 : (n : Int) ≤ 1000 := by omega
  go_enter Tryz.func37, Tryz.ntmps37
  go_wp2_with (at_builtin; refine Lib.wpList_append_run _ rfl _ _ _ _ rfl _ _ rfl rfl _ _ (hr _) ?_)
  go_ret
  have hg1 := grownCap_ge w n 0 9
  have hg2 := grownCap_le_maxLen w n 0 9 (by unfold maxLen; omega)
  refine ⟨_, rfl, ⟨rfl, .inr ⟨w.heap.size, grownCap w n 0 9, _, rfl, Nat.le_refl _, heap_alloc_new w.drew _, Nat.zero_le _, hg2, ?_, rfl⟩⟩, ((Below.refl _ w).drew).alloc (Nat.le_refl _) _⟩
  rw [Array.size_append, size_zeroCells, size_zeroCells]
  show n * 1 + _ * 1 = _
  omega
/-- append(v, x...) of a row of texts. -/
theorem wp_appss {w : World} {ops : Array Oper} {rest : List Oper} {o : Oper} {a : Act} {Q : Exit → Act → World → Prop} (hgd : o.guard = none) (s x : Operand)
    (ho : o.op = .call { callee := .builtin .append, args := #[s, x], argTypes := #[22, 22] })
    (base : Nat) (v : Value) (l : List ByteArray) (hs : a.eval s = v) (hown : SSo w base v l)
    (A : Option Addr) (m c : Nat) (xs : List ByteArray) (hx : a.eval x = .slice A m c) (hin : StrsIn w A m xs)
    (hlen : l.length + m ≤ 1000000000000) (hbase : base ≤ w.heap.size) (hnil : A = none → c = 0)
    (h : ∀ v' w', SSo w' base v' (l ++ xs) → Below base w w' → wpList Tryz.prog ops Q rest (a.put o.dst v') w') : wpList Tryz.prog ops Q (o :: rest) a w := by
  obtain ⟨i0, hi, hz0, hz1, hz2⟩ := info_parts Tryz.infoStr
  have hl := hin.len
  cases A with
  | none =>
    obtain rfl : c = 0 := hnil rfl
    have hm : m = 0 := by
      rcases Nat.eq_zero_or_pos m with h0 | h0
      · exact h0
      · obtain ⟨b, off, hA, _⟩ := hin.cells h0; cases hA
    subst hm
    obtain rfl : xs = [] := List.eq_nil_of_length_eq_zero hl
    refine wpList_append_own_none hgd s x 22 ho base 9 i0 1 Tryz.underlying22 hi v l.length (l.map Value.string) hs hown hx ?_
    exact h v w (by rw [List.append_nil]; exact hown) (Below.refl _ _)
  | some ad =>
  have hc : ∀ j, j < m → w.cell? (ad.add j) = some (.string (str xs j)) := by
    intro j hj
    obtain ⟨b, off, hA, hc⟩ := hin.cells (by omega)
    cases hA
    rw [plain_add]; exact hc j hj
  refine wpList_append_own (w := w) hgd s x 22 ho base 9 i0 (.string ⟨#[]⟩) 1 16 Tryz.underlying22 hi hz0 hz1 hz2 rfl (by decide) v l.length (l.map Value.string) hs hown ad m c (xs.map Value.string) hx (by rw [List.length_map]; omega) ?_ (by intro u hu; obtain ⟨y, _, rfl⟩ := List.mem_map.1 hu; rfl) (by unfold maxLen; omega) (by omega) hbase ?_
  · intro j u hu
    rw [List.getElem?_map] at hu
    cases hj : xs[j]? with
    | none => rw [hj] at hu; cases hu
    | some y =>
      rw [hj] at hu
      cases hu
      have hjl := (List.getElem?_eq_some_iff.1 hj).1
      rw [hc j (by omega)]
      unfold str
      rw [List.getD_eq_getElem?_getD, hj]; rfl
  · intro v' w' hown' hgrow _
    refine h v' w' ?_ ((Below.refl base w).grown hgrow hbase fun k hk => (World.ownsRow.lt hown k hk).1)
    unfold SSo
    rw [List.length_append, List.map_append, hl]
    exact hown'
/-- A slice of texts that can be read. -/
def SlIn (w : World) (v : Value) (l : List ByteArray) : Prop := ∃ A c, v = .slice A l.length c ∧ StrsIn w A l.length l ∧ (A = none → c = 0)
theorem SlIn.below {w w' : World} {v : Value} {l : List ByteArray} (h : SlIn w v l) (hb : Below w.heap.size w w') : SlIn w' v l := by
  obtain ⟨A, c, e, h1, h2⟩ := h
  exact ⟨A, c, e, h1.below hb, h2⟩
theorem SSo.slIn {w : World} {base : Nat} {v : Value} {l : List ByteArray} (h : SSo w base v l) : SlIn w v l := by
  obtain ⟨A, cap, e, h1, _⟩ := h.in_
  refine ⟨A, cap, e, h1, fun hA => ?_⟩
  subst hA
  rcases h.2 with ⟨hv, _⟩ | ⟨g, cap', cur, hv, _⟩
  · rw [e] at hv; exact (Value.slice.inj hv).2.2
  · rw [e] at hv; cases hv
set_option maxRecDepth 100000 in
set_option maxHeartbeats 2000000 in
theorem concat_any (g : Nat) (v1 v2 : Value) (lv cp : List ByteArray) (w : World) (h1 : w.cell? ⟨g, 0, none⟩ = some v1) (h2 : w.cell? ⟨g, 1, none⟩ = some v2) (hl : SlIn w v1 lv) (hc : SlIn w v2 cp) (b1 : 1 ≤ lv.length) (b2 : lv.length ≤ 16) (b3 : cp.length ≤ 64) :
    Calls Tryz.prog 26 #[.slice (some ⟨g, 0, none⟩) 2 2] w fun e w' => ∃ v, e = .returned v ∧ SSo w' w.heap.size v (lv ++ cp) ∧ Below w.heap.size w w' := by
  obtain ⟨A, c, rfl, hA, hA0⟩ := hl
  obtain ⟨B, q, rfl, hB, hB0⟩ := hc
  obtain ⟨n, hn⟩ : ∃ n, n = lv.length := ⟨_, rfl⟩
  obtain ⟨k, hk⟩ : ∃ k, k = cp.length := ⟨_, rfl⟩
  rw [← hn] at hA b1 b2 h1
  rw [← hk] at hB b3 h2
  obtain ⟨N, hN⟩ : ∃ N, N = n + k := ⟨_, rfl⟩
  have c1 := grow_nil N (by omega) (by omega)
  have hs1 : (0 : Int) ≤ (n : Int) := by omega
  have hs2 : (n : Int) ≤ 16 := by omega
  have hs3 : (0 : Int) ≤ (k : Int) := by omega
  have hs4 : (k : Int) ≤ 64 := by omega
  have hsum : (n : Int) + (k : Int) = (N : Int) := by omega
  have hN0 : (0 : Int) ≤ (N : Int) := by omega
  clear hN
  have HA := Lib.hid (And.intro hA hA0)
  have HB := Lib.hid (And.intro hB hB0)
  have HNK := Lib.hid (And.intro hn hk)
  clear hA hA0 hB hB0 hn hk
  go_enter Tryz.func26, Tryz.ntmps26
  go_wp2
  refine wp_loop_rounds 3 ?_
  rw [rounds_succ]
  go_wp2
  rw [rounds_succ]
  go_wp2
  rw [rounds_succ]
  go_wp2_with fail
  refine (c1 w).mono ?_
  rintro e w1 ⟨v0, rfl, ho0, hb0⟩
  have hb0' := hb0.mono (Nat.le_refl _)
  have e1 : w1.cell? ⟨g, 0, none⟩ = some (.slice A n c) := (hb0.cell (p := ⟨g, 0, none⟩) (World.block_lt_of_cell? _ _ h1)).trans h1
  have e2 : w1.cell? ⟨g, 1, none⟩ = some (.slice B k q) := (hb0.cell (p := ⟨g, 1, none⟩) (World.block_lt_of_cell? _ _ h2)).trans h2
  have hA1 : StrsIn w1 A n lv := HA.out.1.below hb0
  have hwl : w.heap.size ≤ w1.heap.size := hb0.size
  have H1 := Lib.hid (And.intro hb0 (HB.out.1.below hb0))
  have H0 := Lib.hid (And.intro h1 h2)
  clear c1 hb0 hb0' h1 h2
  go_wp2
  refine wp_loop_rounds 3 ?_
  rw [rounds_succ]
  go_wp2_with (at_builtin; refine wp_appss rfl (.tmp 31) (.tmp 32) rfl w.heap.size v0 [] rfl ho0 A n c lv rfl hA1 (by simp; omega) hwl HA.out.2 ?_)
  intro v1 w2 ho1 hb1
  have hbw1 : Below w.heap.size w w2 := H1.out.1.trans hb1
  have e2' : w2.cell? ⟨g, 1, none⟩ = some (.slice B k q) := (hbw1.cell (p := ⟨g, 1, none⟩) (World.block_lt_of_cell? _ _ H0.out.2)).trans H0.out.2
  have hB1 : StrsIn w2 B k cp := HB.out.1.below hbw1
  have hwl2 : w.heap.size ≤ w2.heap.size := hbw1.size
  have hl1 : lv.length + k ≤ 1000000000000 := by have := HNK.out.1; omega
  have H2 := Lib.hid hbw1
  clear ho0 hA1 hb1 hbw1 e1 e2
  go_wp2
  rw [rounds_succ]
  go_wp2_with (at_builtin; refine wp_appss rfl (.tmp 31) (.tmp 32) rfl w.heap.size v1 lv rfl ho1 B k q cp rfl hB1 hl1 hwl2 HB.out.2 ?_)
  intro v2 w3 ho2 hb2
  have H3 := Lib.hid (And.intro ho2 (H2.out.trans hb2))
  clear ho1 ho2 hb2
  go_wp2
  rw [rounds_succ]
  go_wp2
  go_ret
  exact ⟨_, rfl, H3.out.1, H3.out.2⟩
end Go.Proofs.YtmcianehedhfeaaGreatDoor
