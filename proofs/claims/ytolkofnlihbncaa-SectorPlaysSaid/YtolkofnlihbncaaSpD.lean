/- The document's disk: Write. -/
import Derived.Test.YtolkofnlihbncaaSpC
import Derived.Deep.DeepCutAuto
set_option linter.unusedVariables false
set_option linter.unusedSimpArgs false
namespace Go.Proofs.Ytolkofnlihbncaa
open Go.RowKit
theorem sso_zero (w : World) {base : Nat} (hB : base ≤ w.heap.size) : SSo (w.alloc (.cells #[] 9 (0, 0))) base (.slice (some ⟨w.heap.size, 0, none⟩) 0 0) [] :=
  ⟨rfl, .inr ⟨w.heap.size, 0, #[], rfl, hB, heap_alloc_new _ _, Nat.zero_le _, by unfold maxLen; omega, rfl, rfl⟩⟩
/-- append(v, x...) of a row of texts. -/
theorem wp_appSS {w : World} {ops : Array Oper} {rest : List Oper} {o : Oper} {a : Go.Act} {Q : Exit → Go.Act → World → Prop} (hgd : o.guard = none) (s x : Operand)
    (ho : o.op = .call { callee := .builtin .append, args := #[s, x], argTypes := #[42, 42] })
    (base : Nat) (v : Value) (l : List ByteArray) (hs : a.eval s = v) (hown : SSo w base v l)
    (base2 g n c : Nat) (xs : List ByteArray) (hx : a.eval x = .slice (some ⟨g, 0, none⟩) n c) (hin : SSo w base2 (.slice (some ⟨g, 0, none⟩) n c) xs) (hn : xs.length = n)
    (hlen : l.length + xs.length ≤ 1000000000000) (hbase : base ≤ w.heap.size)
    (h : ∀ v' w', SSo w' base v' (l ++ xs) → Below base w w' → wpList Try.prog ops Q rest (a.put o.dst v') w') : wpList Try.prog ops Q (o :: rest) a w := by
  obtain ⟨i0, hi, hz0, hz1, hz2⟩ := info_parts Try.infoStr
  refine wpList_append_own (w := w) hgd s x 42 ho base 9 i0 (.string ⟨#[]⟩) 1 16 Try.underlying42 hi hz0 hz1 hz2 rfl (by decide) v l.length (l.map Value.string) hs hown ⟨g, 0, none⟩ n c (xs.map Value.string) hx (by rw [List.length_map, hn]; omega) ?_ (by intro u hu; obtain ⟨y, _, rfl⟩ := List.mem_map.1 hu; rfl) (by unfold maxLen; omega) (by omega) hbase ?_
  · intro j u hu
    rw [List.getElem?_map] at hu
    cases hj : xs[j]? with
    | none => rw [hj] at hu; cases hu
    | some y =>
      rw [hj] at hu
      cases hu
      have hjl := (List.getElem?_eq_some_iff.1 hj).1
      have hy := (List.getElem?_eq_some_iff.1 hj).2
      have q := (hin.at_ hjl).1
      rw [hy] at q
      have hadd : (⟨g, 0, none⟩ : Addr).add j = ⟨g, j, none⟩ := by unfold Addr.add; split <;> simp_all
      rw [hadd]
      exact q
  · intro v' w' hown' hgrow _
    refine h v' w' ?_ ((Below.refl base w).grown hgrow hbase fun k hk => (World.ownsRow.lt hown k hk).1)
    unfold SSo
    rw [List.length_append, List.map_append, hn]
    exact hown'
/-- The sectors behind a write that is let in. -/
def wrT (k : Dk) (i : Nat) (s : List UInt8) : List UInt8 := if k.cut = k.since + 1 then (fill s).take (tornN k) ++ (sec k i).drop (tornN k) else fill s
theorem tornN_le (k : Dk) : tornN k ≤ 64 := by unfold tornN; omega
theorem wrT_len {k : Dk} (hk : k.Ok) {i : Nat} (hi : i < k.n) {s : List UInt8} (hs : s.length ≤ 64) : (wrT k i s).length = 64 := by
  have h1 := fill_len hs
  have h2 := sec_len hk hi
  have h3 := tornN_le k
  unfold wrT
  split
  · simp only [List.length_append, List.length_take, List.length_drop]; omega
  · exact h1
theorem putAt_part (d : List UInt8) (o : Nat) (x : List UInt8) (n : Nat) (h : o + x.length ≤ d.length) : putAt d o (x.take n) = putAt d o (x.take n ++ ((d.drop o).take x.length).drop n) := by
  unfold putAt
  have e1 : (d.drop o).take x.length = (d.drop o).take x.length := rfl
  apply List.ext_getElem?
  intro m
  simp only [List.getElem?_append, List.length_append, List.length_take, List.length_drop, List.getElem?_take, List.getElem?_drop]
  repeat' split
  all_goals first
    | rfl
    | omega
    | (congr 1; omega)
theorem wrote_data {k : Dk} (hk : k.Ok) {i : Nat} (hi : i < k.n) {s : List UInt8} (hs : s.length ≤ 64) : (wroteK k i s).data = putAt k.data (i * 64) (wrT k i s) := by
  have hlen := hk.len
  have hf := fill_len hs
  unfold wroteK wrT
  split
  · rw [putAt_part _ _ _ _ (by rw [hf]; omega), hf]; rfl
  · rfl
theorem wroteK_n (k : Dk) (i : Nat) (s : List UInt8) : (wroteK k i s).n = k.n := by unfold wroteK; split <;> rfl
theorem secL_wrote {k : Dk} (hk : k.Ok) {i : Nat} (hi : i < k.n) {s : List UInt8} (hs : s.length ≤ 64) : secL (wroteK k i s) = (secL k).set i ⟨(wrT k i s).toArray⟩ := by
  have hp := fun j (hj : j < k.n) => sec_put hk (k' := wroteK k i s) hi (wrT_len hk hi hs) (wroteK_n k i s) (wrote_data hk hi hs) hj
  apply List.ext_getElem
  · rw [List.length_set, secL_len, secL_len, wroteK_n]
  · intro j h1 h2
    rw [secL_len, wroteK_n] at h1
    rw [secL_get, List.getElem_set]
    unfold secS
    rw [hp j h1]
    by_cases e : i = j
    · rw [if_pos e.symm, if_pos e]
    · rw [if_neg (fun h => e h.symm), if_neg e, secL_get]; rfl
set_option maxRecDepth 100000 in
set_option maxHeartbeats 4000000 in
theorem rwrite_no (A : Option Addr) (n c : Nat) (k : Dk) (i : Int) (s : ByteArray) (w : World) (hk : k.n = n) (hn : n ≤ 4096) (hs2 : s.size ≤ 9223372036854775807) (h : ¬ (k.down = false ∧ (0 ≤ i ∧ i < k.n) ∧ s.size ≤ 64)) :
    Calls Try.prog 17 #[dkV (.slice A n c) k, .int .i64 i, .string s] w fun e w' => e = .returned (.tuple #[dkV (.slice A n c) k, .int .i64 (writeC k i s.data.toList)]) ∧ Below w.heap.size w w' := by
  subst hk
  have hs0 : (0 : Int) ≤ (s.size : Int) := by omega
  have hn0 : (0 : Int) ≤ (k.n : Int) := by omega
  unfold dkV
  by_cases hd : k.down = true
  · have e : writeC k i s.data.toList = 6 := by unfold writeC; rw [if_pos hd]
    rw [e, hd]
    clear e h hd
    go_enter Try.func17, Try.ntmps17
    go_wp2
    exact ret_dk2 rfl rfl rfl rfl (heap2_new w _ _) rfl ⟨rfl, below2 w _ _⟩
  · have hd : k.down = false := by simpa using hd
    by_cases h0 : i < 0
    · have e : writeC k i s.data.toList = 1 := by unfold writeC; rw [if_neg (by simp [hd]), if_pos (by omega)]
      rw [e, hd]
      clear e h hd
      go_enter Try.func17, Try.ntmps17
      go_wp2
      exact ret_dk2 rfl rfl rfl rfl (heap2_new w _ _) rfl ⟨rfl, below2 w _ _⟩
    · by_cases h1 : (k.n : Int) ≤ i
      · have e : writeC k i s.data.toList = 1 := by unfold writeC; rw [if_neg (by simp [hd]), if_pos (by omega)]
        have h01 : 0 ≤ i := by omega
        rw [e, hd]
        clear e h hd h0
        go_enter Try.func17, Try.ntmps17
        go_wp2
        exact ret_dk2 rfl rfl rfl rfl (heap2_new w _ _) rfl ⟨rfl, below2 w _ _⟩
      · have hl : ¬ s.size ≤ 64 := fun hh => h ⟨hd, by omega, hh⟩
        have e : writeC k i s.data.toList = 3 := by unfold writeC; rw [if_neg (by simp [hd]), if_neg (fun hh => hh (by omega)), if_pos (by rw [bszS]; omega)]
        have hl2 : (64 : Int) < (s.size : Int) := by omega
        have h01 : 0 ≤ i := by omega
        have h02 : i < (k.n : Int) := by omega
        rw [e, hd]
        clear e h hd h0 h1 hl
        go_enter Try.func17, Try.ntmps17
        go_wp2
        exact ret_dk2 rfl rfl rfl rfl (heap2_new w _ _) rfl ⟨rfl, below2 w _ _⟩
/-- What holds while a write is carried out: the variable is block b, the result's b + 1. -/
structure WrI (w0 : World) (b : Nat) (x1 x2 x3 x4 x5 : Value) (g n c : Nat) (L : List ByteArray) (W : World) : Prop where
  zero : W.heap[b + 1]? = some (.cells #[.slice none 0 0, .int .i64 0, .int .i64 0, .int .i64 0, .bool false, .int .i64 0] 44 (0, 0))
  var : W.heap[b]? = some (.cells #[.slice (some ⟨g, 0, none⟩) n c, x1, x2, x3, x4, x5] 44 (0, 0))
  own : SSo W (b + 2) (.slice (some ⟨g, 0, none⟩) n c) L
  below : Below b w0 W
theorem WrI.mono {w0 W W' : World} {b g n c : Nat} {x1 x2 x3 x4 x5 : Value} {L : List ByteArray} (h : WrI w0 b x1 x2 x3 x4 x5 g n c L W) (hb : Below W.heap.size W W') : WrI w0 b x1 x2 x3 x4 x5 g n c L W' :=
  ⟨(hb.block _ (lt_of_block h.zero)).trans h.zero, (hb.block _ (lt_of_block h.var)).trans h.var, h.own.below hb, h.below.trans (hb.mono (by have := lt_of_block h.var; omega))⟩
theorem WrI.drew {w0 W : World} {b g n c : Nat} {x1 x2 x3 x4 x5 : Value} {L : List ByteArray} (h : WrI w0 b x1 x2 x3 x4 x5 g n c L W) : WrI w0 b x1 x2 x3 x4 x5 g n c L W.drew := h.mono (Below.refl _ _).drew
theorem WrI.facts {w0 W : World} {b g n c : Nat} {x1 x2 x3 x4 x5 : Value} {L : List ByteArray} (h : WrI w0 b x1 x2 x3 x4 x5 g n c L W) {i : Nat} {x : ByteArray} (hx : L[i]? = some x) :
    W.cell? ⟨b, 0, none⟩ = some (.slice (some ⟨g, 0, none⟩) n c) ∧ W.cell? ⟨g, i, none⟩ = some (.string x) ∧ W.frozen? ⟨g, i, none⟩ = false := by
  have hi := (List.getElem?_eq_some_iff.1 hx).1
  have hy := (List.getElem?_eq_some_iff.1 hx).2
  have q := h.own.at_ hi
  rw [hy] at q
  exact ⟨by rw [cell_of_row _ _ _ _ _ _ h.var]; rfl, q.1, q.2⟩
theorem SSo.ge {w : World} {base g n c : Nat} {l : List ByteArray} (h : SSo w base (.slice (some ⟨g, 0, none⟩) n c) l) : base ≤ g := by
  rcases h.2 with ⟨hv, _⟩ | ⟨g', cap', cur, hv, hb, hg, hn, hm, hsz, ht⟩
  · cases hv
  · obtain ⟨e1, e2, e3⟩ := Value.slice.inj hv
    cases e1
    exact hb
theorem WrI.put {w0 W : World} {b g n c : Nat} {x1 x2 x3 x4 x5 : Value} {L : List ByteArray} (h : WrI w0 b x1 x2 x3 x4 x5 g n c L W) {i : Nat} (hi : i < L.length) (x : ByteArray) : WrI w0 b x1 x2 x3 x4 x5 g n c (L.set i x) (W.setCell ⟨g, i, none⟩ (.string x)) := by
  have hg := h.own.ge
  exact ⟨(Below.heap_setCell _ _ _ _ (by show b + 1 ≠ g; omega)).trans h.zero, (Below.heap_setCell _ _ _ _ (by show b ≠ g; omega)).trans h.var, h.own.put hi x, h.below.setCell (p := ⟨g, i, none⟩) (by show b ≤ g; omega) _⟩
theorem WrI.fin {w0 W : World} {b g n c : Nat} {x1 x2 x3 x4 x5 : Value} {L : List ByteArray} (h : WrI w0 b x1 x2 x3 x4 x5 g n c L W) (hb : b = w0.heap.size) :
    ((((((W.setCell ⟨b + 1, 0, none⟩ (.slice (some ⟨g, 0, none⟩) n c)).setCell ⟨b + 1, 1, none⟩ x1).setCell ⟨b + 1, 2, none⟩ x2).setCell ⟨b + 1, 3, none⟩ x3).setCell ⟨b + 1, 4, none⟩ x4).setCell ⟨b + 1, 5, none⟩ x5).heap[b + 1]? = some (.cells #[.slice (some ⟨g, 0, none⟩) n c, x1, x2, x3, x4, x5] 44 (0, 0)) ∧
    SSo ((((((W.setCell ⟨b + 1, 0, none⟩ (.slice (some ⟨g, 0, none⟩) n c)).setCell ⟨b + 1, 1, none⟩ x1).setCell ⟨b + 1, 2, none⟩ x2).setCell ⟨b + 1, 3, none⟩ x3).setCell ⟨b + 1, 4, none⟩ x4).setCell ⟨b + 1, 5, none⟩ x5) b (.slice (some ⟨g, 0, none⟩) n c) L ∧
    Below b w0 ((((((W.setCell ⟨b + 1, 0, none⟩ (.slice (some ⟨g, 0, none⟩) n c)).setCell ⟨b + 1, 1, none⟩ x1).setCell ⟨b + 1, 2, none⟩ x2).setCell ⟨b + 1, 3, none⟩ x3).setCell ⟨b + 1, 4, none⟩ x4).setCell ⟨b + 1, 5, none⟩ x5) := by
  subst hb
  have hs6 := six_set h.zero (.slice (some ⟨g, 0, none⟩) n c) x1 x2 x3 x4 x5
  refine ⟨hs6.1, ?_, Eff.belowOne h.below hs6.2 (Nat.le_succ _)⟩
  exact SSo.mono (Eff.own hs6.2 h.own (fun k hk e => by have h1 := (World.ownsRow.lt h.own k hk).1; have h2 : k = w0.heap.size + 1 := e; omega)) (Nat.le_add_right _ 2)
theorem WrI.down {w0 W : World} {b g n c : Nat} {x1 x2 x3 x4 x5 : Value} {L : List ByteArray} (h : WrI w0 b x1 x2 x3 x4 x5 g n c L W) (y1 y2 y4 : Value) :
    WrI w0 b y1 y2 x3 y4 x5 g n c L (((W.setCell ⟨b, 1, none⟩ y1).setCell ⟨b, 2, none⟩ y2).setCell ⟨b, 4, none⟩ y4) :=
  ⟨(Below.heap_setCell _ _ _ _ (by show b + 1 ≠ b; omega)).trans ((Below.heap_setCell _ _ _ _ (by show b + 1 ≠ b; omega)).trans ((Below.heap_setCell _ _ _ _ (by show b + 1 ≠ b; omega)).trans h.zero)),
   (setCell_heap (setCell_heap (setCell_heap h.var 1 y1) 2 y2) 4 y4).trans (by rfl),
   SSo.eff' (SSo.eff' (SSo.eff' h.own (by show b < b + 2; omega)) (by show b < b + 2; omega)) (by show b < b + 2; omega),
   ((h.below.setCell (p := ⟨b, 1, none⟩) (Nat.le_refl _) _).setCell (p := ⟨b, 2, none⟩) (Nat.le_refl _) _).setCell (p := ⟨b, 4, none⟩) (Nat.le_refl _) _⟩
theorem torn_str {k : Dk} {i T : Nat} {s FS SS : ByteArray} (hFS : FS = ⟨(fill s.data.toList).toArray⟩) (hSS : SS = secS k i) (hk : k.Ok) (hi : i < k.n) (hs : s.data.toList.length ≤ 64) (hT : tornN k = T) (hc : k.cut = k.since + 1) :
    FS.extract 0 T ++ SS.extract T SS.size = ⟨(wrT k i s.data.toList).toArray⟩ := by
  have hT2 := tornN_le k
  have h1 : SS.size = 64 := by rw [hSS]; show (sec k i).toArray.size = 64; rw [List.size_toArray, sec_len hk hi]
  have h2 := fill_len hs
  have h3 := sec_len hk hi
  rw [h1]
  apply ByteArray.ext
  apply Array.ext'
  unfold wrT
  rw [if_pos hc, hT, hFS, hSS]
  simp [secS, ByteArray.data_append, ByteArray.data_extract]
  rw [List.take_of_length_le]
  rw [List.length_drop, h3]; exact Nat.le_refl _
set_option maxRecDepth 100000 in
set_option maxHeartbeats 8000000 in
theorem rwrite_in (g n c base : Nat) (k : Dk) (i : Nat) (s : ByteArray) (w : World) (hk : k.Ok) (hkn : k.n = n) (h : SSo w base (.slice (some ⟨g, 0, none⟩) n c) (secL k)) (hd : k.down = false) (hi : i < k.n) (hs : s.size ≤ 64)
    (b1 : 0 ≤ k.since) (b2 : k.since < 1000000000000) (b3 : 0 ≤ k.all) (b4 : k.all < 1000000000000) :
    Calls Try.prog 17 #[dkV (.slice (some ⟨g, 0, none⟩) n c) k, .int .i64 i, .string s] w fun e w' => ∃ sl, e = .returned (.tuple #[dkV sl (wroteK k i s.data.toList), .int .i64 (wroteC k)]) ∧ SSo w' w.heap.size sl (secL (wroteK k i s.data.toList)) ∧ Below w.heap.size w w' := by
  have hn2 := hk.n2
  have hs0 : (0 : Int) ≤ (s.size : Int) := by omega
  have hn0 : (0 : Int) ≤ (n : Int) := by omega
  have hi0 : (0 : Int) ≤ (i : Int) := by omega
  have hi1 : (i : Int) < (n : Int) := by omega
  have hi2 : ¬ (n : Int) ≤ (i : Int) := by omega
  have hw1 : IntKind.i64.wrap (k.all + 1) = k.all + 1 := by rw [IntKind.wrap_i64]; omega
  have hw2 : IntKind.i64.wrap (k.since + 1) = k.since + 1 := by rw [IntKind.wrap_i64]; omega
  have hsl : s.data.toList.length ≤ 64 := by rw [bszS]; exact hs
  have hL := secL_wrote hk hi hsl
  have hlen := secL_len k
  have cf := fun W => rfill_any s W hs
  have hget : (secL k)[i]? = some (secS k i) := by rw [List.getElem?_eq_getElem (by rw [hlen]; exact hi), secL_get]
  obtain ⟨FS, hFS⟩ : ∃ f : ByteArray, f = ⟨(fill s.data.toList).toArray⟩ := ⟨_, rfl⟩
  rw [← hFS] at cf
  have hb2 := below2 w (.cells #[.slice (some ⟨g, 0, none⟩) n c, .int .i64 k.cut, .int .i64 k.torn, .int .i64 (k.since + 1), .bool false, .int .i64 (k.all + 1)] 44 (0, 0)) (.cells #[.slice none 0 0, .int .i64 0, .int .i64 0, .int .i64 0, .bool false, .int .i64 0] 44 (0, 0))
  have hz2 := heap2_new w (.cells #[.slice (some ⟨g, 0, none⟩) n c, .int .i64 k.cut, .int .i64 k.torn, .int .i64 (k.since + 1), .bool false, .int .i64 (k.all + 1)] 44 (0, 0)) (.cells #[.slice none 0 0, .int .i64 0, .int .i64 0, .int .i64 0, .bool false, .int .i64 0] 44 (0, 0))
  have hv2 := (Below.heap_alloc (w.alloc (.cells #[.slice (some ⟨g, 0, none⟩) n c, .int .i64 k.cut, .int .i64 k.torn, .int .i64 (k.since + 1), .bool false, .int .i64 (k.all + 1)] 44 (0, 0))) (.cells #[.slice none 0 0, .int .i64 0, .int .i64 0, .int .i64 0, .bool false, .int .i64 0] 44 (0, 0)) w.heap.size (by simp)).trans (heap_alloc_new w _)
  have H := Lib.hid (And.intro h (And.intro hL (And.intro hlen (And.intro hFS (And.intro hk (And.intro hget hsl))))))
  have H2 := Lib.hid (And.intro hb2 (And.intro hz2 hv2))
  have CF := Lib.hid cf
  clear h hL hlen hFS cf hget hk hb2 hz2 hv2 hsl
  unfold dkV
  rw [hd]
  go_enter Try.func17, Try.ntmps17
  go_upto_region 9 with fail
  generalize ((w.alloc (.cells #[.slice (some ⟨g, 0, none⟩) n c, .int .i64 k.cut, .int .i64 k.torn, .int .i64 (k.since + 1), .bool false, .int .i64 (k.all + 1)] 44 (0, 0))).alloc (.cells #[.slice none 0 0, .int .i64 0, .int .i64 0, .int .i64 0, .bool false, .int .i64 0] 44 (0, 0))) = w2 at *
  have hs2 : w.heap.size + 2 ≤ w2.heap.size := lt_of_block H2.out.2.1
  have v0 : ∀ o, (w2.alloc o).cell? ⟨w.heap.size, 0, none⟩ = some (.slice (some ⟨g, 0, none⟩) n c) := fun o => by rw [cell_of_row _ _ _ _ _ _ ((Below.heap_alloc _ _ _ (by omega)).trans H2.out.2.2)]; rfl
  have hz3 := sso_zero w2 (base := w.heap.size + 2) hs2
  have hin3 := H.out.1.below ((H2.out.1).alloc (by omega) (.cells #[] 9 (0, 0)))
  have hl3 : ([] : List ByteArray).length + (secL k).length ≤ 1000000000000 := by rw [H.out.2.2.1]; simp; omega
  have hl4 : (secL k).length = n := by rw [H.out.2.2.1]; exact hkn
  have hs3 : w.heap.size + 2 ≤ (w2.alloc (.cells #[] 9 (0, 0))).heap.size := by simp; omega
  go_wp2_with (at_builtin; refine wp_appSS rfl (.tmp 34) (.tmp 36) rfl (w.heap.size + 2) _ [] rfl hz3 base g n c (secL k) rfl hin3 hl4 hl3 hs3 ?_)
  intro v4 w4 ho4 hb4
  try rw [List.nil_append] at ho4
  obtain ⟨g4, c4, rfl, hg4, hg4s, _, _⟩ := ho4.row (by rw [hl4]; omega)
  rw [hl4] at ho4
  try rw [hl4]
  have hv4 := (hb4.block w.heap.size (by omega)).trans ((Below.heap_alloc _ _ _ (by omega)).trans H2.out.2.2)
  have hz4 := (hb4.block (w.heap.size + 1) (by omega)).trans ((Below.heap_alloc _ _ _ (by omega)).trans H2.out.2.1)
  have hB4 : Below w.heap.size w w4 := (H2.out.1.alloc (by omega) (.cells #[] 9 (0, 0))).trans (hb4.mono (by omega))
  have v4 : w4.cell? ⟨w.heap.size, 0, none⟩ = some (.slice (some ⟨g, 0, none⟩) n c) := by rw [cell_of_row _ _ _ _ _ _ hv4]; rfl
  have f4 : w4.frozen? ⟨w.heap.size, 0, none⟩ = false := frozen_of_row _ _ _ _ _ hv4
  have hI : WrI w w.heap.size (.int .i64 k.cut) (.int .i64 k.torn) (.int .i64 (k.since + 1)) (.bool false) (.int .i64 (k.all + 1)) g4 n c4 (secL k) (w4.setCell ⟨w.heap.size, 0, none⟩ (.slice (some ⟨g4, 0, none⟩) n c4)) :=
    ⟨(Below.heap_setCell _ _ _ _ (by show w.heap.size + 1 ≠ w.heap.size; omega)).trans hz4, (setCell_heap hv4 0 _).trans (by rfl), ho4.eff' (by show w.heap.size < w.heap.size + 2; omega), hB4.setCell (p := ⟨w.heap.size, 0, none⟩) (Nat.le_refl _) _⟩
  have HI := Lib.hid hI
  clear v0 hz3 hin3 hl3 hs3 ho4 hb4 hv4 hz4 hB4 hI hg4 hg4s
  go_upto_region 10 with fail
  clear v4 f4
  generalize w4.setCell ⟨w.heap.size, 0, none⟩ (.slice (some ⟨g4, 0, none⟩) n c4) = w5 at *
  have q0 := cell_of_row _ _ 0 _ _ _ HI.out.var
  have q1 := cell_of_row _ _ 1 _ _ _ HI.out.var
  have q2 := cell_of_row _ _ 2 _ _ _ HI.out.var
  have q3 := cell_of_row _ _ 3 _ _ _ HI.out.var
  by_cases hhit : k.cut = k.since + 1
  · have hge : (1 : Int) ≤ k.cut := by omega
    have heq : (k.cut == k.since + 1) = true := beq_iff_eq.2 hhit
    have e1 : wroteC k = 6 := wroteC_hit hhit
    have e2 := wroteK_hit (i := i) (s := s.data.toList) hhit
    obtain ⟨SS, hSS⟩ : ∃ x : ByteArray, x = secS k i := ⟨_, rfl⟩
    have hz1 : SS.size = 64 := by rw [hSS]; show (sec k i).toArray.size = 64; rw [List.size_toArray, sec_len H.out.2.2.2.2.1 hi]
    have hz2 : FS.size = 64 := by rw [H.out.2.2.2.1]; show (fill s.data.toList).toArray.size = 64; rw [List.size_toArray, fill_len H.out.2.2.2.2.2.2]
    have hts : ∀ T : Nat, tornN k = T → FS.extract 0 T ++ SS.extract T 64 = ⟨(wrT k i s.data.toList).toArray⟩ := fun T hT => by
      rw [← hz1]
      exact torn_str H.out.2.2.2.1 hSS H.out.2.2.2.2.1 hi H.out.2.2.2.2.2.2 hT hhit
    have hfa := HI.out.facts H.out.2.2.2.2.2.1
    rw [← hSS] at hfa
    obtain ⟨m0, m1, m2⟩ := hfa
    have KEY := Lib.hid (fun W W' (h : WrI w w.heap.size (.int .i64 k.cut) (.int .i64 k.torn) (.int .i64 (k.since + 1)) (.bool false) (.int .i64 (k.all + 1)) g4 n c4 (secL k) W) (hb : Below W.heap.size W W') => (⟨by have := (h.mono hb).facts H.out.2.2.2.2.2.1; rw [← hSS] at this; exact this, h.mono hb⟩ : (W'.cell? ⟨w.heap.size, 0, none⟩ = some (.slice (some ⟨g4, 0, none⟩) n c4) ∧ W'.cell? ⟨g4, i, none⟩ = some (.string SS) ∧ W'.frozen? ⟨g4, i, none⟩ = false) ∧ WrI w w.heap.size (.int .i64 k.cut) (.int .i64 k.torn) (.int .i64 (k.since + 1)) (.bool false) (.int .i64 (k.all + 1)) g4 n c4 (secL k) W'))
    have HM := Lib.hid (And.intro e1 (And.intro e2 (And.intro hts hSS)))
    have HJ := HI.out
    clear e1 e2 hts hSS hhit hl4
    obtain ⟨M1, hM1⟩ : ∃ M1 : Int, M1 = if k.torn < 0 then 0 else k.torn := ⟨_, rfl⟩
    obtain ⟨T, hT⟩ : ∃ T : Nat, tornN k = T := ⟨_, rfl⟩
    have hT0 : T ≤ 64 := by rw [← hT]; exact tornN_le k
    have hM2 : (if 64 < M1 then 64 else M1) = (T : Int) := by rw [hM1, ← hT]; unfold tornN; (repeat' split) <;> omega
    have HT := Lib.hid (And.intro hM1 (And.intro hM2 (HM.out.2.2.1 T hT)))
    clear hM1 hM2 hT
    go_upto_if 55 with fail
    go_cut [8] (fun a wx => a = .int .i64 M1 ∧ w5 = wx)
    case first =>
      by_cases ht : k.torn < 0
      · have e := HT.out.1
        rw [if_pos ht] at e
        have HE := Lib.hid e
        clear e
        go_wp2
        go_meet
        rw [HE.out]
        exact ⟨rfl, rfl⟩
      · have e := HT.out.1
        rw [if_neg ht] at e
        have HE := Lib.hid e
        clear e
        go_wp2
        go_meet
        rw [HE.out]
        exact ⟨rfl, rfl⟩
    case rest =>
      obtain ⟨rfl, rfl⟩ := hcut
      go_upto_if 57 with fail
      go_cut [8] (fun a wx => a = .int .i64 T ∧ w5 = wx)
      case first =>
        by_cases ht : 64 < M1
        · have e := HT.out.2.1
          rw [if_pos ht] at e
          have HE := Lib.hid e
          clear e
          go_wp2
          go_meet
          rw [← HE.out]
          exact ⟨rfl, rfl⟩
        · have e := HT.out.2.1
          rw [if_neg ht] at e
          have HE := Lib.hid e
          clear e
          go_wp2
          go_meet
          rw [← HE.out]
          exact ⟨rfl, rfl⟩
      case rest =>
        obtain ⟨rfl, rfl⟩ := hcut
        have hT1 : (0 : Int) ≤ (T : Int) := by omega
        have hT2 : (T : Int) ≤ 64 := by omega
        go_upto_region 16 with fail
        go_cut [] (fun wx => Hid (WrI w w.heap.size (.int .i64 k.cut) (.int .i64 k.torn) (.int .i64 (k.since + 1)) (.bool false) (.int .i64 (k.all + 1)) g4 n c4 ((secL k).set i (FS.extract 0 T ++ SS.extract T 64)) wx))
        case first =>
          go_region_law (go_simp; go_at_call 26; (with_reducible refine (CF.out _).mono ?_); rintro e w9 ⟨rfl, hb9⟩; obtain ⟨⟨m4, m5, m6⟩, hP⟩ := KEY.out _ _ (by repeat (first | assumption | with_reducible refine WrI.drew ?_)) hb9)
          all_goals
            have hN := Lib.hid (hP.put (i := i) (by rw [H.out.2.2.1]; omega) (FS.extract 0 T ++ SS.extract T 64))
            clear hP m4 m5 m6 hb9
            go_wp2
            go_meet
            exact hN
        case rest =>
          have hN := hcut.out
          have v1 := cell_of_row _ _ 1 _ _ _ hN.var
          have v2 := cell_of_row _ _ 2 _ _ _ hN.var
          have v4 := cell_of_row _ _ 4 _ _ _ hN.var
          have fz1 := frozen_of_row _ _ 1 _ _ hN.var
          have fz2 := frozen_of_row _ _ 2 _ _ hN.var
          have fz4 := frozen_of_row _ _ 4 _ _ hN.var
          have hD := hN.down (.int .i64 0) (.int .i64 0) (.bool true)
          have HD := Lib.hid hD
          clear hN hcut hD KEY HJ HI H2 CF m0 m1 m2
          go_upto_region 19 with fail
          clear v1 v2 v4 fz1 fz2 fz4
          generalize ((wc.setCell ⟨w.heap.size, 1, none⟩ (.int .i64 0)).setCell ⟨w.heap.size, 2, none⟩ (.int .i64 0)).setCell ⟨w.heap.size, 4, none⟩ (.bool true) = w8 at *
          have hN := HD.out
          have q0 := cell_of_row _ _ 0 _ _ _ hN.var
          have q1 := cell_of_row _ _ 1 _ _ _ hN.var
          have q2 := cell_of_row _ _ 2 _ _ _ hN.var
          have q3 := cell_of_row _ _ 3 _ _ _ hN.var
          have q4 := cell_of_row _ _ 4 _ _ _ hN.var
          have q5 := cell_of_row _ _ 5 _ _ _ hN.var
          have p0 := cell_of_row _ _ 0 _ _ _ hN.zero
          have p1 := cell_of_row _ _ 1 _ _ _ hN.zero
          have p2 := cell_of_row _ _ 2 _ _ _ hN.zero
          have p3 := cell_of_row _ _ 3 _ _ _ hN.zero
          have p4 := cell_of_row _ _ 4 _ _ _ hN.zero
          have p5 := cell_of_row _ _ 5 _ _ _ hN.zero
          have f0 := frozen_of_row _ _ 0 _ _ hN.zero
          have f1 := frozen_of_row _ _ 1 _ _ hN.zero
          have f2 := frozen_of_row _ _ 2 _ _ hN.zero
          have f3 := frozen_of_row _ _ 3 _ _ hN.zero
          have f4 := frozen_of_row _ _ 4 _ _ hN.zero
          have f5 := frozen_of_row _ _ 5 _ _ hN.zero
          have HNN := Lib.hid hN
          clear hN
          go_wp2
          have hfin := HNN.out.fin rfl
          have hr := hfin.1
          have HZ := Lib.hid hfin
          clear hfin
          refine ret_dk2 rfl rfl rfl rfl hr rfl ⟨.slice (some ⟨g4, 0, none⟩) n c4, ?_, ?_, HZ.out.2.2⟩
          · rw [HM.out.2.1, HM.out.1]; rfl
          · rw [H.out.2.1, ← HT.out.2.2]
            exact HZ.out.2.1
  · have hne : (k.cut == k.since + 1) = false := by rw [Bool.eq_false_iff]; intro e; exact hhit (beq_iff_eq.1 e)
    have e1 : wroteC k = 0 := wroteC_miss hhit
    have e2 := wroteK_miss (i := i) (s := s.data.toList) hhit
    have e3 : wrT k i s.data.toList = fill s.data.toList := by unfold wrT; rw [if_neg hhit]
    have HM := Lib.hid (And.intro e1 (And.intro e2 e3))
    clear e1 e2 e3
    have KEY := Lib.hid (fun W W' (h : WrI w w.heap.size (.int .i64 k.cut) (.int .i64 k.torn) (.int .i64 (k.since + 1)) (.bool false) (.int .i64 (k.all + 1)) g4 n c4 (secL k) W) (hb : Below W.heap.size W W') => (⟨(h.mono hb).facts H.out.2.2.2.2.2.1, h.mono hb⟩ : _ ∧ WrI w w.heap.size (.int .i64 k.cut) (.int .i64 k.torn) (.int .i64 (k.since + 1)) (.bool false) (.int .i64 (k.all + 1)) g4 n c4 (secL k) W'))
    have hfa := HI.out.facts H.out.2.2.2.2.2.1
    obtain ⟨m0, m1, m2⟩ := hfa
    have HJ := HI.out
    clear hl4
    go_upto_region 20 with fail
    all_goals
      go_region_law (go_simp; go_at_call 26; (with_reducible refine (CF.out _).mono ?_); rintro e w9 ⟨rfl, hb9⟩; obtain ⟨⟨m4, m5, m6⟩, hP⟩ := KEY.out _ _ (by repeat (first | assumption | with_reducible refine WrI.drew ?_)) hb9)
      all_goals
        have hN := hP.put (i := i) (by rw [H.out.2.2.1]; omega) FS
        have q0 := cell_of_row _ _ 0 _ _ _ hN.var
        have q1 := cell_of_row _ _ 1 _ _ _ hN.var
        have q2 := cell_of_row _ _ 2 _ _ _ hN.var
        have q3 := cell_of_row _ _ 3 _ _ _ hN.var
        have q4 := cell_of_row _ _ 4 _ _ _ hN.var
        have q5 := cell_of_row _ _ 5 _ _ _ hN.var
        have p0 := cell_of_row _ _ 0 _ _ _ hN.zero
        have p1 := cell_of_row _ _ 1 _ _ _ hN.zero
        have p2 := cell_of_row _ _ 2 _ _ _ hN.zero
        have p3 := cell_of_row _ _ 3 _ _ _ hN.zero
        have p4 := cell_of_row _ _ 4 _ _ _ hN.zero
        have p5 := cell_of_row _ _ 5 _ _ _ hN.zero
        have f0 := frozen_of_row _ _ 0 _ _ hN.zero
        have f1 := frozen_of_row _ _ 1 _ _ hN.zero
        have f2 := frozen_of_row _ _ 2 _ _ hN.zero
        have f3 := frozen_of_row _ _ 3 _ _ hN.zero
        have f4 := frozen_of_row _ _ 4 _ _ hN.zero
        have f5 := frozen_of_row _ _ 5 _ _ hN.zero
        have HNN := Lib.hid hN
        clear hN hP m4 m5 m6 hb9 HJ KEY HI H2 CF m0 m1 m2
        generalize World.setCell _ ⟨g4, i, none⟩ (.string FS) = w7 at *
        go_wp2
        have hfin := HNN.out.fin rfl
        have hr := hfin.1
        have HZ := Lib.hid hfin
        clear hfin
        refine ret_dk2 rfl rfl rfl rfl hr rfl ⟨.slice (some ⟨g4, 0, none⟩) n c4, ?_, ?_, HZ.out.2.2⟩
        · rw [HM.out.2.1, HM.out.1, hd]; rfl
        · rw [H.out.2.1, HM.out.2.2, ← H.out.2.2.2.1]
          exact HZ.out.2.1
end Go.Proofs.Ytolkofnlihbncaa
