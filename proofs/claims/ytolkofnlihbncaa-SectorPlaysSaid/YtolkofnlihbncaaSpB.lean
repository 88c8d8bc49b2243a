/- The document's disk: Read, Arm, Start. -/
import Derived.Test.YtolkofnlihbncaaSpA
import Derived.Test.YtolkofnlihbncaaSectorG
set_option linter.unusedVariables false
set_option linter.unusedSimpArgs false
namespace Go.Proofs.Ytolkofnlihbncaa
open Go.RowKit
theorem SSo.put {w : World} {base g n cap : Nat} {l : List ByteArray} (h : SSo w base (.slice (some ⟨g, 0, none⟩) n cap) l) {i : Nat} (hi : i < l.length) (x : ByteArray) :
    SSo (w.setCell ⟨g, i, none⟩ (.string x)) base (.slice (some ⟨g, 0, none⟩) n cap) (l.set i x) := by
  obtain ⟨h0, h1⟩ := h
  refine ⟨by simp, ?_⟩
  rcases h1 with ⟨hv, _⟩ | ⟨g', cap', cur, hv, hb, hg, hn, hm, hsz, ht⟩
  · cases hv
  · obtain ⟨e1, e2, e3⟩ := Value.slice.inj hv
    cases e1
    subst e3
    subst e2
    refine .inr ⟨g, cap, cur.setIfInBounds i (.string x), by rw [List.length_set], hb, setCell_heap hg i _, by rw [List.length_set]; exact hn, hm, by rw [Array.size_setIfInBounds]; exact hsz, ?_⟩
    rw [List.length_set, Array.toList_setIfInBounds, List.map_set, ← ht, List.take_set]
theorem SSo.at_ {w : World} {base g n cap : Nat} {l : List ByteArray} (h : SSo w base (.slice (some ⟨g, 0, none⟩) n cap) l) {i : Nat} (hi : i < l.length) : w.cell? ⟨g, i, none⟩ = some (.string l[i]) ∧ w.frozen? ⟨g, i, none⟩ = false := by
  rcases h.2 with ⟨hv, _⟩ | ⟨g', cap', cur, hv, hb, hg, hn, hm, hsz, ht⟩
  · cases hv
  · obtain ⟨e1, e2, e3⟩ := Value.slice.inj hv
    cases e1
    refine ⟨?_, frozen_of_row _ _ _ _ _ hg⟩
    rw [cell_of_row _ _ _ _ _ _ hg]
    have := congrArg (·[i]?) ht
    simp only [List.getElem?_take, Nat.mul_one, if_pos hi, List.getElem?_map, List.getElem?_eq_getElem hi, Option.map_some] at this
    rw [← Array.getElem?_toList, this]
theorem SSo.below {w w' : World} {base : Nat} {v : Value} {l : List ByteArray} (h : SSo w base v l) (hb : Below w.heap.size w w') : SSo w' base v l :=
  Eff.own (Eff.of_below hb (fun _ => False)) h (fun _ _ x => x)
theorem SSo.row {w : World} {base : Nat} {v : Value} {l : List ByteArray} (h : SSo w base v l) (h0 : 0 < l.length) : ∃ g cap, v = .slice (some ⟨g, 0, none⟩) l.length cap ∧ base ≤ g ∧ g < w.heap.size ∧ l.length ≤ cap ∧ cap ≤ maxLen := by
  rcases h.2 with ⟨hv, h1⟩ | ⟨g', cap', cur, hv, hb, hg, hn, hm, hsz, ht⟩
  · omega
  · exact ⟨g', cap', hv, hb, lt_of_block hg, by omega, hm⟩
/-- The sectors as a row of texts. -/
def secL (k : Dk) : List ByteArray := (List.range k.n).map (secS k)
theorem secL_len (k : Dk) : (secL k).length = k.n := by simp [secL]
theorem secL_get (k : Dk) {i : Nat} (h : i < (secL k).length) : (secL k)[i] = secS k i := by simp [secL]
/-- The document's disk. -/
def dkV (sl : Value) (k : Dk) : Value := .agg #[sl, .int .i64 k.cut, .int .i64 k.torn, .int .i64 k.since, .bool k.down, .int .i64 k.all]
set_option maxRecDepth 100000 in
set_option maxHeartbeats 4000000 in
theorem rread_any (sl : Value) (k : Dk) (i : Int) (base : Nat) (w : World) (h : SSo w base sl (secL k)) (hk : k.Ok) :
    Calls Try.prog 18 #[dkV sl k, .int .i64 i] w fun e w' => e = .returned (.tuple #[.string (readS k i), .int .i64 (readC k i)]) ∧ Below w.heap.size w w' := by
  obtain ⟨g, cap, rfl, hb, hg, hn, hm⟩ := h.row (by rw [secL_len]; exact hk.n1)
  rw [secL_len] at hn
  have hk2 := hk.n2
  have H := Lib.hid h
  have hbw : Below w.heap.size w (w.alloc (.cells #[.slice (some ⟨g, 0, none⟩) k.n cap, .int .i64 k.cut, .int .i64 k.torn, .int .i64 k.since, .bool k.down, .int .i64 k.all] 44 (0, 0))) := (Below.refl _ w).alloc (Nat.le_refl _) _
  have HB := Lib.hid hbw
  clear h hbw
  rw [secL_len]
  unfold dkV
  obtain ⟨n, hn2⟩ : ∃ n, n = k.n := ⟨_, rfl⟩
  have hn0 : (0 : Int) ≤ (n : Int) := by omega
  by_cases hd : k.down = true
  · have e1 : readS k i = ⟨#[]⟩ := by simp [readS, hd]
    have e2 : readC k i = 6 := by simp [readC, hd]
    rw [e1, e2, hd]
    rw [hd] at HB
    clear hd
    go_enter Try.func18, Try.ntmps18
    go_wp2
    go_ret2
    exact ⟨rfl, HB.out⟩
  · have hd : k.down = false := by simpa using hd
    rw [hd]
    rw [hd] at HB
    by_cases h0 : i < 0
    · have e1 : readS k i = ⟨#[]⟩ := by simp only [readS]; rw [if_neg (fun h => by omega)]
      have e2 : readC k i = 1 := by simp only [readC]; rw [if_neg (by simp [hd]), if_neg (by omega)]
      rw [e1, e2]
      clear hd
      go_enter Try.func18, Try.ntmps18
      go_wp2
      go_ret2
      exact ⟨rfl, HB.out⟩
    · obtain ⟨j, rfl⟩ := Int.eq_ofNat_of_zero_le (show 0 ≤ i by omega)
      by_cases h1 : j < k.n
      · have e1 : readS k j = secS k j := by simp only [readS]; rw [if_pos ⟨hd, by omega, by omega⟩]; rfl
        have e2 : readC k j = 0 := by simp only [readC]; rw [if_neg (by simp [hd]), if_pos ⟨by omega, by omega⟩]
        have q := ((H.out.below HB.out).at_ (i := j) (by rw [secL_len]; exact h1)).1
        rw [secL_get] at q
        rw [e1, e2]
        have hj0 : (0 : Int) ≤ (j : Int) := by omega
        have hj1 : (j : Int) < (k.n : Int) := by omega
        clear hd e1 e2 h0
        go_enter Try.func18, Try.ntmps18
        go_wp2
        go_ret2
        exact ⟨rfl, HB.out⟩
      · have e1 : readS k j = ⟨#[]⟩ := by simp only [readS]; rw [if_neg (fun h => by omega)]
        have e2 : readC k j = 1 := by simp only [readC]; rw [if_neg (by simp [hd]), if_neg (by omega)]
        rw [e1, e2]
        have hj0 : (0 : Int) ≤ (j : Int) := by omega
        have hj1 : (k.n : Int) ≤ (j : Int) := by omega
        clear hd e1 e2 h0
        go_enter Try.func18, Try.ntmps18
        go_wp2
        go_ret2
        exact ⟨rfl, HB.out⟩
/-- A disk is stored whole. -/
theorem wp_stDk {ops : Array Oper} {rest : List Oper} {o : Oper} {a : Go.Act} {w : World} {Q : Exit → Go.Act → World → Prop} (hgd : o.guard = none) (x y : Operand) (ho : o.op = .store 44 x y)
    (g : Nat) (cells : Array Value) (hx : a.eval x = .pointer (some ⟨g, 0, none⟩)) (hy : a.eval y = .agg cells) (h6 : cells.size = 6) (h1 : cells.all (·.oneCell') = true)
    (old : Array Value) (hg : w.heap[g]? = some (.cells old 44 (0, 0))) (hold : old.size = 6)
    (h : ∀ w', Eff (· = g) w w' → w'.heap[g]? = some (.cells cells 44 (0, 0)) → wpList Try.prog ops Q rest (a.put o.dst undef) w') : wpList Try.prog ops Q (o :: rest) a w := by
  have hi : (Try.prog.info? 44).map (·.size) = some cells.size := by rw [h6]; kernel_rfl
  refine wpList_store_row hgd 44 x y ho g cells hx hy 44 old hg hi (hold.trans h6.symm) h1 (h _ ?_ (setRow_heap w g old cells _ _ hg))
  exact ⟨rfl, rfl, rfl, by simp, fun k _ hn => setRow_other w g k _ hn⟩
theorem run_dk {g : Nat} {cs : Array Value} {fr : Nat × Nat} {w : World} (h6 : cs.size = 6) (hg : w.heap[g]? = some (.cells cs 44 fr)) : (loadVar 44 ⟨g, 0, none⟩).run Try.prog w = .ok (.agg cs) w :=
  run_loadVar_row w g 44 44 cs fr _ hg Try.underlying44 rfl (by rw [h6]; kernel_rfl)
theorem ret_dk1 {fn : Func} {R : Ending → World → Prop} {a : Go.Act} {w : World} {p : Tmp} {g : Nat} {cs : Array Value} {fr : Nat × Nat} (h : fn.results = #[.cell p 44]) (hp : a.tmps.getD p undef = .pointer (some ⟨g, 0, none⟩))
    (h6 : cs.size = 6) (hg : w.heap[g]? = some (.cells cs 44 fr)) (hd : a.defers = []) (hR : R (.returned (.agg cs)) w) : bodyPost Try.prog fn R .ret a w := by
  refine bodyPost_ret ?_ hd hR
  have hp' : a.tmps[p]?.getD undef = .pointer (some ⟨g, 0, none⟩) := by simpa using hp
  simp [results, h, hp', asAddr, run_dk h6 hg]
theorem results_cell_tmpD {fn : Func} {p u : Tmp} {ty : TypeId} (h : fn.results = #[.cell p ty, .tmp u]) (tmps : Array Value) (P : Program) (w : World) :
    (results fn tmps).run P w = (((do let a ← asAddr (tmps.getD p undef); loadVar ty a) : Sem Value).run P w).andThen fun v w => .ok (.tuple #[v, tmps.getD u undef]) w := by
  unfold results
  rw [h]
  simp [Sem.run_bind, Sem.run_pure, Result.andThen]
  first | rfl | (generalize (asAddr _).run P w = r; cases r <;> simp <;> (generalize (loadVar _ _).run P _ = r2; cases r2 <;> simp))
theorem ret_dk2 {fn : Func} {R : Ending → World → Prop} {a : Go.Act} {w : World} {p u : Tmp} {g : Nat} {cs : Array Value} {v : Value} {fr : Nat × Nat} (h : fn.results = #[.cell p 44, .tmp u]) (hp : a.tmps.getD p undef = .pointer (some ⟨g, 0, none⟩)) (hv : a.tmps.getD u undef = v)
    (h6 : cs.size = 6) (hg : w.heap[g]? = some (.cells cs 44 fr)) (hd : a.defers = []) (hR : R (.returned (.tuple #[.agg cs, v])) w) : bodyPost Try.prog fn R .ret a w := by
  refine bodyPost_ret (v := .tuple #[.agg cs, v]) ?_ hd hR
  rw [results_cell_tmpD h, hp, hv]
  simp [asAddr, run_dk h6 hg, Result.andThen]
theorem heap2_new (w : World) (A B : Obj) : ((w.alloc A).alloc B).heap[w.heap.size + 1]? = some B := by
  have h := heap_alloc_new (w.alloc A) B
  have e : (w.alloc A).heap.size = w.heap.size + 1 := by show (w.heap.push A).size = _; rw [Array.size_push]
  rwa [e] at h
theorem heap3_new (w : World) (A B C : Obj) : (((w.alloc A).alloc B).alloc C).heap[w.heap.size + 1 + 1]? = some C := by
  have h := heap_alloc_new ((w.alloc A).alloc B) C
  have e : ((w.alloc A).alloc B).heap.size = w.heap.size + 1 + 1 := by
    show ((w.heap.push A).push B).size = _
    rw [Array.size_push, Array.size_push]
  rwa [e] at h
theorem below2 (w : World) (A B : Obj) : Below w.heap.size w ((w.alloc A).alloc B) := ((Below.refl _ w).alloc (Nat.le_refl _) A).alloc (by show _ ≤ (w.heap.push A).size; rw [Array.size_push]; omega) B
theorem below3 (w : World) (A B C : Obj) : Below w.heap.size w (((w.alloc A).alloc B).alloc C) := (below2 w A B).alloc (by show _ ≤ ((w.heap.push A).push B).size; rw [Array.size_push, Array.size_push]; omega) C
theorem Eff.belowOne {g : Nat} {w0 w w' : World} (hb : Below w0.heap.size w0 w) (he : Eff (· = g) w w') (hg : w0.heap.size ≤ g) : Below w0.heap.size w0 w' :=
  Eff.below hb he hb.size (fun x e => by have h1 : x = g := e; omega)
set_option maxRecDepth 100000 in
set_option maxHeartbeats 4000000 in
theorem rstart_any (A : Option Addr) (n c : Nat) (k : Dk) (w : World) :
    Calls Try.prog 20 #[dkV (.slice A n c) k] w fun e w' => e = .returned (dkV (.slice A n c) (startK k)) ∧ Below w.heap.size w w' := by
  have e : dkV (.slice A n c) (startK k) = .agg #[.slice A n c, .int .i64 k.cut, .int .i64 k.torn, .int .i64 0, .bool false, .int .i64 k.all] := rfl
  rw [e]
  unfold dkV
  clear e
  go_enter Try.func20, Try.ntmps20
  go_wp2
  exact ret_dk1 rfl rfl rfl (heap2_new w _ _) rfl ⟨rfl, below2 w _ _⟩
set_option maxRecDepth 100000 in
set_option maxHeartbeats 4000000 in
theorem rarm_any (A : Option Addr) (n c : Nat) (k : Dk) (a t : Int) (w : World) :
    Calls Try.prog 19 #[dkV (.slice A n c) k, .agg #[.int .i64 a, .int .i64 t]] w fun e w' => e = .returned (dkV (.slice A n c) (armK k a t)) ∧ Below w.heap.size w w' := by
  by_cases ha : a < 1
  · have e : dkV (.slice A n c) (armK k a t) = .agg #[.slice A n c, .int .i64 0, .int .i64 0, .int .i64 0, .bool k.down, .int .i64 k.all] := by unfold dkV armK; simp [ha]
    rw [e]
    unfold dkV
    clear e
    go_enter Try.func19, Try.ntmps19
    go_wp2
    exact ret_dk1 rfl rfl rfl (heap3_new w _ _ _) rfl ⟨rfl, below3 w _ _ _⟩
  · have e : dkV (.slice A n c) (armK k a t) = .agg #[.slice A n c, .int .i64 a, .int .i64 t, .int .i64 0, .bool k.down, .int .i64 k.all] := by unfold dkV armK; simp [ha]
    have ha2 : 1 ≤ a := by omega
    rw [e]
    unfold dkV
    clear e ha
    go_enter Try.func19, Try.ntmps19
    go_wp2
    exact ret_dk1 rfl rfl rfl (heap3_new w _ _ _) rfl ⟨rfl, below3 w _ _ _⟩
end Go.Proofs.Ytolkofnlihbncaa
