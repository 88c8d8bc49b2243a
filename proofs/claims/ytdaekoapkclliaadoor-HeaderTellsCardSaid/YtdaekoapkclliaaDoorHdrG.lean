/- Package header: a field's lines. -/
import Derived.Test.YtdaekoapkclliaaDoorHdrF
import Derived.Deep.AppendLies
set_option linter.unusedVariables false
set_option linter.unusedSimpArgs false
namespace Go.Proofs.YtdaekoapkclliaaDoor
open Go.RowKit
theorem SSo.put {w : World} {base g n cap : Nat} {l : List ByteArray} (h : SSo w base (.slice (some ⟨g, 0, none⟩) n cap) l) {i : Nat} (hi : i < l.length) (x : ByteArray) :
    SSo (w.setCell ⟨g, i, none⟩ (.string x)) base (.slice (some ⟨g, 0, none⟩) n cap) (l.set i x) := by
  obtain ⟨h0, h1⟩ := h
  refine ⟨by simp, ?_⟩
  rcases h1 with ⟨hv, _⟩ | ⟨g', cap', cur, hv, hb, hg, hn, hm, hsz, ht⟩
  · cases hv
  · obtain ⟨e1, e2, e3⟩ := Value.slice.inj hv
    cases e1
    subst e3
    subst e2
    refine .inr ⟨g, cap, cur.setIfInBounds i (.string x), by rw [List.length_set], hb, setCell_heap hg i _, by rw [List.length_set]; exact hn, hm, by rw [Array.size_setIfInBounds]; exact hsz, ?_⟩
    rw [List.length_set, Array.toList_setIfInBounds, List.map_set, ← ht, List.take_set]
theorem SSo.at_ {w : World} {base g n cap : Nat} {l : List ByteArray} (h : SSo w base (.slice (some ⟨g, 0, none⟩) n cap) l) {i : Nat} (hi : i < l.length) : w.cell? ⟨g, i, none⟩ = some (.string l[i]) ∧ w.frozen? ⟨g, i, none⟩ = false := by
  rcases h.2 with ⟨hv, _⟩ | ⟨g', cap', cur, hv, hb, hg, hn, hm, hsz, ht⟩
  · cases hv
  · obtain ⟨e1, e2, e3⟩ := Value.slice.inj hv
    cases e1
    refine ⟨?_, frozen_of_row _ _ _ _ _ hg⟩
    rw [cell_of_row _ _ _ _ _ _ hg]
    have := congrArg (·[i]?) ht
    simp only [List.getElem?_take, Nat.mul_one, if_pos hi, List.getElem?_map, List.getElem?_eq_getElem hi, Option.map_some] at this
    rw [← Array.getElem?_toList, this]
theorem SSo.eff {w w' : World} {base : Nat} {v : Value} {l : List ByteArray} (h : SSo w base v l) {S : Nat → Prop} (he : Eff S w w') (hn : ∀ k, v.ownBlock = some k → ¬ S k) : SSo w' base v l := he.own h hn
theorem SSo.len {w : World} {base g n cap : Nat} {l : List ByteArray} (h : SSo w base (.slice (some ⟨g, 0, none⟩) n cap) l) : n = l.length ∧ base ≤ g ∧ g < w.heap.size ∧ n ≤ cap ∧ cap ≤ maxLen := by
  rcases h.2 with ⟨hv, _⟩ | ⟨g', cap', cur, hv, hb, hg, hn, hm, hsz, ht⟩
  · cases hv
  · obtain ⟨e1, e2, e3⟩ := Value.slice.inj hv
    cases e1
    subst e3
    exact ⟨e2, hb, lt_of_block hg, by omega, hm⟩
/-- What put makes of the lines: D, and the last one x. -/
def putL (f : Bool) (D : List ByteArray) (x wd : ByteArray) : List ByteArray × ByteArray :=
  if f = false ∧ wd.size ≠ 0 ∧ 78 < x.size + 1 + wd.size then (D ++ [x], (⟨#[32]⟩ : ByteArray) ++ wd) else (D, x ++ ((⟨#[32]⟩ : ByteArray) ++ wd))
/-- The lines in memory: the variable is block L, its row block g. -/
structure LsAt (w : World) (base L g cap : Nat) (D : List ByteArray) (x : ByteArray) : Prop where
  var : w.heap[L]? = some (.cells #[.slice (some ⟨g, 0, none⟩) (D.length + 1) cap] 48 (0, 0))
  own : SSo w base (.slice (some ⟨g, 0, none⟩) (D.length + 1) cap) (D ++ [x])
  ne : L ≠ g
  base : base ≤ w.heap.size
theorem LsAt.lt {w : World} {base L g cap : Nat} {D : List ByteArray} {x : ByteArray} (h : LsAt w base L g cap D x) : L < w.heap.size ∧ g < w.heap.size := ⟨lt_of_block h.var, h.own.len.2.2.1⟩
def PutQ (R : List ByteArray × ByteArray) (base L g : Nat) (w : World) (e : Ending) (w' : World) : Prop :=
  e = .returned (.tuple #[]) ∧ ∃ g' cap', LsAt w' base L g' cap' R.1 R.2 ∧ (g' = g ∨ w.heap.size ≤ g') ∧ Eff (fun k => k = L ∨ k = g) w w'
set_option maxRecDepth 100000 in
set_option maxHeartbeats 4000000 in
theorem put_any (f : Bool) (base L g cap : Nat) (D : List ByteArray) (x wd : ByteArray) (w : World) (h : LsAt w base L g cap D x) (hx : x.size ≤ 10000000) (hw : wd.size ≤ 10000000) (hD : D.length ≤ 10000000) :
    Calls Tryd.prog 33 #[.string wd, .bool f, .pointer (some ⟨L, 0, none⟩)] w (PutQ (putL f D x wd) base L g w) := by
  obtain ⟨R, hR⟩ : ∃ R, R = putL f D x wd := ⟨_, rfl⟩
  rw [← hR]
  unfold putL at hR
  have hL0 : w.cell? ⟨L, 0, none⟩ = some (.slice (some ⟨g, 0, none⟩) (D.length + 1) cap) := by rw [cell_of_row _ _ _ _ _ _ h.var]; rfl
  have hLf : w.frozen? ⟨L, 0, none⟩ = false := frozen_of_row _ _ _ _ _ h.var
  have hdl : D.length < (D ++ [x]).length := by simp
  obtain ⟨hg0, hgf⟩ := h.own.at_ hdl
  rw [show (D ++ [x])[D.length]'hdl = x by simp] at hg0
  have hcap := h.own.len.2.2.2
  have hD1 : (0 : Int) ≤ (D.length : Int) := by omega
  have hx0 : (0 : Int) ≤ (x.size : Int) := by omega
  have hw0 : (0 : Int) ≤ (wd.size : Int) := by omega
  have hws := empty_sz (x := wd)
  have hc1 : ((⟨#[32]⟩ : ByteArray) ++ wd).size = 1 + wd.size := by rw [ByteArray.size_append]; rfl
  have hc2 : (x ++ ((⟨#[32]⟩ : ByteArray) ++ wd)).size = x.size + (1 + wd.size) := by rw [ByteArray.size_append, hc1]
  have hns : ¬ (9223372036854775807 < 1 + wd.size) := by omega
  have hns2 : ¬ (9223372036854775807 < x.size + (1 + wd.size)) := by omega
  have H := Lib.hid h
  have HC := Lib.hid (And.intro hc1 hc2)
  have HCAP := Lib.hid hcap
  -- the last line grows
  have hgrow : R = (D, x ++ ((⟨#[32]⟩ : ByteArray) ++ wd)) → ∃ g' cap', LsAt (w.setCell ⟨g, D.length, none⟩ (.string (x ++ ((⟨#[32]⟩ : ByteArray) ++ wd)))) base L g' cap' R.1 R.2 ∧ (g' = g ∨ w.heap.size ≤ g') ∧ Eff (fun k => k = L ∨ k = g) w (w.setCell ⟨g, D.length, none⟩ (.string (x ++ ((⟨#[32]⟩ : ByteArray) ++ wd)))) := fun e => by
    subst e
    have hE : Eff (fun k => k = L ∨ k = g) w (w.setCell ⟨g, D.length, none⟩ (.string (x ++ ((⟨#[32]⟩ : ByteArray) ++ wd)))) := (Eff.refl _ w).setCell (p := ⟨g, D.length, none⟩) (fun _ => .inr rfl) _
    refine ⟨g, cap, ⟨?_, ?_, h.ne, by simpa using h.base⟩, .inl rfl, hE⟩
    · rw [Below.heap_setCell _ _ _ _ (fun e => h.ne e)]; exact h.var
    · have := SSo.put h.own hdl (x ++ ((⟨#[32]⟩ : ByteArray) ++ wd))
      rw [List.set_append_right _ _ (by simp)] at this
      simpa using this
  have HG := Lib.hid hgrow
  clear h hgrow hdl hc1 hc2 hcap
  by_cases hf : f = false ∧ wd.size ≠ 0 ∧ 78 < x.size + 1 + wd.size
  · rw [if_pos hf] at hR
    obtain ⟨rfl, hf1, hf2⟩ := hf
    rw [decide_eq_false hf1] at hws
    have hws2 : (wd.toList != []) = true := by rw [bne, hws]; rfl
    have hsum : (78 : Int) < (x.size : Int) + 1 + (wd.size : Int) := by omega
    have HR := Lib.hid hR
    obtain ⟨i0, hi, hz0, hz1, hz2⟩ := info_parts Tryd.infoStr
    have hb := H.out.base
    have hLg := H.out.lt
    have hca := HC.out.1
    have hlen1 : (D ++ [x]).length = D.length + 1 := by simp
    have HO := Lib.hid H.out.own
    have HLE := Lib.hid (And.intro hlen1 (And.intro hb hLg))
    clear hR hf1 hf2 hca hlen1 hb hLg
    go_enter Tryd.func33, Tryd.ntmps33
    go_wp2_with (at_builtin; refine wpList_append_lies (w := w.alloc (.cells #[.string ((⟨#[32]⟩ : ByteArray) ++ wd)] 9 (0, 0))) rfl (.tmp 28) (.tmp 31) 48 rfl base 9 i0 (.string ⟨#[]⟩) 1 16 Tryd.underlying48 hi hz0 hz1 hz2 rfl (by decide) _ (D.length + 1) ((D ++ [x]).map Value.string) rfl (by have := HO.out; unfold SSo at this; rw [HLE.out.1] at this; exact World.ownsRow.alloc this _) ⟨w.heap.size, 0, none⟩ 1 1 [.string ((⟨#[32]⟩ : ByteArray) ++ wd)] rfl rfl (World.news_of_block (cs := #[.string ((⟨#[32]⟩ : ByteArray) ++ wd)]) (heap_alloc_new w _)) (by intro u hu; simp at hu; subst hu; rfl) (by decide) (by unfold maxLen; omega) (by omega) (by have := HLE.out.2.1; simp; omega) (w.heap.size + 1) (by simp) ?_)
    intro g' cap' w1 hown1 hgrow1 hat hlt
    have hLlt := HLE.out.2.2
    have hvar1 : w1.heap[L]? = some (.cells #[.slice (some ⟨g, 0, none⟩) (D.length + 1) cap] 48 (0, 0)) := by
      rw [hgrow1.block L (by simp; omega) (by simp [Value.ownBlock]; exact H.out.ne), Below.heap_alloc _ _ _ hLlt.1]
      exact H.out.var
    have e0 : w1.cell? ⟨L, 0, none⟩ = some (.slice (some ⟨g, 0, none⟩) (D.length + 1) cap) := by rw [cell_of_row _ _ _ _ _ _ hvar1]; rfl
    have e1 : w1.frozen? ⟨L, 0, none⟩ = false := frozen_of_row _ _ _ _ _ hvar1
    have hE1 : Eff (fun k => k = L ∨ k = g) w w1 := ((Eff.refl _ w).alloc _).grown hgrow1 (fun k hk _ => by
      right; simpa [Value.ownBlock] using hk.symm)
    have hg1 : g' = g ∨ g' = w.heap.size + 1 := by
      rcases hat with h | h
      · left; simpa [Value.ownBlock] using h.symm
      · exact .inr h
    have hneL : L ≠ g' := by
      rcases hg1 with rfl | rfl
      · exact H.out.ne
      · omega
    have hfin : LsAt (w1.setCell ⟨L, 0, none⟩ (.slice (some ⟨g', 0, none⟩) (D.length + 1 + 1) cap')) base L g' cap' (D ++ [x]) ((⟨#[32]⟩ : ByteArray) ++ wd) := by
      refine ⟨?_, ?_, hneL, ?_⟩
      · rw [setCell_heap hvar1 0]; simp
      · have hS : SSo w1 base (.slice (some ⟨g', 0, none⟩) (D.length + 1 + 1) cap') (D ++ [x] ++ [(⟨#[32]⟩ : ByteArray) ++ wd]) := by
          unfold SSo
          rw [List.map_append]
          simpa using hown1
        have hEL : Eff (fun k => k = L) w1 (w1.setCell ⟨L, 0, none⟩ (.slice (some ⟨g', 0, none⟩) (D.length + 1 + 1) cap')) := Eff.setCell (S := fun k => k = L) (Eff.refl _ w1) (p := ⟨L, 0, none⟩) (fun _ => rfl) _
        have := SSo.eff (S := fun k => k = L) hS hEL (fun k hk => by
          simp [Value.ownBlock] at hk; subst hk; exact fun e => hneL e.symm)
        simpa using this
      · have := hE1.size; have := HLE.out.2.1; simp; omega
    have hEf : Eff (fun k => k = L ∨ k = g) w (w1.setCell ⟨L, 0, none⟩ (.slice (some ⟨g', 0, none⟩) (D.length + 1 + 1) cap')) := hE1.setCell (p := ⟨L, 0, none⟩) (fun _ => .inl rfl) _
    have HF := Lib.hid (And.intro hfin (And.intro hEf hg1))
    clear hfin hEf hg1 hown1 hgrow1 hat hlt hvar1 hE1 hneL hLlt
    go_wp2
    go_end0
    refine ⟨rfl, g', cap', by rw [HR.out]; exact HF.out.1, ?_, HF.out.2.1⟩
    rcases HF.out.2.2 with h | h
    · exact .inl h
    · right; omega
  · rw [if_neg hf] at hR
    have HX := Lib.hid (HG.out hR)
    clear HG hR
    cases f with
    | true =>
      clear hf hws
      go_enter Tryd.func33, Tryd.ntmps33
      go_wp2
      go_end0
      exact ⟨rfl, HX.out⟩
    | false =>
      by_cases hz : wd.size = 0
      · rw [decide_eq_true hz] at hws
        have hws2 : (wd.toList != []) = false := by rw [bne, hws]; rfl
        clear hf hz
        go_enter Tryd.func33, Tryd.ntmps33
        go_wp2
        go_end0
        exact ⟨rfl, HX.out⟩
      · rw [decide_eq_false hz] at hws
        have hws2 : (wd.toList != []) = true := by rw [bne, hws]; rfl
        have hsum : ¬ (78 : Int) < (x.size : Int) + 1 + (wd.size : Int) := fun h => hf ⟨rfl, hz, by omega⟩
        clear hf hz
        go_enter Tryd.func33, Tryd.ntmps33
        go_wp2
        go_end0
        exact ⟨rfl, HX.out⟩
end Go.Proofs.YtdaekoapkclliaaDoor
