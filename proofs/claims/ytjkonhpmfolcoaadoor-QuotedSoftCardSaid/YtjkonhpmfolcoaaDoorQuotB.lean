/- Package quoted: Encode. -/
import Derived.Test.YtjkonhpmfolcoaaDoorQuotP
set_option linter.unusedVariables false
set_option linter.unusedSimpArgs false
namespace Go.Proofs.YtjkonhpmfolcoaaDoor
open Go.RowKit
def putO (o : List UInt8) (n : Nat) (x : List UInt8) : List UInt8 := if 75 < n + x.length then o ++ [61, 13, 10] ++ x else o ++ x
def putW (n : Nat) (x : List UInt8) : Nat := if 75 < n + x.length then x.length else n + x.length
theorem intNe : (3 : TypeId) ≠ 5 := by decide
theorem bldNe : (39 : TypeId) ≠ 5 := by decide
/-- A variable of whole numbers in a block of its own. -/
def IntAt (w : World) (k : Nat) (n : Int) : Prop := w.heap[k]? = some (.cells #[.int .i64 n] 3 (0, 0))
theorem IntAt.cell {w : World} {k : Nat} {n : Int} (h : IntAt w k n) : w.cell? ⟨k, 0, none⟩ = some (.int .i64 n) ∧ w.frozen? ⟨k, 0, none⟩ = false := by
  unfold IntAt at h
  exact ⟨by rw [cell_of_row _ _ _ _ _ _ h]; rfl, frozen_of_row _ _ _ _ _ h⟩
theorem IntAt.chg {w w' : World} {k : Nat} {n : Int} (h : IntAt w k n) {B : Nat} {S : Nat → Prop} (hc : Chg B S w w') (hn : ¬ S k) : IntAt w' k n := hc.heap h hn intNe
theorem IntAt.set {w : World} {k : Nat} {n : Int} (h : IntAt w k n) (m : Int) : IntAt (w.setCell ⟨k, 0, none⟩ (.int .i64 m)) k m := (setCell_heap h 0 _).trans rfl
theorem BB.set {w : World} {B b : Nat} {l : List UInt8} (h : BB w B b l) {k : Nat} {n m : Int} (hk : IntAt w k n) (hb : b ≠ k) : BB (w.setCell ⟨k, 0, none⟩ (.int .i64 m)) B b l := by
  have key : ∀ p, Lib.BuilderAtF 39 5 B b p (Lib.byteCells l) w → Lib.BuilderAtF 39 5 B b p (Lib.byteCells l) (w.setCell ⟨k, 0, none⟩ (.int .i64 m)) := by
    rintro p ⟨hB, v, hbk, hown, hne⟩
    refine ⟨hB, v, (Below.heap_setCell _ _ _ _ hb).trans hbk, ?_, hne⟩
    refine hown.kept (row := some k) ⟨rfl, rfl, rfl, by simp [World.setCell], fun i _ hi => Below.heap_setCell _ _ _ _ (fun e => hi (by simp [e]))⟩ ?_
    right
    intro e
    have := Lib.ownBlock_neF (T := 3) (fr := (0, 0)) hown hk intNe
    exact this e
  exact h.elim (fun x => .inl (key _ x)) (fun x => .inr (key _ x))
def PutPost (B b Wd : Nat) (l : List UInt8) (n : Nat) (x : List UInt8) (w : World) (e : Ending) (w' : World) : Prop :=
  e = .returned (.tuple #[]) ∧ BB w' B b (putO l n x) ∧ IntAt w' Wd (putW n x) ∧ Chg B (fun k => k = b ∨ k = Wd) w w'
set_option maxRecDepth 100000 in
set_option maxHeartbeats 1000000 in
theorem put_any (B b Wd n : Nat) (l : List UInt8) (s : ByteArray) (w : World) (hb : BB w B b l) (hw : IntAt w Wd n) (hn : n ≤ 100000) (hs : s.size ≤ 100000) (hl : l.length ≤ 1000000000000) (hB : B ≤ w.heap.size) (hBW : B ≤ Wd) (hne : b ≠ Wd) :
    Calls Tryd.prog 19 #[.string s, .pointer (some ⟨Wd, 0, none⟩), .pointer (some ⟨b, 0, none⟩)] w (PutPost B b Wd l n s.data.toList w) := by
  have hsz := bsize s
  have hcells := hw.cell
  obtain ⟨hc, hf⟩ := hcells
  by_cases h75 : 75 < n + s.size
  · have e1 : putO l n s.data.toList = l ++ [61, 13, 10] ++ s.data.toList := if_pos (by omega)
    have e2 : putW n s.data.toList = s.size := by unfold putW; rw [if_pos (by omega)]; exact hsz
    have E1 := Lib.hid e1
    have E2 := Lib.hid e2
    have HS := Lib.hid hsz
    have hi : (75 : Int) < (n : Int) + s.size := by omega
    clear e1 e2 hsz
    go_enter Tryd.func19, Tryd.ntmps19
    go_wp2_with fail
    refine (wstr B b l ⟨#[61, 13, 10]⟩ w hb (by show l.length + 3 ≤ _; omega) hB).mono ?_
    rintro e w1 ⟨rfl, hb1, hlo1, hok1⟩
    have hc1 := (Chg.of_others hlo1 hok1).mono (Nat.le_refl _) (S' := fun k => k = b ∨ k = Wd) (fun k h => .inl h)
    have hw1 : IntAt w1 Wd n := hw.chg (Chg.of_others hlo1 hok1) (fun e => hne e.symm)
    obtain ⟨hc', hf'⟩ := hw1.cell
    have H1 := Lib.hid (And.intro hb1 (And.intro hc1 hw1))
    clear hc hf hb1 hlo1 hok1 hc1 hw1 hb hw
    go_wp2_with fail
    have hw2 : IntAt (w1.setCell ⟨Wd, 0, none⟩ (.int .i64 0)) Wd 0 := H1.out.2.2.set 0
    have hb2 := H1.out.1.set (m := 0) H1.out.2.2 hne
    have hc2 := H1.out.2.1.setCell (p := ⟨Wd, 0, none⟩) hBW (.inr rfl) (.int .i64 0)
    refine (wstr B b _ s _ hb2 (by simp; show _ + 3 + s.size ≤ _; omega) (by simp; have := hc2.size; simp at this; omega)).mono ?_
    rintro e w3 ⟨rfl, hb3, hlo3, hok3⟩
    have hc3 := hc2.trans ((Chg.of_others hlo3 hok3).mono (Nat.le_refl _) (fun k h => .inl h))
    have hw3 : IntAt w3 Wd 0 := hw2.chg (Chg.of_others hlo3 hok3) (fun e => hne e.symm)
    obtain ⟨hc', hf'⟩ := hw3.cell
    have H3 := Lib.hid (And.intro hb3 (And.intro hc3 hw3))
    clear hb3 hlo3 hok3 hc3 hw3 hb2 hw2 hc2 H1
    go_wp2
    go_end0
    refine ⟨rfl, ?_, ?_, H3.out.2.1.setCell hBW (.inr rfl) _⟩
    · rw [E1.out]; exact H3.out.1.set H3.out.2.2 hne
    · rw [E2.out]; have := H3.out.2.2.set s.size; simpa using this
  · have e1 : putO l n s.data.toList = l ++ s.data.toList := if_neg (by omega)
    have e2 : putW n s.data.toList = n + s.size := by unfold putW; rw [if_neg (by omega), hsz]
    have E1 := Lib.hid e1
    have E2 := Lib.hid e2
    have hi : (n : Int) + s.size ≤ 75 := by omega
    clear e1 e2 hsz h75
    go_enter Tryd.func19, Tryd.ntmps19
    go_wp2_with fail
    refine (wstr B b l s w hb (by omega) hB).mono ?_
    rintro e w1 ⟨rfl, hb1, hlo1, hok1⟩
    have hc1 := (Chg.of_others hlo1 hok1).mono (Nat.le_refl _) (S' := fun k => k = b ∨ k = Wd) (fun k h => .inl h)
    have hw1 : IntAt w1 Wd n := hw.chg (Chg.of_others hlo1 hok1) (fun e => hne e.symm)
    obtain ⟨hc', hf'⟩ := hw1.cell
    have H1 := Lib.hid (And.intro hb1 (And.intro hc1 hw1))
    clear hc hf hb1 hlo1 hok1 hc1 hw1 hb hw
    go_wp2
    go_end0
    refine ⟨rfl, ?_, ?_, H1.out.2.1.setCell hBW (.inr rfl) _⟩
    · rw [E1.out]; exact H1.out.1.set H1.out.2.2 hne
    · rw [E2.out]; have := H1.out.2.2.set ((n : Int) + s.size); simpa using this
end Go.Proofs.YtjkonhpmfolcoaaDoor
