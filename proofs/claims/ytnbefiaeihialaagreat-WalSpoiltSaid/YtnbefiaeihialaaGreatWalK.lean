/- The digest's constants are laid once: Sum's function, sync.Once. -/
import Derived.Test.YtnbefiaeihialaaGreatWalJ
import Derived.Deep.RegionWith
set_option linter.unusedVariables false
set_option linter.unusedSimpArgs false
namespace Go.Proofs.YtnbefiaeihialaaGreat
open Go.RowKit
theorem setRow_eff {S : Nat → Prop} {a b : World} (h : Eff S a b) {g : Nat} (hg : S g) (cs : Array Value) : Eff S a (b.setRow g cs) := by
  refine ⟨h.os, h.tape, h.output, ?_, fun k hk hn => ?_⟩
  · have := h.size; simp [World.setRow]; omega
  · rw [← h.block k hk hn]
    have hne : g ≠ k := fun e => hn (e ▸ hg)
    simp [World.setRow, Array.getElem?_modify, hne]
set_option maxRecDepth 100000 in
set_option maxHeartbeats 8000000 in
theorem fill_any (bx s g : Nat) (st : St) (mb : Nat) (d m : Int) (tab : List Int) (w : World) (hbx : w.cell? ⟨bx, 0, none⟩ = some (.pointer (some ⟨s, 0, none⟩))) (h : StB w s g st mb d m tab) (ht : tab.length = 64) :
    Calls Tryz.prog 53 #[.pointer (some ⟨bx, 0, none⟩)] w fun e w' => e = .returned (.tuple #[]) ∧ StB w' s g st mb d m tabF ∧ Eff (· = s) w w' := by
  have hlt := h.lt
  have h2 : StB (w.alloc (.cells (w32 tabF).toArray 102 (0, 0))).drew s g st mb d m tab := h.below ((Below.refl _ w).alloc (Nat.le_refl _) _).drew
  have hlen := tabC_len
  have hbx2 : (w.alloc (.cells (w32 tabF).toArray 102 (0, 0))).cell? ⟨bx, 0, none⟩ = some (.pointer (some ⟨s, 0, none⟩)) := (((Below.refl _ w).alloc (Nat.le_refl _) _).cell (World.block_lt_of_cell? _ _ hbx)).trans hbx
  have hfit : 11 + 0 + (w32 tabF).length ≤ (stC g st mb d m tab).toArray.size := by
    rw [tabC_len]; unfold stC; simp [w32_len, ht]
  have hsc := run_storeCells_at (P := Tryz.prog) s 11 104 (w32 tabF) 0 (stC g st mb d m tab).toArray _ h2 hfit (w32_one _)
  have hT := h2.setT ht
  have hE := setRow_eff (S := (· = s)) (Eff.alloc (Eff.refl _ w) (.cells (w32 tabF).toArray 102 (0, 0))).drew (g := s) rfl ((stC g st mb d m tab).toArray.toList.take (11 + 0) ++ w32 tabF ++ (stC g st mb d m tab).toArray.toList.drop (11 + 0 + (w32 tabF).length)).toArray
  obtain ⟨W', hW'⟩ : ∃ W', W' = (w.alloc (.cells (w32 tabF).toArray 102 (0, 0))).drew.setRow s ((stC g st mb d m tab).toArray.toList.take (11 + 0) ++ w32 tabF ++ (stC g st mb d m tab).toArray.toList.drop (11 + 0 + (w32 tabF).length)).toArray := ⟨_, rfl⟩
  rw [← hW'] at hsc hE
  have hT2 : StB W' s g st mb d m tabF := by rw [hW']; exact hT
  have HF := Lib.hid (And.intro hT2 hE)
  clear h h2 hfit hT hE hT2 hW'
  go_enter Tryz.func53, Tryz.ntmps53
  go_wp2_with fail
  go_region_law (go_simp; go_at_call 54; (with_reducible refine (const_any _).mono ?_); rintro e w' ⟨rfl, rfl⟩)
  all_goals
    go_wp2
    go_end0
    exact ⟨rfl, HF.out⟩
set_option maxRecDepth 100000 in
set_option maxHeartbeats 4000000 in
theorem slow_any (bx s g : Nat) (st : St) (mb : Nat) (tab : List Int) (w : World) (hbx : w.cell? ⟨bx, 0, none⟩ = some (.pointer (some ⟨s, 0, none⟩))) (hbs : bx ≠ s) (h : StB w s g st mb 0 0 tab) (ht : tab.length = 64) :
    Calls Tryz.prog 68 #[.pointer (some ⟨s, 8, none⟩), .func (.func 53) #[] #[.pointer (some ⟨bx, 0, none⟩)]] w fun e w' => e = .returned (.tuple #[]) ∧ StB w' s g st mb 1 0 tabF ∧ Eff (· = s) w w' := by
  have h1 := h.setL 1
  have e1 := Eff.setCell (S := (· = s)) (Eff.refl _ w) (p := ⟨s, 9, none⟩) (fun _ => rfl) (.int .i32 1)
  have c1 := lock_free ⟨s, 9, none⟩ w h.cells.2.2.2.2.2.2.2.2.2 (h.free 9)
  have cb := bool_any ⟨s, 8, none⟩ 0 (w.setCell ⟨s, 9, none⟩ (.int .i32 1)) h1.cells.2.2.2.2.2.2.2.2.1
  have c2 := fill_any bx s g st mb 0 1 tab _ (e1.cell hbx hbs) h1 ht
  have hnot : ∀ (x : Bool) (w : World), (Op.unary .not (.bool x)).run Tryz.prog w = .ok (.bool (!x)) w := fun _ _ => rfl
  have H := Lib.hid (And.intro h1 e1)
  clear h h1 e1 ht hbx
  go_enter_defers Tryz.func68, Tryz.ntmps68
  go_wp2_with fail
  refine c1.mono ?_
  rintro e w' ⟨rfl, rfl⟩
  generalize w.setCell ⟨s, 9, none⟩ (.int .i32 1) = w1 at *
  go_wp2_with fail
  refine cb.mono ?_
  rintro e w' ⟨rfl, rfl⟩
  go_wp2_with fail
  refine c2.mono ?_
  rintro e w2 ⟨rfl, hL, he2⟩
  have H2 := Lib.hid (And.intro hL he2)
  have x0 := hL.cells.2.2.2.2.2.2.2.2.1
  have z0 := hL.free 8
  clear hL he2
  go_wp2
  refine leaves_cons (f := 78) (args := #[.pointer (some ⟨s, 8, none⟩), .bool true]) (by simp) (by simp [go_sem]) ?_
  refine (store_deferred ⟨s, 8, none⟩ (.int .u32 0) .returning _ x0 z0).mono ?_
  rintro e u' w'' ⟨rfl, rfl, rfl⟩
  have h3 : StB (w2.drew.setCell ⟨s, 8, none⟩ (.int .u32 1)) s g st mb 1 1 tabF := StB.setD (w := w2.drew) H2.out.1 1
  have h3c : (w2.drew.setCell ⟨s, 8, none⟩ (.int .u32 1)).cell? ⟨s, 9, none⟩ = some (.int .i32 1) ∧ (w2.drew.setCell ⟨s, 8, none⟩ (.int .u32 1)).frozen? ⟨s, 9, none⟩ = false := ⟨h3.cells.2.2.2.2.2.2.2.2.2, h3.free 9⟩
  refine leaves_cons (f := 77) (args := #[.pointer (some ⟨s, 9, none⟩)]) (by simp [settle]) (by simp [go_sem]) ?_
  refine (unlock_deferred ⟨s, 9, none⟩ _ _ h3c.1 h3c.2).mono ?_
  rintro e u' w'' ⟨rfl, rfl, rfl⟩
  have h4 := h3.setL 0
  have e4 : Eff (· = s) w ((w2.drew.setCell ⟨s, 8, none⟩ (.int .u32 1)).setCell ⟨s, 9, none⟩ (.int .i32 0)) :=
    Eff.setCell (S := (· = s)) (Eff.setCell (S := (· = s)) ((H.out.2.trans H2.out.2).drew) (p := ⟨s, 8, none⟩) (fun _ => rfl) _) (p := ⟨s, 9, none⟩) (fun _ => rfl) _
  have H4 := Lib.hid (And.intro h4 e4)
  simp [Leaves, settle, results, Tryz.results68]
  exact H4.out
/-- Are the constants laid? -/
def SumOk (d : Int) (tab : List Int) : Prop := (d = 0 ∧ tab.length = 64) ∨ (d = 1 ∧ tab = tabF)
set_option maxRecDepth 100000 in
set_option maxHeartbeats 4000000 in
theorem do_any (bx s g : Nat) (st : St) (mb : Nat) (d : Int) (tab : List Int) (w : World) (hbx : w.cell? ⟨bx, 0, none⟩ = some (.pointer (some ⟨s, 0, none⟩))) (hbs : bx ≠ s) (h : StB w s g st mb d 0 tab) (hd : SumOk d tab) :
    Calls Tryz.prog 52 #[.pointer (some ⟨s, 8, none⟩), .func (.func 53) #[] #[.pointer (some ⟨bx, 0, none⟩)]] w fun e w' => e = .returned (.tuple #[]) ∧ StB w' s g st mb 1 0 tabF ∧ Eff (· = s) w w' := by
  have hnot : ∀ (x : Bool) (w : World), (Op.unary .not (.bool x)).run Tryz.prog w = .ok (.bool (!x)) w := fun _ _ => rfl
  rcases hd with ⟨rfl, ht⟩ | ⟨rfl, rfl⟩
  · have c1 := slow_any bx s g st mb tab w hbx hbs h ht
    have cb := bool_any ⟨s, 8, none⟩ 0 w h.cells.2.2.2.2.2.2.2.2.1
    clear h ht hbx hbs
    go_enter Tryz.func52, Tryz.ntmps52
    go_wp2_with fail
    refine cb.mono ?_
    rintro e w' ⟨rfl, rfl⟩
    go_wp2_with fail
    refine c1.mono ?_
    rintro e w2 ⟨rfl, hc2, he2⟩
    have H2 := Lib.hid (And.intro hc2 he2)
    clear hc2 he2
    go_wp2
    go_end0
    exact ⟨rfl, H2.out⟩
  · have cb := bool_any ⟨s, 8, none⟩ 1 w h.cells.2.2.2.2.2.2.2.2.1
    have H := Lib.hid h
    clear h hbx hbs
    go_enter Tryz.func52, Tryz.ntmps52
    go_wp2_with fail
    refine cb.mono ?_
    rintro e w' ⟨rfl, rfl⟩
    go_wp2
    go_end0
    exact ⟨rfl, H.out, Eff.refl _ _⟩
end Go.Proofs.YtnbefiaeihialaaGreat
