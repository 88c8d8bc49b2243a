/- Package base64: the coder: sync.Once's Do, New, Count. -/
import Derived.Test.YteklocejgbippaaDoorBasC
set_option linter.unusedVariables false
set_option linter.unusedSimpArgs false
namespace Go.Proofs.YteklocejgbippaaDoor
open Go.RowKit
theorem load_bool (a : Addr) (v : Int) (w : World) (hc : w.cell? a = some (.int .u32 v)) :
    (callFunc 63 #[.pointer (some a)]).run Tryd.prog w = .ok (.value (.int .u32 v)) w :=
  run_call_load (P := Tryd.prog) Tryd.func63 (by kernel_rfl) (by kernel_rfl) (by kernel_rfl) .u32 (by kernel_rfl) hc
theorem bool_any (a : Addr) (v : Int) (w : World) (hc : w.cell? a = some (.int .u32 v)) :
    Calls Tryd.prog 50 #[.pointer (some a)] w fun e w' => e = .returned (.bool (v != 0)) ∧ w = w' := by
  have hl := load_bool a v w hc
  go_enter Tryd.func50, Tryd.ntmps50
  go_wp2
  go_ret
  exact ⟨rfl, rfl⟩
set_option maxRecDepth 100000 in
set_option maxHeartbeats 4000000 in
theorem slow_any (g : Nat) (cnt : Int) (w : World) (h : CoW w g 0 0 0 cnt) :
    Calls Tryd.prog 51 #[.pointer (some ⟨g, 0, none⟩), .func (.func 41) #[.pointer (some ⟨g, 0, none⟩)] #[]] w fun e w' => e = .returned (.tuple #[]) ∧ CoW w' g 1 0 64 cnt ∧ Eff (· = g) w w' := by
  have h1 := h.setL 1
  have e1 := Eff.setCell (S := (· = g)) (Eff.refl _ w) (p := ⟨g, 1, none⟩) (fun _ => rfl) (.int .i32 1)
  have c1 := lock_free ⟨g, 1, none⟩ w h.cells.2.1 (h.free 1)
  have cb := bool_any ⟨g, 0, none⟩ 0 (w.setCell ⟨g, 1, none⟩ (.int .i32 1)) h1.cells.1
  have c2 := table_any g 0 1 cnt _ h1
  have hnot : ∀ (x : Bool) (w : World), (Op.unary .not (.bool x)).run Tryd.prog w = .ok (.bool (!x)) w := fun _ _ => rfl
  have H := Lib.hid (And.intro h1 e1)
  clear h h1 e1
  go_enter_defers Tryd.func51, Tryd.ntmps51
  go_wp2_with fail
  refine c1.mono ?_
  rintro e w' ⟨rfl, rfl⟩
  generalize w.setCell ⟨g, 1, none⟩ (.int .i32 1) = w1 at *
  go_wp2_with fail
  refine cb.mono ?_
  rintro e w' ⟨rfl, rfl⟩
  go_wp2_with fail
  refine c2.mono ?_
  rintro e w2 ⟨rfl, hc2, he2⟩
  have H2 := Lib.hid (And.intro hc2 he2)
  have x0 := hc2.cells.1
  have z0 := hc2.free 0
  clear hc2 he2
  go_wp2
  refine leaves_cons (f := 66) (args := #[.pointer (some ⟨g, 0, none⟩), .bool true]) (by simp) (by simp [go_sem]) ?_
  refine (store_deferred ⟨g, 0, none⟩ (.int .u32 0) .returning _ x0 z0).mono ?_
  rintro e u' w'' ⟨rfl, rfl, rfl⟩
  have h3 : CoW (w2.drew.setCell ⟨g, 0, none⟩ (.int .u32 1)) g 1 1 64 cnt := H2.out.1.drew.setD 1
  refine leaves_cons (f := 65) (args := #[.pointer (some ⟨g, 1, none⟩)]) (by simp [settle]) (by simp [go_sem]) ?_
  refine (unlock_deferred ⟨g, 1, none⟩ _ _ h3.cells.2.1 (h3.free 1)).mono ?_
  rintro e u' w'' ⟨rfl, rfl, rfl⟩
  have h4 := h3.setL 0
  have e4 : Eff (· = g) w ((w2.drew.setCell ⟨g, 0, none⟩ (.int .u32 1)).setCell ⟨g, 1, none⟩ (.int .i32 0)) :=
    Eff.setCell (S := (· = g)) (Eff.setCell (S := (· = g)) ((H.out.2.trans H2.out.2).drew) (p := ⟨g, 0, none⟩) (fun _ => rfl) _) (p := ⟨g, 1, none⟩) (fun _ => rfl) _
  have H4 := Lib.hid (And.intro h4 e4)
  simp [Leaves, settle, results, Tryd.results51]
  exact H4.out
set_option maxRecDepth 100000 in
set_option maxHeartbeats 4000000 in
/-- '(*sync.Once).Do' of the table. -/
theorem do_first (g : Nat) (cnt : Int) (w : World) (h : CoW w g 0 0 0 cnt) :
    Calls Tryd.prog 40 #[.pointer (some ⟨g, 0, none⟩), .func (.func 41) #[.pointer (some ⟨g, 0, none⟩)] #[]] w fun e w' => e = .returned (.tuple #[]) ∧ CoW w' g 1 0 64 cnt ∧ Eff (· = g) w w' := by
  have c1 := slow_any g cnt w h
  have cb := bool_any ⟨g, 0, none⟩ 0 w h.cells.1
  have hnot : ∀ (x : Bool) (w : World), (Op.unary .not (.bool x)).run Tryd.prog w = .ok (.bool (!x)) w := fun _ _ => rfl
  clear h
  go_enter Tryd.func40, Tryd.ntmps40
  go_wp2_with fail
  refine cb.mono ?_
  rintro e w' ⟨rfl, rfl⟩
  go_wp2_with fail
  refine c1.mono ?_
  rintro e w2 ⟨rfl, hc2, he2⟩
  have H2 := Lib.hid (And.intro hc2 he2)
  clear hc2 he2
  go_wp2
  go_end0
  exact ⟨rfl, H2.out⟩
set_option maxRecDepth 100000 in
set_option maxHeartbeats 4000000 in
theorem do_done (g : Nat) (cnt : Int) (w : World) (h : CoW w g 1 0 64 cnt) :
    Calls Tryd.prog 40 #[.pointer (some ⟨g, 0, none⟩), .func (.func 41) #[.pointer (some ⟨g, 0, none⟩)] #[]] w fun e w' => e = .returned (.tuple #[]) ∧ CoW w' g 1 0 64 cnt ∧ Eff (· = g) w w' := by
  have cb := bool_any ⟨g, 0, none⟩ 1 w h.cells.1
  have hnot : ∀ (x : Bool) (w : World), (Op.unary .not (.bool x)).run Tryd.prog w = .ok (.bool (!x)) w := fun _ _ => rfl
  have H := Lib.hid h
  clear h
  go_enter Tryd.func40, Tryd.ntmps40
  go_wp2_with fail
  refine cb.mono ?_
  rintro e w' ⟨rfl, rfl⟩
  go_wp2
  go_end0
  exact ⟨rfl, H.out, Eff.refl _ _⟩
/-- A coder as its makers leave it: new, or its table laid. -/
def CoAt (w : World) (g : Nat) (cnt : Int) : Prop := CoW w g 0 0 0 cnt ∨ CoW w g 1 0 64 cnt
theorem CoAt.cnt {w : World} {g : Nat} {cnt : Int} (h : CoAt w g cnt) : w.cell? ⟨g, 259, none⟩ = some (.int .i64 cnt) := by
  rcases h with h | h
  · exact h.cells.2.2
  · exact h.cells.2.2
theorem CoAt.lt {w : World} {g : Nat} {cnt : Int} (h : CoAt w g cnt) : g < w.heap.size := by
  rcases h with h | h
  · exact h.lt
  · exact h.lt
theorem CoAt.belowW {w w' : World} {g : Nat} {cnt : Int} (h : CoAt w g cnt) (hb : Below w.heap.size w w') : CoAt w' g cnt := by
  rcases h with h | h
  · exact .inl ((hb.block g h.lt).trans h)
  · exact .inr ((hb.block g h.lt).trans h)
theorem do_any (g : Nat) (cnt : Int) (w : World) (h : CoAt w g cnt) :
    Calls Tryd.prog 40 #[.pointer (some ⟨g, 0, none⟩), .func (.func 41) #[.pointer (some ⟨g, 0, none⟩)] #[]] w fun e w' => e = .returned (.tuple #[]) ∧ CoW w' g 1 0 64 cnt ∧ Eff (· = g) w w' := by
  rcases h with h | h
  · exact do_first g cnt w h
  · exact do_done g cnt w h
theorem add_any (a : Addr) (v d : Int) (w : World) (hc : w.cell? a = some (.int .i64 v)) (hf : w.frozen? a = false) (h1 : -9223372036854775808 ≤ v + d) (h2 : v + d ≤ 9223372036854775807) :
    Calls Tryd.prog 43 #[.pointer (some a), .int .i64 d] w fun e w' => e = .returned (.int .i64 (v + d)) ∧ w.setCell a (.int .i64 (v + d)) = w' := by
  have hs : IntKind.i64.wrap (v + d) = v + d := IntWalk.i64_in _ (by omega)
  have hl := run_call_add (P := Tryd.prog) Tryd.func56 (by kernel_rfl) (by kernel_rfl) (by kernel_rfl) .i64 (by kernel_rfl) (y := d) (s := v + d) hc hf (by simp [go_sem, hs])
  clear hs
  go_enter Tryd.func43, Tryd.ntmps43
  go_wp2
  go_ret
  exact ⟨rfl, rfl⟩
theorem zero_co : Tryd.zeroCells73 = (coc 0 0 0 0).toArray := by kernel_rfl
theorem new_any (w : World) : Calls Tryd.prog 29 #[] w fun e w' => e = .returned (.pointer (some ⟨w.heap.size, 0, none⟩)) ∧ CoAt w' w.heap.size 0 ∧ Below w.heap.size w w' := by
  go_enter Tryd.func29, Tryd.ntmps29
  go_wp2
  go_ret
  exact ⟨rfl, .inl ((heap_alloc_new _ _).trans (by rw [zero_co])), (Below.refl _ _).alloc (Nat.le_refl _) _⟩
end Go.Proofs.YteklocejgbippaaDoor
