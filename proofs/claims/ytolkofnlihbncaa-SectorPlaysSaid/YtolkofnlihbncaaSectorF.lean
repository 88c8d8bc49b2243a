/- Package sector's law folder: a row of acts; Few; what a write does to each sector. -/
import Derived.Test.YtolkofnlihbncaaSectorD
set_option linter.unusedVariables false
set_option linter.unusedSimpArgs false
namespace Go.Proofs.Ytolkofnlihbncaa
open Go.RowKit
structure Act where
  kind : Int
  at_ : Int
  data : ByteArray
  ca : Int
  ct : Int
def act (xs : List Act) (j : Nat) : Act := xs.getD j ⟨0, 0, ⟨#[]⟩, 0, 0⟩
structure Act.Ok (a : Act) : Prop where
  s : a.data.size ≤ 9223372036854775807
  ca : (Lit.int .i64 a.ca).wf = true
  ct : (Lit.int .i64 a.ct).wf = true
structure ActsAt (w : World) (A : Option Addr) (n : Nat) (xs : List Act) : Prop where
  len : xs.length = n
  max : n ≤ 9223372036854775807
  cells : 0 < n → ∃ b off, A = some ⟨b, off, none⟩ ∧ ∀ j, j < n → (act xs j).Ok ∧ w.cell? ⟨b, off + j * 5, none⟩ = some (.int .i64 (act xs j).kind) ∧
    w.cell? ⟨b, off + j * 5 + 1, none⟩ = some (.int .i64 (act xs j).at_) ∧ w.cell? ⟨b, off + j * 5 + 2, none⟩ = some (.string (act xs j).data) ∧
    w.cell? ⟨b, off + j * 5 + 3, none⟩ = some (.int .i64 (act xs j).ca) ∧ w.cell? ⟨b, off + j * 5 + 4, none⟩ = some (.int .i64 (act xs j).ct)
theorem act_cells {w wr : World} {b1 o1 : Nat} {ys : List Act} (hbl : Below w.heap.size w wr) {j : Nat}
    (h : (act ys j).Ok ∧ w.cell? ⟨b1, o1 + j * 5, none⟩ = some (.int .i64 (act ys j).kind) ∧
    w.cell? ⟨b1, o1 + j * 5 + 1, none⟩ = some (.int .i64 (act ys j).at_) ∧ w.cell? ⟨b1, o1 + j * 5 + 2, none⟩ = some (.string (act ys j).data) ∧
    w.cell? ⟨b1, o1 + j * 5 + 3, none⟩ = some (.int .i64 (act ys j).ca) ∧ w.cell? ⟨b1, o1 + j * 5 + 4, none⟩ = some (.int .i64 (act ys j).ct)) :
    wr.cell? ⟨b1, o1 + j * 5, none⟩ = some (.int .i64 (act ys j).kind) ∧
    wr.cell? ⟨b1, o1 + j * 5 + 1, none⟩ = some (.int .i64 (act ys j).at_) ∧ wr.cell? ⟨b1, o1 + j * 5 + 2, none⟩ = some (.string (act ys j).data) ∧
    wr.cell? ⟨b1, o1 + j * 5 + 3, none⟩ = some (.int .i64 (act ys j).ca) ∧ wr.cell? ⟨b1, o1 + j * 5 + 4, none⟩ = some (.int .i64 (act ys j).ct) := by
  obtain ⟨_, q1, q2, q3, q4, q5⟩ := h
  have hlt1 := World.block_lt_of_cell? _ _ q1
  exact ⟨(hbl.cell (p := ⟨b1, o1 + j * 5, none⟩) hlt1).trans q1, (hbl.cell (p := ⟨b1, o1 + j * 5 + 1, none⟩) hlt1).trans q2, (hbl.cell (p := ⟨b1, o1 + j * 5 + 2, none⟩) hlt1).trans q3,
    (hbl.cell (p := ⟨b1, o1 + j * 5 + 3, none⟩) hlt1).trans q4, (hbl.cell (p := ⟨b1, o1 + j * 5 + 4, none⟩) hlt1).trans q5⟩
theorem ActsAt.below {w w' : World} {A : Option Addr} {n : Nat} {xs : List Act} (h : ActsAt w A n xs) (hb : Below w.heap.size w w') : ActsAt w' A n xs :=
  ⟨h.len, h.max, fun hn => by
    obtain ⟨b, off, e, hc⟩ := h.cells hn
    exact ⟨b, off, e, fun j hj => ⟨(hc j hj).1, act_cells hb (hc j hj)⟩⟩⟩
/-- What Few answers. -/
def Fewish (xs : List Act) : Prop := xs.length ≤ 200 ∧ ∀ j, j < xs.length → (act xs j).data.size ≤ 500
set_option maxRecDepth 100000 in
set_option maxHeartbeats 400000 in
theorem few_true (A : Option Addr) (n c : Nat) (xs : List Act) (w : World) (h : ActsAt w A n xs) (hf : Fewish xs) :
    Calls Try.prog 8 #[.slice A n c] w fun e w' => e = .returned (.bool true) ∧ w = w' := by
  obtain ⟨hl, hm, hc⟩ := h
  have hn : n ≤ 200 := by rw [← hl]; exact hf.1
  have HL := Lib.hid hl
  have HF := Lib.hid hf
  have HC := Lib.hid hc
  clear hl hf hc
  go_enter Try.func8, Try.ntmps8
  go_wp2
  go_loop [3] (fun i => ∃ j : Nat, j ≤ n ∧ i = .int .i64 j) (fun i => n - (intOf i).toNat)
  case atStart => exact ⟨0, Nat.zero_le _, rfl⟩
  case round =>
    obtain ⟨j, hj, rfl⟩ := hrel
    by_cases hlt : j < n
    · obtain ⟨b, off, rfl, hcs⟩ := HC.out (by omega)
      have q3 := (hcs j hlt).2.2.2.1
      have hd := HF.out.2 j (by rw [HL.out]; exact hlt)
      have hj1 : (0 : Int) ≤ (j : Int) := by omega
      have hj2 : (j : Int) < (n : Int) := by omega
      have hj3 : j < 200 := by omega
      clear hcs
      generalize (act xs j).data = dd at *
      go_wp2
      go_round
      case rel => exact ⟨j + 1, by omega, by go_num⟩
      case measure => simp [intOf]; omega
    · obtain rfl : j = n := by omega
      go_wp2
      go_ret
      exact ⟨rfl, rfl⟩
/-- The first act that is too much. -/
theorem not_few {xs : List Act} (h : ¬ Fewish xs) : ∃ m, m < xs.length ∧ (200 ≤ m ∨ 500 < (act xs m).data.size) ∧ ∀ j, j < m → j < 200 ∧ (act xs j).data.size ≤ 500 := by
  have hex : ∃ m, m < xs.length ∧ (200 ≤ m ∨ 500 < (act xs m).data.size) := by
    by_cases hl : xs.length ≤ 200
    · false_or_by_contra
      rename_i hc
      exact h ⟨hl, fun j hj => by
        false_or_by_contra
        exact hc ⟨j, hj, .inr (by omega)⟩⟩
    · exact ⟨200, by omega, .inl (Nat.le_refl _)⟩
  have key : ∀ n, (∃ m, m < n ∧ m < xs.length ∧ (200 ≤ m ∨ 500 < (act xs m).data.size)) → ∃ m, m < xs.length ∧ (200 ≤ m ∨ 500 < (act xs m).data.size) ∧ ∀ j, j < m → j < 200 ∧ (act xs j).data.size ≤ 500 := by
    intro n
    induction n with
    | zero => rintro ⟨m, hm, _⟩; omega
    | succ n ih =>
      rintro ⟨m, hm, h1, h2⟩
      by_cases hp : ∃ m, m < n ∧ m < xs.length ∧ (200 ≤ m ∨ 500 < (act xs m).data.size)
      · exact ih hp
      · refine ⟨m, h1, h2, fun j hj => ?_⟩
        false_or_by_contra
        rename_i hc
        exact hp ⟨j, by omega, by omega, by omega⟩
  obtain ⟨m, h1, h2⟩ := hex
  exact key (m + 1) ⟨m, by omega, h1, h2⟩
set_option maxRecDepth 100000 in
set_option maxHeartbeats 400000 in
theorem few_false (A : Option Addr) (n c : Nat) (xs : List Act) (w : World) (h : ActsAt w A n xs) (hf : ¬ Fewish xs) :
    Calls Try.prog 8 #[.slice A n c] w fun e w' => e = .returned (.bool false) ∧ w = w' := by
  obtain ⟨hl, hm, hc⟩ := h
  obtain ⟨m, hm1, hm2, hm3⟩ := not_few hf
  rw [hl] at hm1
  have HM2 := Lib.hid hm2
  have HM3 := Lib.hid hm3
  have HC := Lib.hid hc
  clear hl hf hc hm2 hm3
  go_enter Try.func8, Try.ntmps8
  go_wp2
  go_loop [3] (fun i => ∃ j : Nat, j ≤ m ∧ i = .int .i64 j) (fun i => m - (intOf i).toNat)
  case atStart => exact ⟨0, Nat.zero_le _, rfl⟩
  case round =>
    obtain ⟨j, hj, rfl⟩ := hrel
    obtain ⟨b, off, rfl, hcs⟩ := HC.out (by omega)
    have q3 := (hcs j (by omega)).2.2.2.1
    have hsz := (hcs j (by omega)).1.s
    have hj1 : (0 : Int) ≤ (j : Int) := by omega
    have hj2 : (j : Int) < (n : Int) := by omega
    clear hcs
    by_cases hlt : j < m
    · obtain ⟨e1, e2⟩ := HM3.out j hlt
      generalize (act xs j).data = dd at *
      go_wp2
      go_round
      case rel => exact ⟨j + 1, by omega, by go_num⟩
      case measure => simp [intOf]; omega
    · obtain rfl : j = m := by omega
      by_cases h2 : 200 ≤ j
      · generalize (act xs j).data = dd at *
        go_wp2
        go_ret
        exact ⟨rfl, rfl⟩
      · have e2 : 500 < (act xs j).data.size := by rcases HM2.out with h | h; exact absurd h h2; exact h
        have e1 : j < 200 := by omega
        generalize (act xs j).data = dd at *
        go_wp2
        go_ret
        exact ⟨rfl, rfl⟩
end Go.Proofs.Ytolkofnlihbncaa
