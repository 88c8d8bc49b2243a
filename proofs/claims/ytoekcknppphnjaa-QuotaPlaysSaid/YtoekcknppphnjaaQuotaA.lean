/- The contracts of package quota's small methods: what each call does to a book in memory. -/
import Derived.Test.YtoekcknppphnjaaRows
import Derived.Test.YtoekcknppphnjaaUtil
import Derived.Deep.QuietTactic
import Derived.BigQuiet
set_option linter.unusedVariables false
set_option linter.unusedSimpArgs false
namespace Go.Proofs.Ytoekcknppphnjaa
open Go.RowKit

theorem load_any (a : Addr) (v : Int) (w : World) (hc : w.cell? a = some (.int .i64 v)) :
    Calls Try.prog 22 #[.pointer (some a)] w fun e w' => e = .returned (.int .i64 v) ∧ w = w' := by
  have hl := run_call_load (P := Try.prog) Try.func25 (by kernel_rfl) (by kernel_rfl) (by kernel_rfl) .i64 (by kernel_rfl) hc
  go_enter Try.func22, Try.ntmps22
  go_wp2
  go_ret
  exact ⟨rfl, rfl⟩

theorem add_any (a : Addr) (v d : Int) (w : World) (hc : w.cell? a = some (.int .i64 v)) (hf : w.frozen? a = false) (h1 : -9223372036854775808 ≤ v + d) (h2 : v + d ≤ 9223372036854775807) :
    Calls Try.prog 19 #[.pointer (some a), .int .i64 d] w fun e w' => e = .returned (.int .i64 (v + d)) ∧ w.setCell a (.int .i64 (v + d)) = w' := by
  have hs : IntKind.i64.wrap (v + d) = v + d := IntWalk.i64_in _ (by omega)
  have hl := run_call_add (P := Try.prog) Try.func23 (by kernel_rfl) (by kernel_rfl) (by kernel_rfl) .i64 (by kernel_rfl) (y := d) (s := v + d) hc hf (by simp [go_sem, hs])
  clear hs
  go_enter Try.func19, Try.ntmps19
  go_wp2
  go_ret
  exact ⟨rfl, rfl⟩

theorem store_any (a : Addr) (u : Value) (d : Int) (w : World) (hc : w.cell? a = some u) (hf : w.frozen? a = false) :
    Calls Try.prog 21 #[.pointer (some a), .int .i64 d] w fun e w' => e = .returned (.tuple #[]) ∧ w.setCell a (.int .i64 d) = w' := by
  have hl := run_call_store (P := Try.prog) Try.func24 (by kernel_rfl) (by kernel_rfl) (by kernel_rfl) (by kernel_rfl) (k := .i64) (y := d) hc hf
  go_enter Try.func21, Try.ntmps21
  go_wp2
  go_end0
  exact ⟨rfl, rfl⟩

/-- The numbers of a book: how many levels, their bounds, what is taken. -/
structure Book where
  L : Nat
  B : List Int
  T : List Int
structure Book.Ok (k : Book) : Prop where
  lb : k.B.length = 16
  lt : k.T.length = 16
  le : k.L ≤ 16
  inv : ∀ i, 0 ≤ nth k.T i ∧ nth k.T i ≤ nth k.B i ∧ nth k.B i ≤ 1099511627776
  rest : ∀ i, k.L ≤ i → nth k.T i = 0
def Book.cells (k : Book) : List Int := (k.L : Int) :: (k.B ++ k.T)
/-- A book in the memory: block b. -/
structure Bk (w : World) (b : Nat) (k : Book) : Prop where
  ok : k.Ok
  heap : w.heap[b]? = some (.cells (k.cells.map (Value.int .i64)).toArray 51 (0, 0))
theorem Bk.cell0 {w : World} {b : Nat} {k : Book} (h : Bk w b k) : w.cell? ⟨b, 0, none⟩ = some (.int .i64 k.L) := by
  simp [World.cell?, h.heap, Book.cells]
theorem Bk.cellB {w : World} {b : Nat} {k : Book} (h : Bk w b k) (i : Nat) (hi : i < 16) : w.cell? ⟨b, 1 + i, none⟩ = some (.int .i64 (nth k.B i)) := by
  have := h.ok.lb
  rw [show 1 + i = i + 1 by omega, nth_eq]
  simp [World.cell?, h.heap, Book.cells, List.getElem?_append, show i < k.B.length by omega]
theorem Bk.cellT {w : World} {b : Nat} {k : Book} (h : Bk w b k) (i : Nat) (hi : i < 16) : w.cell? ⟨b, 17 + i, none⟩ = some (.int .i64 (nth k.T i)) := by
  have := h.ok.lb; have := h.ok.lt
  rw [show 17 + i = i + 16 + 1 by omega, nth_eq]
  simp [World.cell?, h.heap, Book.cells, List.getElem?_append, show ¬ i + 16 < k.B.length by omega, show i + 16 - k.B.length = i by omega, show i < k.T.length by omega]
theorem Bk.free {w : World} {b : Nat} {k : Book} (h : Bk w b k) (i : Nat) : w.frozen? ⟨b, i, none⟩ = false := by
  simp [World.frozen?, h.heap]
theorem Bk.eff {w w' : World} {b : Nat} {k : Book} (h : Bk w b k) {S : Nat → Prop} (he : Eff S w w') (hn : ¬ S b) : Bk w' b k := ⟨h.ok, he.heap h.heap hn⟩
theorem Bk.lt {w : World} {b : Nat} {k : Book} (h : Bk w b k) : b < w.heap.size := lt_of_block h.heap

theorem Bk.drewN {w : World} {b : Nat} {k : Book} (h : Bk w b k) (n : Nat) : Bk (w.drewN n) b k := ⟨h.ok, h.heap⟩

def tk (k : Book) (i : Int) : Int := if 0 ≤ i ∧ i < k.L then nth k.T i.toNat else 0
def lf (k : Book) (i : Int) : Int := if 0 ≤ i ∧ i < k.L then nth k.B i.toNat - nth k.T i.toNat else 0
def Book.set (k : Book) (i : Nat) (v : Int) : Book := { k with T := k.T.set i v }
theorem Bk.set {w : World} {b : Nat} {k : Book} (h : Bk w b k) (i : Nat) (hi : i < k.L) (v : Int) (h0 : 0 ≤ v) (h1 : v ≤ nth k.B i) :
    Bk (w.setCell ⟨b, 17 + i, none⟩ (.int .i64 v)) b (k.set i v) := by
  have hb := h.ok.lb; have ht := h.ok.lt; have hl := h.ok.le
  refine ⟨⟨hb, by simp [Book.set, ht], hl, fun j => ?_, fun j hj => ?_⟩, ?_⟩
  · have := h.ok.inv j
    simp only [Book.set]
    rw [nth_set _ _ _ _ (by omega)]
    split
    · next e => subst e; exact ⟨h0, h1, this.2.2⟩
    · exact this
  · simp only [Book.set] at hj ⊢
    rw [nth_set _ _ _ _ (by omega), if_neg (by omega)]
    exact h.ok.rest j hj
  · rw [setCell_heap h.heap]
    congr 2
    simp only [Book.cells, Book.set]
    rw [List.setIfInBounds_toArray]
    congr 1
    rw [show 17 + i = (16 + i) + 1 by omega]
    simp only [List.map_cons, List.map_append, List.set_cons_succ]
    rw [List.set_append, if_neg (by simp [hb]), List.map_set]
    simp [hb]

set_option maxHeartbeats 400000 in
theorem there_in (b : Nat) (k : Book) (i : Int) (w : World) (h : Bk w b k) (h1 : 0 ≤ i) (h2 : i < k.L) :
    Calls Try.prog 18 #[.pointer (some ⟨b, 0, none⟩), .int .i64 i] w fun e w' => e = .returned (.bool true) ∧ w = w' := by
  have h0 := h.cell0
  clear h
  go_enter Try.func18, Try.ntmps18
  go_wp2
  go_ret
  exact ⟨ret_bool (by simp), rfl⟩
set_option maxHeartbeats 400000 in
theorem there_out (b : Nat) (k : Book) (i : Int) (w : World) (h : Bk w b k) (hi : ¬ (0 ≤ i ∧ i < k.L)) :
    Calls Try.prog 18 #[.pointer (some ⟨b, 0, none⟩), .int .i64 i] w fun e w' => e = .returned (.bool false) ∧ w = w' := by
  have h0 := h.cell0
  clear h
  rcases Int.lt_or_le i 0 with hn | hn
  all_goals
    try have hge : (k.L : Int) ≤ i := by omega
    clear hi
    go_enter Try.func18, Try.ntmps18
    go_wp2
    go_ret
    exact ⟨ret_bool (by first | rfl | (simp; omega)), rfl⟩

set_option maxHeartbeats 400000 in
theorem taken_in (b : Nat) (k : Book) (i : Nat) (w : World) (h : Bk w b k) (hi : i < k.L) :
    Calls Try.prog 15 #[.pointer (some ⟨b, 0, none⟩), .int .i64 i] w fun e w' => e = .returned (.int .i64 (nth k.T i)) ∧ w = w' := by
  have hL := h.ok.le
  have hT := h.cellT i (by omega)
  have c1 := there_in b k i w h (by omega) (by omega)
  clear h
  go_enter Try.func15, Try.ntmps15
  go_wp2_with (first | (go_at_call 22; refine (load_any _ _ _ hT).mono ?_; rintro e w' ⟨rfl, rfl⟩) | (go_at_call 18; refine c1.mono ?_; rintro e w' ⟨rfl, rfl⟩))
  go_ret
  exact ⟨rfl, rfl⟩
set_option maxHeartbeats 400000 in
theorem taken_out (b : Nat) (k : Book) (i : Int) (w : World) (h : Bk w b k) (hi : ¬ (0 ≤ i ∧ i < k.L)) :
    Calls Try.prog 15 #[.pointer (some ⟨b, 0, none⟩), .int .i64 i] w fun e w' => e = .returned (.int .i64 0) ∧ w = w' := by
  have c1 := there_out b k i w h hi
  clear h hi
  go_enter Try.func15, Try.ntmps15
  go_wp2_with (go_at_call 18; refine c1.mono ?_; rintro e w' ⟨rfl, rfl⟩)
  go_ret
  exact ⟨rfl, rfl⟩
theorem taken_any (b : Nat) (k : Book) (i : Int) (w : World) (h : Bk w b k) :
    Calls Try.prog 15 #[.pointer (some ⟨b, 0, none⟩), .int .i64 i] w fun e w' => e = .returned (.int .i64 (tk k i)) ∧ w = w' := by
  by_cases hi : 0 ≤ i ∧ i < k.L
  · obtain ⟨n, rfl⟩ := Int.eq_ofNat_of_zero_le hi.1
    simp only [tk, if_pos hi]
    exact taken_in b k n w h (by omega)
  · simp only [tk, if_neg hi]
    exact taken_out b k i w h hi

set_option maxHeartbeats 400000 in
theorem left_in (b : Nat) (k : Book) (i : Nat) (w : World) (h : Bk w b k) (hi : i < k.L) :
    Calls Try.prog 16 #[.pointer (some ⟨b, 0, none⟩), .int .i64 i] w fun e w' => e = .returned (.int .i64 (nth k.B i - nth k.T i)) ∧ ∃ n, w.drewN n = w' := by
  have hL := h.ok.le
  have hB := h.cellB i (by omega)
  have hi1 : (0 : Int) ≤ (i : Int) := by omega
  have hi2 : (i : Int) < 16 := by omega
  obtain ⟨i1, i2, i3⟩ := h.ok.inv i
  have c1 := there_in b k i w h (by omega) (by omega)
  have c2 := fun n => taken_in b k i _ (h.drewN n) hi
  clear h
  go_enter Try.func16, Try.ntmps16
  go_wp2_with (go_at_call 18; refine c1.mono ?_; rintro e w' ⟨rfl, rfl⟩)
  go_quiet ((go_at_call 15; exact quietly (c2 _)))
  go_wp2
  go_ret
  exact ⟨rfl, _, rfl⟩
theorem left_out (b : Nat) (k : Book) (i : Int) (w : World) (h : Bk w b k) (hi : ¬ (0 ≤ i ∧ i < k.L)) :
    Calls Try.prog 16 #[.pointer (some ⟨b, 0, none⟩), .int .i64 i] w fun e w' => e = .returned (.int .i64 0) ∧ w = w' := by
  have c1 := there_out b k i w h hi
  clear h hi
  go_enter Try.func16, Try.ntmps16
  go_wp2_with (go_at_call 18; refine c1.mono ?_; rintro e w' ⟨rfl, rfl⟩)
  go_ret
  exact ⟨rfl, rfl⟩
theorem left_any (b : Nat) (k : Book) (i : Int) (w : World) (h : Bk w b k) :
    Calls Try.prog 16 #[.pointer (some ⟨b, 0, none⟩), .int .i64 i] w fun e w' => e = .returned (.int .i64 (lf k i)) ∧ ∃ n, w.drewN n = w' := by
  by_cases hi : 0 ≤ i ∧ i < k.L
  · obtain ⟨n, rfl⟩ := Int.eq_ofNat_of_zero_le hi.1
    simp only [lf, if_pos hi]
    exact left_in b k n w h (by omega)
  · simp only [lf, if_neg hi]
    exact (left_out b k i w h hi).mono fun _ _ ⟨a, b⟩ => ⟨a, 0, b⟩

/-- What Take answers; the book behind it. -/
def takeC (k : Book) (i n : Int) : Int := if ¬ (0 ≤ i ∧ i < k.L) then 4 else if n < 0 then 1 else if lf k i < n then 5 else 0
def takeB (k : Book) (i n : Int) : Book := if takeC k i n = 0 then k.set i.toNat (tk k i + n) else k
def giveC (k : Book) (i n : Int) : Int := if ¬ (0 ≤ i ∧ i < k.L) then 4 else if n < 0 ∨ tk k i < n then 1 else 0
def giveB (k : Book) (i n : Int) : Book := if giveC k i n = 0 then k.set i.toNat (tk k i - n) else k

set_option maxHeartbeats 400000 in
theorem take_none (b : Nat) (k : Book) (i n : Int) (w : World) (h : Bk w b k) (hi : ¬ (0 ≤ i ∧ i < k.L)) :
    Calls Try.prog 10 #[.pointer (some ⟨b, 0, none⟩), .int .i64 i, .int .i64 n] w fun e w' => e = .returned (.int .i64 4) ∧ w = w' := by
  have c1 := there_out b k i w h hi
  clear h hi
  go_enter Try.func10, Try.ntmps10
  go_wp2_with (go_at_call 18; refine c1.mono ?_; rintro e w' ⟨rfl, rfl⟩)
  go_ret
  exact ⟨rfl, rfl⟩
set_option maxHeartbeats 400000 in
theorem take_neg (b : Nat) (k : Book) (i n : Int) (w : World) (h : Bk w b k) (h1 : 0 ≤ i) (h2 : i < k.L) (hn : n < 0) :
    Calls Try.prog 10 #[.pointer (some ⟨b, 0, none⟩), .int .i64 i, .int .i64 n] w fun e w' => e = .returned (.int .i64 1) ∧ w = w' := by
  have c1 := there_in b k i w h h1 h2
  clear h h1 h2
  go_enter Try.func10, Try.ntmps10
  go_wp2_with (go_at_call 18; refine c1.mono ?_; rintro e w' ⟨rfl, rfl⟩)
  go_ret
  exact ⟨rfl, rfl⟩
set_option maxHeartbeats 400000 in
theorem take_full (b : Nat) (k : Book) (i : Nat) (n : Int) (w : World) (h : Bk w b k) (h2 : i < k.L) (hn : 0 ≤ n) (hf : nth k.B i - nth k.T i < n) :
    Calls Try.prog 10 #[.pointer (some ⟨b, 0, none⟩), .int .i64 i, .int .i64 n] w fun e w' => e = .returned (.int .i64 5) ∧ ∃ n, w.drewN n = w' := by
  have c1 := there_in b k i w h (by omega) (by omega)
  have c2 := left_in b k i w h h2
  generalize nth k.B i - nth k.T i = q at *
  clear h h2
  go_enter Try.func10, Try.ntmps10
  go_wp2_with (first | (go_at_call 18; refine c1.mono ?_; rintro e w' ⟨rfl, rfl⟩) | (go_at_call 16; refine c2.mono ?_; rintro e w' ⟨rfl, nq, rfl⟩))
  go_ret
  exact ⟨rfl, _, rfl⟩
set_option maxHeartbeats 400000 in
theorem take_ok (b : Nat) (k : Book) (i : Nat) (n : Int) (w : World) (h : Bk w b k) (h2 : i < k.L) (hn : 0 ≤ n) (hf : n ≤ nth k.B i - nth k.T i) :
    Calls Try.prog 10 #[.pointer (some ⟨b, 0, none⟩), .int .i64 i, .int .i64 n] w fun e w' => e = .returned (.int .i64 0) ∧ Eff (· = b) w w' ∧ Bk w' b (k.set i (nth k.T i + n)) := by
  have hL := h.ok.le
  have c1 := there_in b k i w h (by omega) (by omega)
  have c2 := left_in b k i w h h2
  obtain ⟨i1, i2, i3⟩ := h.ok.inv i
  have hi1 : (0 : Int) ≤ (i : Int) := by omega
  have hi2 : (i : Int) < 16 := by omega
  have c3 := fun nq => add_any ⟨b, 17 + i, none⟩ (nth k.T i) n (w.drewN nq) ((h.drewN nq).cellT i (by omega)) ((h.drewN nq).free _) (by omega) (by omega)
  have hfin : ∀ nq, Eff (· = b) w ((w.drewN nq).setCell ⟨b, 17 + i, none⟩ (.int .i64 (nth k.T i + n))) ∧ Bk ((w.drewN nq).setCell ⟨b, 17 + i, none⟩ (.int .i64 (nth k.T i + n))) b (k.set i (nth k.T i + n)) :=
    fun nq => ⟨((Eff.refl (· = b) w).drewN nq).setCell (p := ⟨b, 17 + i, none⟩) (fun _ => rfl) _, (h.drewN nq).set i h2 _ (by omega) (by omega)⟩
  have HF := Lib.hid hfin
  clear hfin h h2 hL
  generalize nth k.T i = t at *
  generalize nth k.B i = q at *
  go_enter Try.func10, Try.ntmps10
  go_wp2_with (first | (go_at_call 18; refine c1.mono ?_; rintro e w' ⟨rfl, rfl⟩) | (go_at_call 16; refine c2.mono ?_; rintro e w' ⟨rfl, nq, rfl⟩) | (go_at_call 19; refine (c3 _).mono ?_; rintro e w' ⟨rfl, rfl⟩))
  go_ret
  exact ⟨rfl, HF.out _⟩
end Go.Proofs.Ytoekcknppphnjaa
