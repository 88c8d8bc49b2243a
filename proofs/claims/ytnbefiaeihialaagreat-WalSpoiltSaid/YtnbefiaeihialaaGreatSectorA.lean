/- Package sector: a disk in memory; its small methods. -/
import Derived.Test.YtnbefiaeihialaaGreatRows
import Derived.Test.YtnbefiaeihialaaGreatBytes
import Derived.StillTailTactics
set_option linter.unusedVariables false
set_option linter.unusedSimpArgs false
namespace Go.Proofs.YtnbefiaeihialaaGreat
open Go.RowKit
theorem sadd_any (a : Addr) (v d : Int) (w : World) (hc : w.cell? a = some (.int .i64 v)) (hf : w.frozen? a = false) (h1 : -9223372036854775808 ≤ v + d) (h2 : v + d ≤ 9223372036854775807) :
    Calls Tryz.prog 51 #[.pointer (some a), .int .i64 d] w fun e w' => e = .returned (.int .i64 (v + d)) ∧ w.setCell a (.int .i64 (v + d)) = w' := by
  have hs : IntKind.i64.wrap (v + d) = v + d := IntWalk.i64_in _ (by omega)
  have hl := run_call_add (P := Tryz.prog) Tryz.func66 (by kernel_rfl) (by kernel_rfl) (by kernel_rfl) .i64 (by kernel_rfl) (y := d) (s := v + d) hc hf (by simp [go_sem, hs])
  clear hs
  go_enter Tryz.func51, Tryz.ntmps51
  go_wp2
  go_ret
  exact ⟨rfl, rfl⟩
/-- A disk: how many sectors, their bytes, the cut, the writes since, those of all time, is it down. -/
structure Dk where
  n : Nat
  data : List UInt8
  cut : Int
  torn : Int
  since : Int
  all : Int
  down : Bool
structure Dk.Ok (k : Dk) : Prop where
  n1 : 1 ≤ k.n
  n2 : k.n ≤ 4096
  len : k.data.length = k.n * 64
def Dk.cells (k : Dk) (D c : Nat) : Array Value := #[.slice (some ⟨D, 0, none⟩) (k.n * 64) c, .int .i64 k.cut, .int .i64 k.torn, .int .i64 k.since, .bool k.down, .int .i64 k.all]
/-- A disk in memory: its struct is block g, its bytes begin block D. -/
structure DkAt (w : World) (g D c : Nat) (R : List Value) (k : Dk) : Prop where
  ok : k.Ok
  cap : k.n * 64 ≤ c ∧ c ≤ 9223372036854775807
  mem : w.heap[g]? = some (.cells (k.cells D c) 90 (0, 0))
  dat : w.heap[D]? = some (.cells (bcells k.data ++ R).toArray 5 (0, 0))
theorem DkAt.ne {w : World} {g D c : Nat} {R : List Value} {k : Dk} (h : DkAt w g D c R k) : g ≠ D := by
  rintro rfl
  have h1 := h.mem
  rw [h.dat] at h1
  simp at h1
theorem DkAt.keep {w w' : World} {g D c : Nat} {R : List Value} {k : Dk} (h : DkAt w g D c R k) {S : Nat → Prop} (he : Eff S w w') (h1 : ¬ S g) (h2 : ¬ S D) : DkAt w' g D c R k := ⟨h.ok, h.cap, he.heap h.mem h1, he.heap h.dat h2⟩
theorem DkAt.below {w w' : World} {g D c : Nat} {R : List Value} {k : Dk} (h : DkAt w g D c R k) (hb : Below w.heap.size w w') : DkAt w' g D c R k := h.keep (Eff.of_below hb (fun _ => False)) id id
theorem DkAt.drewN {w : World} {g D c : Nat} {R : List Value} {k : Dk} (h : DkAt w g D c R k) (n : Nat) : DkAt (w.drewN n) g D c R k := ⟨h.ok, h.cap, h.mem, h.dat⟩
/-- What the cells of the struct hold. -/
theorem DkAt.cell {w : World} {g D c : Nat} {R : List Value} {k : Dk} (h : DkAt w g D c R k) :
    w.cell? ⟨g, 0, none⟩ = some (.slice (some ⟨D, 0, none⟩) (k.n * 64) c) ∧ w.cell? ⟨g, 1, none⟩ = some (.int .i64 k.cut) ∧ w.cell? ⟨g, 2, none⟩ = some (.int .i64 k.torn) ∧
    w.cell? ⟨g, 3, none⟩ = some (.int .i64 k.since) ∧ w.cell? ⟨g, 4, none⟩ = some (.bool k.down) ∧ w.cell? ⟨g, 5, none⟩ = some (.int .i64 k.all) := by
  refine ⟨?_, ?_, ?_, ?_, ?_, ?_⟩ <;> rw [cell_of_row _ _ _ _ _ _ h.mem] <;> rfl
theorem DkAt.free {w : World} {g D c : Nat} {R : List Value} {k : Dk} (h : DkAt w g D c R k) (i : Nat) : w.frozen? ⟨g, i, none⟩ = false := frozen_of_row _ _ _ _ _ h.mem
theorem DkAt.byte {w : World} {g D c : Nat} {R : List Value} {k : Dk} (h : DkAt w g D c R k) (i : Nat) (hi : i < k.data.length) : w.cell? ⟨D, i, none⟩ = some (.int .u8 k.data[i].toNat) := by
  rw [cell_of_row _ _ _ _ _ _ h.dat]
  rw [List.getElem?_toArray, List.getElem?_append, if_pos (by rw [bcells_length]; exact hi), bcells_get hi]
set_option maxHeartbeats 400000 in
theorem size_any (g D c : Nat) (R : List Value) (k : Dk) (w : World) (h : DkAt w g D c R k) :
    Calls Tryz.prog 57 #[.pointer (some ⟨g, 0, none⟩)] w fun e w' => e = .returned (.int .i64 k.n) ∧ w = w' := by
  have h0 := h.cell.1
  have hn := h.ok.n2
  clear h
  generalize k.n = n at *
  go_enter Tryz.func57, Tryz.ntmps57
  go_wp2
  go_ret
  exact ⟨ret_int (by omega), rfl⟩
set_option maxHeartbeats 400000 in
theorem place_down (g D c : Nat) (R : List Value) (k : Dk) (i : Int) (w : World) (h : DkAt w g D c R k) (hd : k.down = true) :
    Calls Tryz.prog 50 #[.pointer (some ⟨g, 0, none⟩), .int .i64 i] w fun e w' => e = .returned (.tuple #[.slice none 0 0, .int .i64 6]) ∧ w = w' := by
  have h4 := h.cell.2.2.2.2.1
  rw [hd] at h4
  clear h hd
  go_enter Tryz.func50, Tryz.ntmps50
  go_wp2
  go_ret2
  exact ⟨rfl, rfl⟩
set_option maxHeartbeats 400000 in
theorem place_out (g D c : Nat) (R : List Value) (k : Dk) (i : Int) (w : World) (h : DkAt w g D c R k) (hd : k.down = false) (hi : ¬ (0 ≤ i ∧ i < k.n)) :
    Calls Tryz.prog 50 #[.pointer (some ⟨g, 0, none⟩), .int .i64 i] w fun e w' => e = .returned (.tuple #[.slice none 0 0, .int .i64 1]) ∧ w = w' := by
  have h4 := h.cell.2.2.2.2.1
  rw [hd] at h4
  have c1 := size_any g D c R k w h
  have hn := h.ok.n2
  clear h hd
  generalize k.n = n at *
  rcases Int.lt_or_le i 0 with hn | hn
  all_goals
    try have hge : (n : Int) ≤ i := by omega
    clear hi
    go_enter Tryz.func50, Tryz.ntmps50
    go_wp2_with (go_at_call 57; refine c1.mono ?_; rintro e w' ⟨rfl, rfl⟩)
    go_ret2
    exact ⟨rfl, rfl⟩
set_option maxHeartbeats 400000 in
theorem place_in (g D c : Nat) (R : List Value) (k : Dk) (i : Nat) (w : World) (h : DkAt w g D c R k) (hd : k.down = false) (hi : i < k.n) :
    Calls Tryz.prog 50 #[.pointer (some ⟨g, 0, none⟩), .int .i64 i] w fun e w' => e = .returned (.tuple #[.slice (some ⟨D, i * 64, none⟩) 64 64, .int .i64 0]) ∧ w = w' := by
  have h4 := h.cell.2.2.2.2.1
  have h0 := h.cell.1
  rw [hd] at h4
  have c1 := size_any g D c R k w h
  have hn := h.ok.n2
  obtain ⟨hc1, hc2⟩ := h.cap
  clear h hd
  generalize k.n = n at *
  have hi1 : (0 : Int) ≤ (i : Int) := by omega
  have hi2 : (i : Int) < (n : Int) := by omega
  go_enter Tryz.func50, Tryz.ntmps50
  go_wp2_with (go_at_call 57; refine c1.mono ?_; rintro e w' ⟨rfl, rfl⟩)
  go_ret2
  have e : (i + 1) * 64 - i * 64 = 64 := by omega
  exact ⟨by simp [e], rfl⟩
/-- The bytes of a sector. -/
def sec (k : Dk) (i : Nat) : List UInt8 := (k.data.drop (i * 64)).take 64
theorem sec_len {k : Dk} (h : k.Ok) {i : Nat} (hi : i < k.n) : (sec k i).length = 64 := by
  have := h.len
  simp [sec]; omega
theorem sec_get {k : Dk} (h : k.Ok) {i : Nat} (hi : i < k.n) {j : Nat} (hj : j < 64) : (sec k i)[j]? = k.data[i * 64 + j]? := by
  simp [sec, List.getElem?_take, hj]
theorem DkAt.conv {w : World} {g D c : Nat} {R : List Value} {k : Dk} (h : DkAt w g D c R k) {i : Nat} (hi : i < k.n) :
    (convert 73 9 (.slice (some ⟨D, i * 64, none⟩) 64 64)).run Tryz.prog w = .ok (.string ⟨(sec k i).toArray⟩) w := by
  have hl := h.ok.len
  rw [← strOfNums_bytes]
  refine run_convert_bytes_arg w 73 5 Tryz.underlying73 Tryz.underlying5 D (i * 64) 64 64 _ (by rw [List.length_map, sec_len h.ok hi]) (fun j hj => ?_) 9 Tryz.underlying9
  rw [h.byte (i * 64 + j) (by omega)]
  have hs := sec_get h.ok hi hj
  rw [List.getElem?_eq_getElem (l := k.data) (by omega)] at hs
  simp [List.getD_eq_getElem?_getD, hs]
/-- What Read answers. -/
def readS (k : Dk) (i : Int) : ByteArray := if k.down = false ∧ 0 ≤ i ∧ i < k.n then ⟨(sec k i.toNat).toArray⟩ else ⟨#[]⟩
def readC (k : Dk) (i : Int) : Int := if k.down = true then 6 else if 0 ≤ i ∧ i < k.n then 0 else 1
set_option maxHeartbeats 400000 in
theorem read_in (g D c : Nat) (R : List Value) (k : Dk) (i : Nat) (w : World) (h : DkAt w g D c R k) (hd : k.down = false) (hi : i < k.n) :
    Calls Tryz.prog 60 #[.pointer (some ⟨g, 0, none⟩), .int .i64 i] w fun e w' => e = .returned (.tuple #[.string ⟨(sec k i).toArray⟩, .int .i64 0]) ∧ w = w' := by
  have c1 := place_in g D c R k i w h hd hi
  have hcv := h.conv hi
  clear h hd hi
  generalize sec k i = sx at *
  go_enter Tryz.func60, Tryz.ntmps60
  go_wp2_with (go_at_call 50; refine c1.mono ?_; rintro e w' ⟨rfl, rfl⟩)
  go_ret2
  exact ⟨rfl, rfl⟩
set_option maxHeartbeats 400000 in
theorem read_no (g : Nat) (i : Int) (cd : Int) (w : World)
    (c1 : Calls Tryz.prog 50 #[.pointer (some ⟨g, 0, none⟩), .int .i64 i] w fun e w' => e = .returned (.tuple #[.slice none 0 0, .int .i64 cd]) ∧ w = w') :
    Calls Tryz.prog 60 #[.pointer (some ⟨g, 0, none⟩), .int .i64 i] w fun e w' => e = .returned (.tuple #[.string ⟨#[]⟩, .int .i64 cd]) ∧ w = w' := by
  have hcv := run_convert_bytes_nil (P := Tryz.prog) w 73 5 Tryz.underlying73 Tryz.underlying5 0 0 9 Tryz.underlying9
  go_enter Tryz.func60, Tryz.ntmps60
  go_wp2_with (go_at_call 50; refine c1.mono ?_; rintro e w' ⟨rfl, rfl⟩)
  go_ret2
  exact ⟨rfl, rfl⟩
theorem read_any (g D c : Nat) (R : List Value) (k : Dk) (i : Int) (w : World) (h : DkAt w g D c R k) :
    Calls Tryz.prog 60 #[.pointer (some ⟨g, 0, none⟩), .int .i64 i] w fun e w' => e = .returned (.tuple #[.string (readS k i), .int .i64 (readC k i)]) ∧ w = w' := by
  cases hd : k.down with
  | true =>
    have e1 : readS k i = ⟨#[]⟩ := by simp [readS, hd]
    have e2 : readC k i = 6 := by simp [readC, hd]
    rw [e1, e2]
    exact read_no g i 6 w (place_down g D c R k i w h hd)
  | false =>
    by_cases hi : 0 ≤ i ∧ i < k.n
    · obtain ⟨j, rfl⟩ := Int.eq_ofNat_of_zero_le hi.1
      have e1 : readS k j = ⟨(sec k j).toArray⟩ := by simp only [readS]; rw [if_pos ⟨hd, hi⟩]; rfl
      have e2 : readC k j = 0 := by simp only [readC]; rw [if_neg (by simp [hd]), if_pos hi]
      rw [e1, e2]
      exact read_in g D c R k j w h hd (by omega)
    · have e1 : readS k i = ⟨#[]⟩ := by simp only [readS]; rw [if_neg (fun h => hi h.2)]
      have e2 : readC k i = 1 := by simp only [readC]; rw [if_neg (by simp [hd]), if_neg hi]
      rw [e1, e2]
      exact read_no g i 1 w (place_out g D c R k i w h hd hi)
end Go.Proofs.YtnbefiaeihialaaGreat
