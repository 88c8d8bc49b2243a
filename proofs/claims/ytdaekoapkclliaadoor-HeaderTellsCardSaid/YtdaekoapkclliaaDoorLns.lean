/- A text's lines (by its ends 13 10), and strings.Split at them; the library's variable that its searches read. -/
import Derived.Test.YtdaekoapkclliaaDoorRows
import Derived.Test.YtdaekoapkclliaaDoorShelf
import Derived.Test.YtdaekoapkclliaaDoorBuild
import Derived.Test.YtdaekoapkclliaaDoorChg
import Derived.Lib.SplitLaws
set_option linter.unusedVariables false
set_option linter.unusedSimpArgs false
namespace Go.Proofs.YtdaekoapkclliaaDoor
open Go.RowKit
def consH (c : UInt8) : List (List UInt8) → List (List UInt8)
  | [] => [[c]]
  | l :: ls => (c :: l) :: ls
/-- A text's lines. -/
def lns : List UInt8 → List (List UInt8)
  | [] => [[]]
  | 13 :: 10 :: r => [] :: lns r
  | c :: r => consH c (lns r)
theorem lns_ne (s : List UInt8) : lns s ≠ [] := by
  induction s using lns.induct with
  | case1 => simp [lns]
  | case2 r _ => simp [lns]
  | case3 c r h ih =>
    rw [lns.eq_3 _ _ h]
    cases lns r <;> simp [consH]
theorem crlf_cases (s : List UInt8) : (∃ r, s = 13 :: 10 :: r) ∨ (∀ r, s = 13 :: 10 :: r → False) := by
  by_cases h : ∃ r, s = 13 :: 10 :: r
  · exact .inl h
  · exact .inr fun r e => h ⟨r, e⟩
theorem lns_cons {c : UInt8} {r : List UInt8} (h : ∀ t, c :: r = 13 :: 10 :: t → False) : lns (c :: r) = consH c (lns r) :=
  lns.eq_3 _ _ fun t h1 h2 => h t (by rw [h1, h2])
theorem index_cons (b : UInt8) (l : List UInt8) : Lib.index (b :: l) [13, 10] = if ([13, 10] : List UInt8).isPrefixOf (b :: l) then 0 else if Lib.index l [13, 10] == -1 then -1 else Lib.index l [13, 10] + 1 := by
  rw [Lib.index]
theorem prefix_no {c : UInt8} {r : List UInt8} (h : ∀ t, c :: r = 13 :: 10 :: t → False) : ([13, 10] : List UInt8).isPrefixOf (c :: r) = false := by
  cases r with
  | nil => simp [List.isPrefixOf]
  | cons d t =>
    simp only [List.isPrefixOf, Bool.and_true, Bool.and_eq_false_iff]
    by_cases h1 : c = 13
    · right
      by_cases h2 : d = 10
      · exact absurd (by rw [h1, h2]) (h t)
      · simpa using fun e => h2 e.symm
    · left; simpa using fun e => h1 e.symm
theorem index_ge1 (l : List UInt8) : -1 ≤ Lib.index l [13, 10] := Lib.index_ge l [13, 10]
/-- strings.Split at the ends gives the lines. -/
theorem split_lns (s : List UInt8) : Lib.splitK [13, 10] 0 (Lib.count s [13, 10]) s = lns s := by
  induction s using lns.induct with
  | case1 => rw [Lib.count_miss (by decide)]; rfl
  | case2 r ih =>
    have hix : Lib.index (13 :: 10 :: r) [13, 10] = ((0 : Nat) : Int) := by rw [index_cons, if_pos (by simp [List.isPrefixOf])]; rfl
    rw [Lib.count_hit (by simp) hix]
    simp only [lns]
    rw [show List.drop (0 + ([13, 10] : List UInt8).length) (13 :: 10 :: r) = r from rfl, Nat.add_comm]
    rw [Lib.splitK, if_neg (by rw [hix]; decide), hix]
    simp [ih]
  | case3 c r h ih =>
    have hp := prefix_no (c := c) (r := r) (fun t e => by injection e with e1 e2; exact h t e1 e2)
    have hix := index_cons c r
    rw [hp] at hix
    simp only [Bool.false_eq_true, if_false] at hix
    rw [lns.eq_3 _ _ h, ← ih]
    by_cases hm : Lib.index r [13, 10] = -1
    · have h1 : Lib.index (c :: r) [13, 10] = -1 := by rw [hix, if_pos (by rw [hm]; rfl)]
      rw [Lib.count_miss h1, Lib.count_miss hm]
      rfl
    · have hge := index_ge1 r
      obtain ⟨j, hj⟩ : ∃ j : Nat, Lib.index r [13, 10] = j := ⟨(Lib.index r [13, 10]).toNat, by omega⟩
      have h1 : Lib.index (c :: r) [13, 10] = ((j + 1 : Nat) : Int) := by rw [hix, if_neg (fun e => hm (beq_iff_eq.1 e)), hj]; omega
      rw [Lib.count_hit (by simp) h1, Lib.count_hit (by simp) hj]
      have e1 : List.drop (j + 1 + ([13, 10] : List UInt8).length) (c :: r) = List.drop (j + ([13, 10] : List UInt8).length) r := by simp
      rw [e1]
      generalize Lib.count (List.drop (j + ([13, 10] : List UInt8).length) r) [13, 10] = k
      rw [Nat.add_comm 1 k, Lib.splitK, Lib.splitK, if_neg (by rw [h1]; intro e; have := beq_iff_eq.1 e; omega), if_neg (by rw [hj]; intro e; have := beq_iff_eq.1 e; omega), h1, hj]
      have e2 : (((j + 1 : Nat) : Int).toNat) = j + 1 := by omega
      have e3 : ((j : Int).toNat) = j := by omega
      rw [e2, e3, e1]
      rfl
theorem lns_sum (s : List UInt8) : (∀ l ∈ lns s, l.length ≤ s.length) ∧ (lns s).length ≤ s.length + 1 := by
  induction s using lns.induct with
  | case1 => simp [lns]
  | case2 r ih =>
    simp only [lns, List.mem_cons, List.length_cons]
    refine ⟨fun l hl => ?_, by omega⟩
    rcases hl with rfl | hl
    · simp
    · have := ih.1 l hl; omega
  | case3 c r h ih =>
    rw [lns.eq_3 _ _ h]
    have hne := lns_ne r
    cases hl : lns r with
    | nil => exact absurd hl hne
    | cons a t =>
      rw [hl] at ih
      simp only [consH, List.mem_cons, List.length_cons] at ih ⊢
      refine ⟨fun l hm => ?_, by omega⟩
      rcases hm with rfl | hm
      · have := ih.1 a (.inl rfl); simp; omega
      · have := ih.1 l (.inr hm); omega
def crlf : ByteArray := ⟨#[13, 10]⟩
def pieces (s : ByteArray) : List ByteArray := Lib.splitB crlf 0 (Lib.countB s crlf) s
theorem pieces_lns (s : ByteArray) : (pieces s).map (·.data.toList) = lns s.data.toList := by
  unfold pieces
  rw [Lib.splitB_data]
  exact split_lns _
theorem pieces_len (s : ByteArray) : (pieces s).length = Lib.countB s crlf + 1 := Lib.splitB_all crlf (by decide) 0 _ s rfl
theorem pieces_at (s : ByteArray) {k : Nat} (h : k < (pieces s).length) : (lns s.data.toList).getD k [] = (pieces s)[k].data.toList := by
  rw [← pieces_lns]
  simp [List.getD_eq_getElem?_getD, List.getElem?_eq_getElem h]
/-- The package variable of the library's that its searches read. -/
def MaxAt (w : World) : Prop := ∃ m, w.cell? ⟨0, 0, none⟩ = some (.int .i64 m)
theorem MaxAt.below {w w' : World} (h : MaxAt w) (hb : Below w.heap.size w w') : MaxAt w' := by
  obtain ⟨m, hm⟩ := h
  exact ⟨m, (hb.cell (p := ⟨_, 0, none⟩) (World.block_lt_of_cell? _ _ hm)).trans hm⟩
theorem bb_below {w w' : World} {B b : Nat} {l : List UInt8} (h : BB w B b l) (hb : Below w.heap.size w w') : BB w' B b l := by
  have key : ∀ p, Lib.BuilderAtF 47 5 B b p (Lib.byteCells l) w → Lib.BuilderAtF 47 5 B b p (Lib.byteCells l) w' := by
    rintro p ⟨hB, v, hbk, hown, hne⟩
    exact ⟨hB, v, (hb.block _ (lt_of_block hbk)).trans hbk, hown.kept (row := none) ⟨hb.os, hb.tape, hb.output, hb.size, fun i hi _ => hb.block i hi⟩ (by cases h : v.ownBlock; exact .inl rfl; exact .inr (by simp)), hne⟩
  exact h.elim (fun x => .inl (key _ x)) (fun x => .inr (key _ x))
theorem MaxAt.up {w w' : World} (h : MaxAt w) (hb : Below w.heap.size w w') : MaxAt w' := h.below hb
/-- A first line goes on. -/
def pre (x : List UInt8) : List (List UInt8) → List (List UInt8)
  | [] => [x]
  | l :: t => (x ++ l) :: t
theorem pre_cons {x : List UInt8} {c : UInt8} {ls : List (List UInt8)} (h : ls ≠ []) : pre x (consH c ls) = pre (x ++ [c]) ls := by
  cases ls with
  | nil => exact absurd rfl h
  | cons l t => simp [pre, consH]
theorem pre_nil {ls : List (List UInt8)} (h : ls ≠ []) : pre [] ls = ls := by
  cases ls with
  | nil => exact absurd rfl h
  | cons l t => rfl
theorem ext_list (s : ByteArray) (a b : Nat) : (s.extract a b).data.toList = (s.data.toList.drop a).take (b - a) := by
  rw [Lib.extract_data]
theorem drop_two {l : List UInt8} {i : Nat} (h : i + 1 < l.length) : l.drop i = l[i] :: l[i + 1] :: l.drop (i + 2) := by
  rw [List.drop_eq_getElem_cons (by omega), List.drop_eq_getElem_cons h]
/-- Between the rounds of Lines: o are the lines that are told, the line that goes on begins at f. -/
def LnI (s : List UInt8) (o : List ByteArray) (f i : Nat) : Prop := f ≤ i ∧ i ≤ s.length ∧ lns s = o.map (·.data.toList) ++ pre ((s.drop f).take (i - f)) (lns (s.drop i)) ∧ o.length ≤ i
theorem LnI.start (s : List UInt8) : LnI s [] 0 0 := ⟨Nat.le_refl _, Nat.zero_le _, by simp [pre_nil (lns_ne s)], Nat.le_refl _⟩
theorem LnI.hit {s : List UInt8} {o : List ByteArray} {f i : Nat} (h : LnI s o f i) (hi : i + 1 < s.length) (h1 : s[i] = 13) (h2 : s[i + 1] = 10) (x : ByteArray) (hx : x.data.toList = (s.drop f).take (i - f)) : LnI s (o ++ [x]) (i + 2) (i + 2) := by
  obtain ⟨a, b, c, d⟩ := h
  refine ⟨Nat.le_refl _, by omega, ?_, by simp; omega⟩
  rw [c, drop_two hi, h1, h2]
  have := lns_ne (s.drop (i + 2))
  rw [lns]
  generalize lns (s.drop (i + 2)) = q at *
  cases q with
  | nil => exact absurd rfl this
  | cons l t => simp [pre, hx]
theorem LnI.miss {s : List UInt8} {o : List ByteArray} {f i : Nat} (h : LnI s o f i) (hi : i + 1 < s.length) (h1 : ¬ (s[i] = 13 ∧ s[i + 1] = 10)) : LnI s o f (i + 1) := by
  obtain ⟨a, b, c, d⟩ := h
  refine ⟨by omega, by omega, ?_, by omega⟩
  have hd : s.drop i = s[i] :: s.drop (i + 1) := List.drop_eq_getElem_cons (by omega)
  have hd2 : s.drop (i + 1) = s[i + 1] :: s.drop (i + 1 + 1) := List.drop_eq_getElem_cons hi
  rw [c, hd, lns_cons (by rw [hd2]; intro t e; injection e with e1 e2; injection e2 with e2 _; exact h1 ⟨e1, e2⟩), pre_cons (lns_ne _)]
  congr 2
  rw [show i + 1 - f = (i - f) + 1 by omega, List.take_succ_eq_append_getElem (by rw [List.length_drop]; omega)]
  congr 1
  rw [List.getElem_drop]
  congr 2
  omega
theorem LnI.last {s : List UInt8} {o : List ByteArray} {f i : Nat} (h : LnI s o f i) (hi : s.length ≤ i + 1) (x : ByteArray) (hx : x.data.toList = s.drop f) : lns s = (o ++ [x]).map (·.data.toList) := by
  obtain ⟨a, b, c, d⟩ := h
  rw [c]
  have hl : (s.drop i).length ≤ 1 := by rw [List.length_drop]; omega
  have hln : lns (s.drop i) = [s.drop i] := by
    generalize s.drop i = t at *
    match t, hl with
    | [], _ => rfl
    | [c], _ => simp [lns_cons (r := []) (c := c) (by intro t e; cases e), lns, consH]
  rw [hln]
  have e : (s.drop f).take (i - f) ++ s.drop i = s.drop f := by
    conv => rhs; rw [← List.take_append_drop (i - f) (s.drop f)]
    rw [List.drop_drop, show f + (i - f) = i by omega]
  simp [pre, hx, e]
theorem ba_app (a b : List UInt8) : (⟨a.toArray⟩ : ByteArray) ++ (⟨b.toArray⟩ : ByteArray) = ⟨(a ++ b).toArray⟩ := by
  apply ByteArray.ext
  apply Array.ext'
  simp
end Go.Proofs.YtdaekoapkclliaaDoor
