/- Package header in plain words: right fields, a field's lines, a header's text and what is parsed. They speak of no program. -/
import Derived.Test.YtdaekoapkclliaaDoorLns
import Derived.Lib.SlTrimSet
set_option linter.unusedVariables false
set_option linter.unusedSimpArgs false
namespace Go.Proofs.YtdaekoapkclliaaDoor
abbrev Bs := List UInt8
def okN (c : UInt8) : Bool := decide (33 ≤ c.toNat ∧ c.toNat ≤ 126 ∧ c.toNat ≠ 58)
def isBl (c : UInt8) : Bool := ([32, 9] : Bs).contains c
def isBad (c : UInt8) : Bool := ([0, 13, 10] : Bs).contains c
def trB (s : Bs) : Bs := Lib.trimS s [32, 9]
/-- Is a field right? -/
def rtF (n b : Bs) : Bool := decide (1 ≤ n.length ∧ n.length ≤ 64) && n.all okN && !b.any isBad && decide (trB b = b)
theorem rtF_iff {n b : Bs} : rtF n b = true ↔ (1 ≤ n.length ∧ n.length ≤ 64) ∧ (∀ c ∈ n, okN c = true) ∧ (∀ c ∈ b, isBad c = false) ∧ trB b = b := by
  unfold rtF
  simp only [Bool.and_eq_true, decide_eq_true_eq, List.all_eq_true, Bool.not_eq_true', List.any_eq_false, Bool.not_eq_true, and_assoc]
theorem okN_13 {c : UInt8} (h : okN c = true) : c ≠ 13 ∧ c ≠ 10 ∧ c ≠ 58 ∧ isBl c = false := by
  unfold okN at h
  have h := of_decide_eq_true h
  refine ⟨?_, ?_, ?_, ?_⟩
  · rintro rfl; revert h; decide
  · rintro rfl; revert h; decide
  · rintro rfl; revert h; decide
  · unfold isBl
    rw [Bool.eq_false_iff]
    intro e
    have : c = 32 ∨ c = 9 := by simpa using e
    rcases this with rfl | rfl <;> revert h <;> decide
theorem bad_13 {c : UInt8} (h : isBad c = false) : c ≠ 13 ∧ c ≠ 10 := by
  refine ⟨?_, ?_⟩ <;> (rintro rfl; revert h; decide)
/-! A body's words. -/
def wd : Bs → List Bs
  | [] => [[]]
  | c :: r => if c = 32 then [] :: wd r else consH c (wd r)
theorem wd_ne (s : Bs) : wd s ≠ [] := by
  cases s with
  | nil => simp [wd]
  | cons c r =>
    rw [wd]; split
    · simp
    · cases wd r <;> simp [consH]
theorem index_one (b : UInt8) (l : Bs) (d : UInt8) : Lib.index (b :: l) [d] = if b = d then 0 else if Lib.index l [d] == -1 then -1 else Lib.index l [d] + 1 := by
  rw [Lib.index]
  by_cases h : b = d
  · rw [if_pos h, if_pos (by subst h; simp [List.isPrefixOf])]
  · rw [if_neg h, if_neg (by simp [List.isPrefixOf]; exact fun e => h e.symm)]
theorem split_wd (s : Bs) : Lib.splitK [32] 0 (Lib.count s [32]) s = wd s := by
  induction s with
  | nil => rw [Lib.count_miss (by decide)]; rfl
  | cons c r ih =>
    have hix := index_one c r 32
    by_cases hc : c = 32
    · rw [if_pos hc] at hix
      have hix0 : Lib.index (c :: r) [32] = ((0 : Nat) : Int) := hix
      rw [Lib.count_hit (by simp) hix0, wd, if_pos hc, ← ih]
      rw [show List.drop (0 + ([32] : Bs).length) (c :: r) = r from rfl, Nat.add_comm]
      rw [Lib.splitK, if_neg (by rw [hix]; decide), hix]
      simp
    · rw [if_neg hc] at hix
      rw [wd, if_neg hc, ← ih]
      by_cases hm : Lib.index r [32] = -1
      · have h1 : Lib.index (c :: r) [32] = -1 := by rw [hix, if_pos (by rw [hm]; rfl)]
        rw [Lib.count_miss h1, Lib.count_miss hm]
        rfl
      · have hge := Lib.index_ge r [32]
        obtain ⟨j, hj⟩ : ∃ j : Nat, Lib.index r [32] = j := ⟨(Lib.index r [32]).toNat, by omega⟩
        have h1 : Lib.index (c :: r) [32] = ((j + 1 : Nat) : Int) := by rw [hix, if_neg (fun e => hm (beq_iff_eq.1 e)), hj]; omega
        rw [Lib.count_hit (by simp) h1, Lib.count_hit (by simp) hj]
        have e1 : List.drop (j + 1 + ([32] : Bs).length) (c :: r) = List.drop (j + ([32] : Bs).length) r := by simp
        rw [e1]
        generalize Lib.count (List.drop (j + ([32] : Bs).length) r) [32] = k
        rw [Nat.add_comm 1 k, Lib.splitK, Lib.splitK, if_neg (by rw [h1]; intro e; have := beq_iff_eq.1 e; omega), if_neg (by rw [hj]; intro e; have := beq_iff_eq.1 e; omega), h1, hj]
        have e2 : (((j + 1 : Nat) : Int).toNat) = j + 1 := by omega
        have e3 : ((j : Int).toNat) = j := by omega
        rw [e2, e3, e1]
        rfl
/-- Words, a blank ahead of each. -/
def bw (l : List Bs) : Bs := l.flatMap (32 :: ·)
theorem bw_app (l m : List Bs) : bw (l ++ m) = bw l ++ bw m := List.flatMap_append ..
theorem bw_consH {c : UInt8} {l : List Bs} (h : l ≠ []) : ∃ r, bw l = 32 :: r ∧ bw (consH c l) = 32 :: c :: r := by
  cases l with
  | nil => exact absurd rfl h
  | cons a t => exact ⟨a ++ bw t, by simp [bw], by simp [bw, consH]⟩
theorem bw_wd : ∀ s : Bs, bw (wd s) = 32 :: s
  | [] => rfl
  | c :: r => by
    rw [wd]
    split
    · rename_i h; subst h
      have := bw_wd r
      show 32 :: ([] ++ bw (wd r)) = _
      rw [this]; rfl
    · obtain ⟨t, h1, h2⟩ := bw_consH (c := c) (wd_ne r)
      rw [bw_wd r] at h1
      rw [h2, ← (List.cons.inj h1).2]
theorem wd_app {a : Bs} (h : ∀ x ∈ a, x ≠ 32) (r : Bs) : wd (a ++ 32 :: r) = a :: wd r := by
  induction a with
  | nil => simp [wd]
  | cons c t ih =>
    rw [List.cons_append, wd, if_neg (h c List.mem_cons_self), ih (fun x hx => h x (List.mem_cons_of_mem _ hx))]; rfl
theorem wd_one {a : Bs} (h : ∀ x ∈ a, x ≠ 32) : wd a = [a] := by
  induction a with
  | nil => rfl
  | cons c t ih => rw [wd, if_neg (h c List.mem_cons_self), ih (fun x hx => h x (List.mem_cons_of_mem _ hx))]; rfl
theorem wd_sum (s : Bs) : (∀ x ∈ wd s, x.length ≤ s.length) ∧ (wd s).length ≤ s.length + 1 := by
  induction s with
  | nil => simp [wd]
  | cons c r ih =>
    rw [wd]
    split
    · refine ⟨fun x hx => ?_, by rw [List.length_cons, List.length_cons]; omega⟩
      rcases List.mem_cons.1 hx with rfl | hx
      · simp
      · have := ih.1 x hx; rw [List.length_cons]; omega
    · have hne := wd_ne r
      cases hl : wd r with
      | nil => exact absurd hl hne
      | cons a t =>
        rw [hl] at ih
        simp only [consH, List.mem_cons, List.length_cons] at ih ⊢
        refine ⟨fun x hm => ?_, by omega⟩
        rcases hm with rfl | hm
        · have := ih.1 a (.inl rfl); simp; omega
        · have := ih.1 x (.inr hm); omega
/-! A field's lines. -/
def stp (first : Bool) (st : List Bs × Bs) (w : Bs) : List Bs × Bs :=
  if first = false ∧ w ≠ [] ∧ 78 < st.2.length + 1 + w.length then (st.1 ++ [st.2], 32 :: w) else (st.1, st.2 ++ 32 :: w)
def foldS (n : Bs) (ws : List Bs) : Nat → List Bs × Bs
  | 0 => ([], n ++ [58])
  | k + 1 => stp (k == 0) (foldS n ws k) (ws.getD k [])
/-- A field's lines. -/
def foldL (n b : Bs) : List Bs := if b = [] then [n ++ [58]] else (foldS n (wd b) (wd b).length).1 ++ [(foldS n (wd b) (wd b).length).2]
def whole (n b : Bs) : Bs := n ++ 58 :: (if b = [] then [] else 32 :: b)
theorem stp_flat (f : Bool) (st : List Bs × Bs) (w : Bs) : (stp f st w).1.flatten ++ (stp f st w).2 = st.1.flatten ++ st.2 ++ 32 :: w := by
  unfold stp; split <;> simp
theorem foldS_flat (n : Bs) (ws : List Bs) : ∀ k, k ≤ ws.length → (foldS n ws k).1.flatten ++ (foldS n ws k).2 = n ++ [58] ++ bw (ws.take k)
  | 0, _ => by simp [foldS, bw]
  | k + 1, hk => by
    have hk2 : k < ws.length := hk
    have e : bw (ws.take (k + 1)) = bw (ws.take k) ++ 32 :: ws.getD k [] := by
      rw [List.take_succ_eq_append_getElem hk2, bw_app, List.getD_eq_getElem?_getD, List.getElem?_eq_getElem hk2]
      simp [bw]
    rw [foldS, stp_flat, foldS_flat n ws k (by omega), e, List.append_assoc]
theorem foldL_flat (n b : Bs) : (foldL n b).flatten = whole n b := by
  unfold foldL whole
  split
  · simp
  · rw [List.flatten_append]
    have := foldS_flat n (wd b) _ (Nat.le_refl _)
    rw [List.take_length, bw_wd] at this
    simpa using this
/-- The first line begins with the name, the others with a blank. -/
def Shp (n : Bs) (ls : List Bs) : Prop := ∃ x R, ls = (n ++ 58 :: x) :: R ∧ ∀ l ∈ R, ∃ y, l = 32 :: y
theorem Shp.stp {n : Bs} {st : List Bs × Bs} (h : Shp n (st.1 ++ [st.2])) (f : Bool) (w : Bs) : Shp n ((stp f st w).1 ++ [(stp f st w).2]) := by
  unfold Go.Proofs.YtdaekoapkclliaaDoor.stp
  obtain ⟨x, R, e, hR⟩ := h
  split
  · refine ⟨x, R ++ [32 :: w], by simp [e], fun l hl => ?_⟩
    rcases List.mem_append.1 hl with hl | hl
    · exact hR l hl
    · exact ⟨w, by simpa using hl⟩
  · cases hs : st.1 with
    | nil =>
      rw [hs] at e
      obtain ⟨e1, e2⟩ := List.cons.inj e
      exact ⟨x ++ 32 :: w, [], by rw [e1]; simp, fun l hl => by cases hl⟩
    | cons a t =>
      rw [hs] at e
      obtain ⟨e1, e2⟩ := List.cons.inj (show a :: (t ++ [st.2]) = _ from e)
      have hm : st.2 ∈ R := by rw [← e2]; simp
      obtain ⟨y, hy⟩ := hR _ hm
      refine ⟨x, t ++ [st.2 ++ 32 :: w], by rw [e1]; rfl, fun l hl => ?_⟩
      rcases List.mem_append.1 hl with hl | hl
      · exact hR l (by rw [← e2]; simp [hl])
      · exact ⟨y ++ 32 :: w, by simp at hl; rw [hl, hy]; rfl⟩
theorem foldS_shp (n : Bs) (ws : List Bs) : ∀ k, Shp n ((foldS n ws k).1 ++ [(foldS n ws k).2])
  | 0 => ⟨[], [], rfl, fun l hl => by cases hl⟩
  | k + 1 => (foldS_shp n ws k).stp _ _
theorem foldL_shp (n b : Bs) : Shp n (foldL n b) := by
  unfold foldL
  split
  · exact ⟨[], [], rfl, fun l hl => by cases hl⟩
  · exact foldS_shp _ _ _
theorem foldL_mem {n b : Bs} (h : rtF n b = true) {l : Bs} (hl : l ∈ foldL n b) : l ≠ [] ∧ ∀ z ∈ l, z ≠ 13 ∧ z ≠ 10 := by
  obtain ⟨hn, ho, hb, _⟩ := rtF_iff.1 h
  refine ⟨?_, fun z hz => ?_⟩
  · obtain ⟨x, R, e, hR⟩ := foldL_shp n b
    rw [e] at hl
    rcases List.mem_cons.1 hl with rfl | hl
    · simp
    · obtain ⟨y, rfl⟩ := hR l hl; simp
  · have hm : z ∈ whole n b := by rw [← foldL_flat]; exact List.mem_flatten.2 ⟨l, hl, hz⟩
    unfold whole at hm
    rcases List.mem_append.1 hm with hm | hm
    · exact ⟨(okN_13 (ho z hm)).1, (okN_13 (ho z hm)).2.1⟩
    · rcases List.mem_cons.1 hm with rfl | hm
      · decide
      · split at hm
        · cases hm
        · rcases List.mem_cons.1 hm with rfl | hm
          · decide
          · exact bad_13 (hb z hm)
/-! A header's text. -/
abbrev Fd := Bs × Bs
def prL (l : List Fd) : List Bs := l.flatMap fun f => foldL f.1 f.2
def ctL (ls : List Bs) : Bs := ls.flatMap (· ++ [13, 10])
def allR (l : List Fd) : Bool := l.all fun f => rtF f.1 f.2
def prE (l : List Fd) : Int := if allR l = true then (if 64 < l.length then 3 else if (prL l).any (fun x => decide (998 < x.length)) then 3 else 0) else 2
def prT (l : List Fd) : Bs := if prE l = 0 then ctL (prL l) ++ [13, 10] else []
theorem prE_zero {l : List Fd} : prE l = 0 ↔ (∀ f ∈ l, rtF f.1 f.2 = true) ∧ l.length ≤ 64 ∧ ∀ x ∈ prL l, x.length ≤ 998 := by
  unfold prE allR
  by_cases h1 : (l.all fun f => rtF f.1 f.2) = true
  · rw [if_pos h1]
    by_cases h2 : 64 < l.length
    · rw [if_pos h2]; simp; intro _ h; omega
    · rw [if_neg h2]
      by_cases h3 : (prL l).any (fun x => decide (998 < x.length)) = true
      · rw [if_pos h3]
        simp only [show ((3 : Int) = 0) = False by simp, false_iff]
        rintro ⟨_, _, h⟩
        obtain ⟨x, hx, hx2⟩ := List.any_eq_true.1 h3
        have := h x hx
        have := of_decide_eq_true hx2
        omega
      · rw [if_neg h3]
        simp only [true_iff]
        refine ⟨List.all_eq_true.1 h1, by omega, fun x hx => ?_⟩
        rw [Bool.not_eq_true, List.any_eq_false] at h3
        have := h3 x hx
        simpa using this
  · rw [if_neg h1]
    simp only [show ((2 : Int) = 0) = False by simp, false_iff]
    rintro ⟨h, _⟩
    exact h1 (List.all_eq_true.2 h)
theorem prL_mem {l : List Fd} (h : ∀ f ∈ l, rtF f.1 f.2 = true) {x : Bs} (hx : x ∈ prL l) : x ≠ [] ∧ ∀ z ∈ x, z ≠ 13 ∧ z ≠ 10 := by
  obtain ⟨f, hf, hx⟩ := List.mem_flatMap.1 hx
  exact foldL_mem (h f hf) hx
/-! What is parsed. -/
/-- The lines ahead of the first empty one, and what stands behind; cur: the line that goes on. -/
def cutG (cur : Bs) : Bs → Option (List Bs × Bs)
  | [] => none
  | 13 :: 10 :: r => if cur = [] then some ([], r) else (cutG [] r).map fun p => (cur :: p.1, p.2)
  | c :: r => cutG (cur ++ [c]) r
theorem cutG_c {cur : Bs} {c : UInt8} {r : Bs} (h : ∀ t, c :: r = 13 :: 10 :: t → False) : cutG cur (c :: r) = cutG (cur ++ [c]) r :=
  cutG.eq_3 cur c r fun t h1 h2 => h t (by rw [h1, h2])
theorem cutG_run : ∀ (x cur r : Bs), (∀ z ∈ x, z ≠ 13) → cutG cur (x ++ 13 :: 10 :: r) = if cur ++ x = [] then some ([], r) else (cutG [] r).map fun p => ((cur ++ x) :: p.1, p.2)
  | [], cur, r, _ => by rw [List.nil_append, List.append_nil, cutG]
  | c :: x, cur, r, h => by
    rw [List.cons_append, cutG_c (fun t e => h c List.mem_cons_self (List.cons.inj e).1), cutG_run x _ r (fun z hz => h z (List.mem_cons_of_mem _ hz))]
    simp
theorem cutG_lines : ∀ (ls : List Bs) (more : Bs), (∀ x ∈ ls, x ≠ [] ∧ ∀ z ∈ x, z ≠ 13) → cutG [] (ctL ls ++ 13 :: 10 :: more) = some (ls, more)
  | [], more, _ => by
    show cutG [] (13 :: 10 :: more) = _
    rw [cutG, if_pos rfl]
  | x :: ls, more, h => by
    have e : ctL (x :: ls) ++ 13 :: 10 :: more = x ++ 13 :: 10 :: (ctL ls ++ 13 :: 10 :: more) := by simp [ctL]
    have hx := h x List.mem_cons_self
    rw [e, cutG_run x [] _ hx.2, if_neg (by simpa using hx.1), cutG_lines ls more (fun y hy => h y (List.mem_cons_of_mem _ hy))]
    rfl
def unfG (cur : Bs) : List Bs → List Bs
  | [] => [cur]
  | l :: ls => if isBl (l.headD 0) then unfG (cur ++ l) ls else cur :: unfG l ls
/-- Lines, unfolded. -/
def unf : List Bs → Option (List Bs)
  | [] => some []
  | l :: ls => if isBl (l.headD 0) then none else some (unfG l ls)
theorem unfG_run : ∀ (R : List Bs) (cur : Bs) (ls : List Bs), (∀ l ∈ R, ∃ y, l = 32 :: y) → unfG cur (R ++ ls) = unfG (cur ++ R.flatten) ls
  | [], cur, ls, _ => by simp
  | l :: R, cur, ls, h => by
    obtain ⟨y, rfl⟩ := h l List.mem_cons_self
    rw [List.cons_append, unfG, if_pos (by show isBl 32 = true; decide), unfG_run R _ ls (fun x hx => h x (List.mem_cons_of_mem _ hx))]
    simp
theorem unfG_prL : ∀ (l : List Fd) (cur : Bs), (∀ f ∈ l, rtF f.1 f.2 = true) → unfG cur (prL l) = cur :: l.map (fun f => whole f.1 f.2)
  | [], cur, _ => rfl
  | f :: l, cur, h => by
    obtain ⟨x, R, e, hR⟩ := foldL_shp f.1 f.2
    obtain ⟨hn, ho, _, _⟩ := rtF_iff.1 (h f List.mem_cons_self)
    have hfl := foldL_flat f.1 f.2
    rw [e] at hfl
    have e2 : prL (f :: l) = (f.1 ++ 58 :: x) :: (R ++ prL l) := by show foldL f.1 f.2 ++ prL l = _; rw [e]; rfl
    have hd : isBl ((f.1 ++ 58 :: x).headD 0) = false := by
      cases hf : f.1 with
      | nil => rw [hf] at hn; simp at hn
      | cons c t => exact (okN_13 (ho c (by rw [hf]; exact List.mem_cons_self))).2.2.2
    rw [e2, unfG, hd, if_neg (by decide), unfG_run R _ _ hR, unfG_prL l _ (fun g hg => h g (List.mem_cons_of_mem _ hg))]
    rw [show (f.1 ++ 58 :: x) ++ R.flatten = whole f.1 f.2 from hfl]; rfl
theorem unf_prL (l : List Fd) (h : ∀ f ∈ l, rtF f.1 f.2 = true) : unf (prL l) = some (l.map fun f => whole f.1 f.2) := by
  cases l with
  | nil => rfl
  | cons f l =>
    obtain ⟨x, R, e, hR⟩ := foldL_shp f.1 f.2
    obtain ⟨hn, ho, _, _⟩ := rtF_iff.1 (h f List.mem_cons_self)
    have hfl := foldL_flat f.1 f.2
    rw [e] at hfl
    have e2 : prL (f :: l) = (f.1 ++ 58 :: x) :: (R ++ prL l) := by show foldL f.1 f.2 ++ prL l = _; rw [e]; rfl
    have hd : isBl ((f.1 ++ 58 :: x).headD 0) = false := by
      cases hf : f.1 with
      | nil => rw [hf] at hn; simp at hn
      | cons c t => exact (okN_13 (ho c (by rw [hf]; exact List.mem_cons_self))).2.2.2
    rw [e2, unf, hd, if_neg (by decide), unfG_run R _ _ hR, unfG_prL l _ (fun g hg => h g (List.mem_cons_of_mem _ hg))]
    rw [show (f.1 ++ 58 :: x) ++ R.flatten = whole f.1 f.2 from hfl]; rfl
/-- A field of an unfolded line. -/
def fieldOf (w : Bs) : Option Fd :=
  if (Lib.cut w [58]).2.2 = true ∧ rtF (Lib.cut w [58]).1 (trB (Lib.cut w [58]).2.1) = true then some ((Lib.cut w [58]).1, trB (Lib.cut w [58]).2.1) else none
theorem index_at1 {a : Bs} {d : UInt8} (h : ∀ x ∈ a, x ≠ d) (r : Bs) : Lib.index (a ++ d :: r) [d] = (a.length : Int) := by
  induction a with
  | nil => rw [List.nil_append, index_one, if_pos rfl]; rfl
  | cons c t ih =>
    rw [List.cons_append, index_one, if_neg (h c List.mem_cons_self), ih (fun x hx => h x (List.mem_cons_of_mem _ hx)), if_neg (by intro e; have := beq_iff_eq.1 e; omega)]
    simp
theorem cut_at1 {a : Bs} {d : UInt8} (h : ∀ x ∈ a, x ≠ d) (r : Bs) : Lib.cut (a ++ d :: r) [d] = (a, r, true) := by
  unfold Lib.cut
  rw [index_at1 h, if_pos (by omega)]
  have e : ((a.length : Int)).toNat = a.length := by omega
  rw [e, List.take_left, ← List.drop_drop, List.drop_left]; rfl
theorem trB_nil : trB [] = [] := rfl
theorem trB_bl {b : Bs} (h : trB b = b) : trB (32 :: b) = b := by
  unfold trB Lib.trimS Lib.trimLeftS Lib.trimRightS at h ⊢
  cases hb : b with
  | nil => decide
  | cons c t =>
    rw [hb] at h
    -- the last byte is no blank
    have hr : ∀ l : Bs, ((c :: t).reverse.dropWhile (([32, 9] : Bs).contains ·)).reverse = l → (l.dropWhile (([32, 9] : Bs).contains ·)) = c :: t → l = c :: t := by
      intro l e1 e2
      have h1 : (l.dropWhile (([32, 9] : Bs).contains ·)).length ≤ l.length := (List.dropWhile_suffix _).length_le
      have h2 : l.length ≤ (c :: t).length := by
        rw [← e1, List.length_reverse]
        exact Nat.le_trans (List.dropWhile_suffix _).length_le (by rw [List.length_reverse]; exact Nat.le_refl _)
      have h3 : l.dropWhile (([32, 9] : Bs).contains ·) <:+ l := List.dropWhile_suffix _
      rw [e2] at h3 h1
      exact (h3.eq_of_length (by omega)).symm
    have hl := hr _ rfl h
    rw [hl] at h
    have hrev : (c :: t).reverse.dropWhile (([32, 9] : Bs).contains ·) = (c :: t).reverse := by
      have := congrArg List.reverse hl
      rwa [List.reverse_reverse] at this
    have e3 : ((32 :: c :: t).reverse.dropWhile (([32, 9] : Bs).contains ·)).reverse = 32 :: c :: t := by
      rw [List.reverse_cons, List.dropWhile_append, hrev, if_neg (by simp)]
      simp
    rw [e3]
    rw [List.dropWhile_cons, if_pos (by decide)]
    exact h
theorem fieldOf_whole {n b : Bs} (h : rtF n b = true) : fieldOf (whole n b) = some (n, b) := by
  obtain ⟨hn, ho, hb, ht⟩ := rtF_iff.1 h
  unfold fieldOf whole
  rw [cut_at1 (fun x hx => (okN_13 (ho x hx)).2.2.1)]
  have e : trB (if b = [] then [] else 32 :: b) = b := by
    split
    · rename_i h; rw [h]; rfl
    · exact trB_bl ht
  show (if true = true ∧ rtF n (trB (if b = [] then [] else 32 :: b)) = true then some (n, trB (if b = [] then [] else 32 :: b)) else none) = _
  rw [e, if_pos ⟨rfl, h⟩]
def fdsF : List Bs → Option (List Fd)
  | [] => some []
  | w :: ws => match fieldOf w with
    | none => none
    | some f => (fdsF ws).map (f :: ·)
theorem fdsF_whole : ∀ l : List Fd, (∀ f ∈ l, rtF f.1 f.2 = true) → fdsF (l.map fun f => whole f.1 f.2) = some l
  | [], _ => rfl
  | f :: l, h => by
    rw [List.map_cons, fdsF, fieldOf_whole (h f List.mem_cons_self), fdsF_whole l (fun g hg => h g (List.mem_cons_of_mem _ hg))]; rfl
/-- What Parse tells. -/
def paF (s : Bs) : List Fd × Bs × Int :=
  match cutG [] s with
  | none => ([], [], 2)
  | some (ls, rest) =>
    if ls.any (fun x => decide (998 < x.length)) = true then ([], [], 3) else
    match unf ls with
    | none => ([], [], 2)
    | some ws => match fdsF ws with
      | none => ([], [], 2)
      | some fs => if 64 < fs.length then ([], [], 3) else (fs, rest, 0)
/-- What was printed is parsed. -/
theorem parse_print {l : List Fd} (h : prE l = 0) (more : Bs) : paF (prT l ++ more) = (l, more, 0) := by
  obtain ⟨h1, h2, h3⟩ := prE_zero.1 h
  unfold prT
  rw [if_pos h]
  have e : ctL (prL l) ++ [13, 10] ++ more = ctL (prL l) ++ 13 :: 10 :: more := by simp
  unfold paF
  rw [e, cutG_lines _ _ (fun x hx => ⟨(prL_mem h1 hx).1, fun z hz => ((prL_mem h1 hx).2 z hz).1⟩)]
  show (if (prL l).any (fun x => decide (998 < x.length)) = true then _ else _) = _
  rw [if_neg (by
    rw [Bool.not_eq_true, List.any_eq_false]
    intro x hx
    have := h3 x hx
    simpa using this), unf_prL l h1]
  show (match fdsF (l.map fun f => whole f.1 f.2) with | none => _ | some fs => _) = _
  rw [fdsF_whole l h1]
  show (if 64 < l.length then _ else _) = _
  rw [if_neg (by omega)]
end Go.Proofs.YtdaekoapkclliaaDoor
