/- Package quoted: Encode's walk. -/
import Derived.Test.YtjkonhpmfolcoaaDoorQuotB
set_option linter.unusedVariables false
set_option linter.unusedSimpArgs false
namespace Go.Proofs.YtjkonhpmfolcoaaDoor
open Go.RowKit
theorem lineSt_w (l : List UInt8) : ∀ j, (lineSt l j).2 ≤ 75
  | 0 => by simp [lineSt]
  | j + 1 => by
    have h3 := signL_len (l.getD j 0) (decide (j + 1 = l.length))
    rw [lineSt]; unfold putS
    split
    · show _ ≤ 75; omega
    · show _ + _ ≤ 75; omega
theorem lineSt_len (l : List UInt8) : ∀ j, (lineSt l j).1.length ≤ 6 * j
  | 0 => by simp [lineSt]
  | j + 1 => by
    have h3 := signL_len (l.getD j 0) (decide (j + 1 = l.length))
    have := lineSt_len l j
    rw [lineSt]
    generalize signL (l.getD j 0) (decide (j + 1 = l.length)) = x at *
    unfold putS
    split <;> simp <;> omega
theorem encK_mono (ls : List (List UInt8)) (k : Nat) : ∀ d, (encK ls k).length ≤ (encK ls (k + d)).length
  | 0 => Nat.le_refl _
  | d + 1 => by
    refine Nat.le_trans (encK_mono ls k d) ?_
    rw [show k + (d + 1) = (k + d) + 1 from rfl, encK]
    split
    · rename_i h; rw [h]; simp [encK]
    · simp
theorem lns_sum (s : List UInt8) : (∀ l ∈ lns s, l.length ≤ s.length) ∧ (lns s).length ≤ s.length + 1 := by
  induction s using lns.induct with
  | case1 => simp [lns]
  | case2 r ih =>
    simp only [lns, List.mem_cons, List.length_cons]
    refine ⟨fun l hl => ?_, by omega⟩
    rcases hl with rfl | hl
    · simp
    · have := ih.1 l hl; omega
  | case3 c r h ih =>
    rw [lns.eq_3 _ _ h]
    have hne := lns_ne r
    cases hl : lns r with
    | nil => exact absurd hl hne
    | cons a t =>
      rw [hl] at ih
      simp only [consH, List.mem_cons, List.length_cons] at ih ⊢
      refine ⟨fun l hm => ?_, by omega⟩
      rcases hm with rfl | hm
      · have := ih.1 a (.inl rfl); simp; omega
      · have := ih.1 l (.inr hm); omega
theorem encK_len (s : List UInt8) (k : Nat) (hk : k ≤ (lns s).length) : (encK (lns s) k).length ≤ 6 * s.length := by
  have h1 := encK_mono (lns s) k ((lns s).length - k)
  rw [show k + ((lns s).length - k) = (lns s).length by omega] at h1
  exact Nat.le_trans h1 (enc_len s)
def crlf : ByteArray := ⟨#[13, 10]⟩
def pieces (s : ByteArray) : List ByteArray := Lib.splitB crlf 0 (Lib.countB s crlf) s
theorem pieces_lns (s : ByteArray) : (pieces s).map (·.data.toList) = lns s.data.toList := by
  unfold pieces
  rw [Lib.splitB_data]
  exact split_lns _
theorem pieces_len (s : ByteArray) : (pieces s).length = Lib.countB s crlf + 1 := Lib.splitB_all crlf (by decide) 0 _ s rfl
theorem pieces_at (s : ByteArray) {k : Nat} (h : k < (pieces s).length) : (lns s.data.toList).getD k [] = (pieces s)[k].data.toList := by
  rw [← pieces_lns]
  simp [List.getD_eq_getElem?_getD, List.getElem?_eq_getElem h]
/-- The package variable of the library's that its searches read. -/
def MaxAt (w : World) : Prop := ∃ m, w.cell? ⟨0, 0, none⟩ = some (.int .i64 m)
theorem MaxAt.below {w w' : World} (h : MaxAt w) (hb : Below w.heap.size w w') : MaxAt w' := by
  obtain ⟨m, hm⟩ := h
  exact ⟨m, (hb.cell (p := ⟨_, 0, none⟩) (World.block_lt_of_cell? _ _ hm)).trans hm⟩
theorem bb_below {w w' : World} {B b : Nat} {l : List UInt8} (h : BB w B b l) (hb : Below w.heap.size w w') : BB w' B b l := by
  have key : ∀ p, Lib.BuilderAtF 39 5 B b p (Lib.byteCells l) w → Lib.BuilderAtF 39 5 B b p (Lib.byteCells l) w' := by
    rintro p ⟨hB, v, hbk, hown, hne⟩
    exact ⟨hB, v, (hb.block _ (lt_of_block hbk)).trans hbk, hown.kept (row := none) ⟨hb.os, hb.tape, hb.output, hb.size, fun i hi _ => hb.block i hi⟩ (by cases h : v.ownBlock; exact .inl rfl; exact .inr (by simp)), hne⟩
  exact h.elim (fun x => .inl (key _ x)) (fun x => .inr (key _ x))
theorem MaxAt.up {w w' : World} (h : MaxAt w) (hb : Below w.heap.size w w') : MaxAt w' := h.below hb
/-- Between the rounds of Encode. -/
structure EI (w wr : World) (cap : Nat) (ls : List ByteArray) (o : List UInt8) (n : Nat) : Prop where
  bb : BB wr w.heap.size w.heap.size o
  wd : IntAt wr (w.heap.size + 1) n
  row : StrsAt wr (w.heap.size + 2) cap ls
  below : Below w.heap.size w wr
theorem EI.put {w wr w' : World} {cap : Nat} {ls : List ByteArray} {o o' : List UInt8} {n n' : Nat} (h : EI w wr cap ls o n) (h1 : BB w' w.heap.size w.heap.size o') (h2 : IntAt w' (w.heap.size + 1) n') (h3 : Chg w.heap.size (fun k => k = w.heap.size ∨ k = w.heap.size + 1) wr w') : EI w w' cap ls o' n' :=
  ⟨h1, h2, h.row.chg h3 (by omega), h.below.trans h3.below⟩
theorem Tryd.info9 : (Tryd.prog.info? 9).map (·.size) = some 1 := by kernel_rfl
set_option maxRecDepth 100000 in
set_option maxHeartbeats 2000000 in
theorem encode_any (s : ByteArray) (w : World) (hs : s.size ≤ 1000000) (hm : MaxAt w) :
    Calls Tryd.prog 12 #[.string s] w fun e w' => e = .returned (.string ⟨(enc s.data.toList).toArray⟩) ∧ Below w.heap.size w w' := by
  obtain ⟨m, hm⟩ := hm
  have hm0 : 0 < w.heap.size := Nat.lt_of_le_of_lt (Nat.zero_le _) (World.block_lt_of_cell? _ _ hm)
  have hsz := bsize s
  have hsum := lns_sum s.data.toList
  have hpl := pieces_lns s
  have hll : (lns s.data.toList).length = (pieces s).length := by rw [← hpl, List.length_map]
  have HM := Lib.hid hm
  have HS := Lib.hid (And.intro hsz (And.intro hsum (And.intro hpl hll)))
  have hN : (pieces s).length ≤ 1000001 := by omega
  clear hm hsum hpl hll
  go_enter Tryd.func12, Tryd.ntmps12
  go_wp2_with fail
  have hcell : ((w.alloc (Obj.cells #[Value.pointer none, Value.slice none 0 0] 39)).alloc (Obj.cells #[Value.int IntKind.i64 0] 3)).cell? ⟨0, 0, none⟩ = some (.int .i64 m) :=
    ((((Below.refl _ w).alloc (Nat.le_refl _) _).alloc (by simp) _).cell (p := ⟨0, 0, none⟩) hm0).trans HM.out
  refine (Tryd.strings_Split s ⟨#[13, 10]⟩ m _ (by omega) hcell (by decide)).mono ?_
  have hn : Lib.countB s ⟨#[13, 10]⟩ + 1 = (pieces s).length := (pieces_len s).symm
  have hp : Lib.splitB ⟨#[13, 10]⟩ 0 (Lib.countB s ⟨#[13, 10]⟩) s = pieces s := rfl
  rw [hn, hp]
  clear hn hp hcell
  have hei : EI w (((w.alloc (Obj.cells #[Value.pointer none, Value.slice none 0 0] 39)).alloc (Obj.cells #[Value.int IntKind.i64 0] 3)).alloc (.cells ((pieces s).map Value.string).toArray 9)) (pieces s).length (pieces s) [] 0 := by
    refine ⟨((bb_new w _ (Nat.le_refl _)).alloc _).alloc _, ?_, ⟨⟨((pieces s).map Value.string).toArray, ?_, List.take_of_length_le (by simp)⟩, Nat.le_refl _, by unfold maxLen; omega⟩, ?_⟩
    · have h1 := heap_alloc_new (w.alloc (Obj.cells #[Value.pointer none, Value.slice none 0 0] 39)) (Obj.cells #[Value.int IntKind.i64 0] 3)
      have e : (w.alloc (Obj.cells #[Value.pointer none, Value.slice none 0 0] 39)).heap.size = w.heap.size + 1 := by simp
      rw [e] at h1
      exact (Below.heap_alloc _ _ _ (by simp)).trans h1
    · have h1 := heap_alloc_new ((w.alloc (Obj.cells #[Value.pointer none, Value.slice none 0 0] 39)).alloc (Obj.cells #[Value.int IntKind.i64 0] 3)) (.cells ((pieces s).map Value.string).toArray 9)
      have e : ((w.alloc (Obj.cells #[Value.pointer none, Value.slice none 0 0] 39)).alloc (Obj.cells #[Value.int IntKind.i64 0] 3)).heap.size = w.heap.size + 2 := by simp
      rw [e] at h1
      exact h1
    · exact (((Below.refl _ _).alloc (Nat.le_refl _) _).alloc (by simp) _).alloc (by simp; omega) _
  have e2 : ((w.alloc (Obj.cells #[Value.pointer none, Value.slice none 0 0] 39)).alloc (Obj.cells #[Value.int IntKind.i64 0] 3)).heap.size = w.heap.size + 2 := by simp
  rw [e2]
  clear e2
  have HEI := Lib.hid hei
  clear hei
  generalize (((w.alloc (Obj.cells #[Value.pointer none, Value.slice none 0 0] 39)).alloc (Obj.cells #[Value.int IntKind.i64 0] 3)).alloc (.cells ((pieces s).map Value.string).toArray 9)) = wx at *
  rintro e w1 ⟨rfl, rfl⟩
  obtain ⟨N, hN'⟩ : ∃ N, N = (pieces s).length := ⟨_, rfl⟩
  rw [← hN'] at hN ⊢
  have HNN := Lib.hid hN'
  clear hN'
  go_wp2
  have hz : HEI.out.below.size = HEI.out.below.size := rfl
  clear hz
  go_loopw [13] (fun i wr => ∃ (k n : Nat), k ≤ N ∧ i = .int .i64 k ∧ EI w wr N (pieces s) (encK (lns s.data.toList) k) n) (fun i _ => N - (intOf i).toNat)
  case atStart => exact ⟨0, 0, Nat.zero_le _, rfl, by rw [HNN.out]; exact HEI.out⟩
  case round =>
    clear HEI
    obtain ⟨k, n, hk, rfl, hei⟩ := hrel
    obtain ⟨wo, rfl⟩ : ∃ wo : World, wo = wr := ⟨_, rfl⟩
    by_cases hlt : k < N
    · have hkp : k < (pieces s).length := by have := HNN.out; omega
      have hx := pieces_at s hkp
      have hxl : ((lns s.data.toList).getD k []).length ≤ s.data.toList.length := by
        refine HS.out.2.1.1 _ ?_
        rw [List.getD_eq_getElem?_getD, List.getElem?_eq_getElem (by rw [HS.out.2.2.2]; exact hkp)]
        exact List.getElem_mem _
      have hcell := hei.row.cell k hkp
      have hol := encK_len s.data.toList k (by rw [HS.out.2.2.2]; omega)
      rw [hsz] at hol hxl
      have HK : Hid (∀ o', o' = (if k = 0 then [] else encK (lns s.data.toList) k ++ [13, 10]) → encK (lns s.data.toList) (k + 1) = o' ++ (lineSt ((lns s.data.toList).getD k []) ((lns s.data.toList).getD k []).length).1) := fun o' h => by rw [h]; rfl
      rw [hx] at hxl
      rw [hx] at HK
      have hxs := bsize (pieces s)[k]
      rw [hxs] at hxl
      obtain ⟨x, hxx⟩ : ∃ x, x = (pieces s)[k] := ⟨_, rfl⟩
      rw [← hxx] at hcell HK hxl hxs
      rw [hxs] at HK
      have HXS := Lib.hid hxs
      clear hx hxs hxx hkp
      have HEI := Lib.hid hei
      have hwd := hei.wd.cell
      obtain ⟨hw1, hw2⟩ := hwd
      have hwsz : w.heap.size ≤ wo.heap.size := hei.below.size
      have hk1 : (k : Int) < (N : Int) := by omega
      have hk2 : (0 : Int) ≤ (k : Int) := by omega
      clear hei
      rcases (show k = 0 ∨ 0 < k by omega) with hk0 | hk0
      · have hkz : (k : Int) ≤ 0 := by omega
        obtain ⟨o3, ho3⟩ : ∃ o3 : List UInt8, o3 = [] := ⟨_, rfl⟩
        have HO : Hid (o3 = (if k = 0 then [] else encK (lns s.data.toList) k ++ [13, 10])) := by unfold Hid; rw [if_pos hk0, ho3]
        have hol0 : o3.length ≤ 6 * s.size + 2 := by simp [ho3]
        have HEI3 : Hid (EI w wo N (pieces s) o3 n) := by have h := HEI.out; rw [hk0] at h; rw [ho3]; exact h
        clear hk0 HEI ho3
        go_wp2
        generalize decide (0 < k) = dk
        have hx2 : x.size ≤ 1000000 := by omega
        have HI0 : Hid (EI w (wo.setCell ⟨w.heap.size + 1, 0, none⟩ (.int .i64 0)) N (pieces s) (o3 ++ (lineSt x.data.toList 0).1) (lineSt x.data.toList 0).2) := by
          have h := HEI3.out.put (HEI3.out.bb.set (m := 0) HEI3.out.wd (by omega)) (HEI3.out.wd.set 0) ((Chg.refl w.heap.size _ _).setCell (p := ⟨w.heap.size + 1, 0, none⟩) (by simp) (.inr rfl) _)
          unfold Hid
          simpa [lineSt] using h
        clear hw1 hw2 HEI3
        have hwsz : 0 = 0 := rfl
        clear hwsz
        go_loopw [23] (fun i wr => ∃ j : Nat, j ≤ x.size ∧ i = .int .i64 j ∧ EI w wr N (pieces s) (o3 ++ (lineSt x.data.toList j).1) (lineSt x.data.toList j).2) (fun i _ => x.size - (intOf i).toNat)
        case atStart => exact ⟨0, Nat.zero_le _, rfl, HI0.out⟩
        case round =>
          clear HI0
          obtain ⟨j, hj, rfl, hei⟩ := hrel
          by_cases hjl : j < x.size
          · have hjx : j < x.data.toList.length := by have := HXS.out; omega
            have hg : x.data.toList.getD j 0 = x[j] := by
              rw [List.getD_eq_getElem?_getD, List.getElem?_eq_getElem hjx]; rfl
            have hlb : (((j : Int) == (x.size : Int) - 1)) = decide (j + 1 = x.data.toList.length) := by
              have := HXS.out
              rw [Bool.eq_iff_iff]; simp; omega
            have hst : lineSt x.data.toList (j + 1) = putS (lineSt x.data.toList j) (signL x[j] (decide (j + 1 = x.data.toList.length))) := by rw [lineSt, hg]
            generalize decide (j + 1 = x.data.toList.length) = lb at hlb hst
            have hsl := signL_len x[j] lb
            have hlw := lineSt_w x.data.toList j
            have hll := lineSt_len x.data.toList j
            have HST := Lib.hid hst
            have HEI4 := Lib.hid hei
            have hwsz := hei.below.size
            have c1 := sign_any x[j] lb wr
            have hj1 : (0 : Int) ≤ (j : Int) := by omega
            clear hg hst hei
            go_wp2_with fail
            refine c1.mono ?_
            rintro e w5 ⟨rfl, hb5⟩
            have c2 := put_any w.heap.size w.heap.size (w.heap.size + 1) (lineSt x.data.toList j).2 (o3 ++ (lineSt x.data.toList j).1) ⟨(signL x[j] lb).toArray⟩ w5
              (HEI4.out.put (o' := o3 ++ (lineSt x.data.toList j).1) (n' := (lineSt x.data.toList j).2) (bb_below HEI4.out.bb hb5) (HEI4.out.wd.chg (Chg.of_below hb5 (Nat.le_refl _) (fun _ => False)) id) (Chg.of_below hb5 hwsz _)).bb
              (HEI4.out.wd.chg (Chg.of_below hb5 (Nat.le_refl _) (fun _ => False)) id) (by omega) (by rw [lsize]; omega) (by simp; omega) (by have := hb5.size; omega) (by omega) (by omega)
            clear c1
            go_wp2_with fail
            refine c2.mono ?_
            rintro e w6 ⟨rfl, hb6, hi6, hc6⟩
            have HF : Hid (EI w w6 N (pieces s) (o3 ++ (lineSt x.data.toList (j + 1)).1) (lineSt x.data.toList (j + 1)).2) := by
              have hc5 : Chg w.heap.size (fun k => k = w.heap.size ∨ k = w.heap.size + 1) wr w6 := (Chg.of_below hb5 hwsz _).trans hc6
              have h := HEI4.out.put hb6 hi6 hc5
              rw [HST.out]
              unfold putO putW at h
              unfold Hid putS
              by_cases h75 : 75 < (lineSt x.data.toList j).2 + (signL x[j] lb).length
              · simpa [h75] using h
              · simpa [h75] using h
            clear hb6 hi6 hc6 hb5 c2 HEI4 hsl hlw hll hlb HST hwsz
            go_wp2
            go_roundw
            case rel => exact ⟨j + 1, by omega, by go_num, HF.out⟩
            case measure => simp [intOf]; omega
          · obtain rfl : j = x.size := by omega
            have HF : Hid (EI w wr N (pieces s) (encK (lns s.data.toList) (k + 1)) (lineSt x.data.toList x.size).2) := by
              unfold Hid
              rw [HK.out _ HO.out]
              exact hei
            clear hei
            go_wp2
            go_roundw
            case rel => exact ⟨k + 1, _, by omega, by go_num, HF.out⟩
            case measure => simp [intOf]; omega
      · have HO : Hid (encK (lns s.data.toList) k ++ [13, 10] = (if k = 0 then [] else encK (lns s.data.toList) k ++ [13, 10])) := by unfold Hid; rw [if_neg (by omega)]
        have hol0 : (encK (lns s.data.toList) k ++ [13, 10]).length ≤ 6 * s.size + 2 := by simp; omega
        have hkz : (0 : Int) < (k : Int) := by omega
        have c1 := wstr w.heap.size w.heap.size (encK (lns s.data.toList) k) ⟨#[13, 10]⟩ wo HEI.out.bb (by show _ + 2 ≤ _; omega) hwsz
        clear hk0
        go_wp2_with fail
        refine c1.mono ?_
        rintro e w3 ⟨rfl, hb3, hlo3, hok3⟩
        have hc3 := (Chg.of_others hlo3 hok3).mono (Nat.le_refl _) (S' := fun k => k = w.heap.size ∨ k = w.heap.size + 1) (fun k h => .inl h)
        have HEI3 : Hid (EI w w3 N (pieces s) (encK (lns s.data.toList) k ++ [13, 10]) n) := HEI.out.put hb3 (HEI.out.wd.chg (Chg.of_others hlo3 hok3) (by omega)) hc3
        have hwd3 := HEI3.out.wd.cell
        obtain ⟨hw1, hw2⟩ := hwd3
        have hwsz := HEI3.out.below.size
        clear hcell hb3 hlo3 hok3 hc3 c1 HEI
        obtain ⟨o3, ho3⟩ : ∃ o3 : List UInt8, o3 = encK (lns s.data.toList) k ++ [13, 10] := ⟨_, rfl⟩
        rw [← ho3] at HEI3 hol0
        replace HO : Hid (o3 = (if k = 0 then [] else encK (lns s.data.toList) k ++ [13, 10])) := by unfold Hid; rw [ho3]; exact HO.out
        clear ho3
        go_wp2
        have hx2 : x.size ≤ 1000000 := by omega
        have HI0 : Hid (EI w (w3.setCell ⟨w.heap.size + 1, 0, none⟩ (.int .i64 0)) N (pieces s) (o3 ++ (lineSt x.data.toList 0).1) (lineSt x.data.toList 0).2) := by
          have h := HEI3.out.put (HEI3.out.bb.set (m := 0) HEI3.out.wd (by omega)) (HEI3.out.wd.set 0) ((Chg.refl w.heap.size _ _).setCell (p := ⟨w.heap.size + 1, 0, none⟩) (by simp) (.inr rfl) _)
          unfold Hid
          simpa [lineSt] using h
        clear hw1 hw2 HEI3
        have hwsz : 0 = 0 := rfl
        clear hwsz
        go_loopw [23] (fun i wr => ∃ j : Nat, j ≤ x.size ∧ i = .int .i64 j ∧ EI w wr N (pieces s) (o3 ++ (lineSt x.data.toList j).1) (lineSt x.data.toList j).2) (fun i _ => x.size - (intOf i).toNat)
        case atStart => exact ⟨0, Nat.zero_le _, rfl, HI0.out⟩
        case round =>
          clear HI0
          obtain ⟨j, hj, rfl, hei⟩ := hrel
          by_cases hjl : j < x.size
          · have hjx : j < x.data.toList.length := by have := HXS.out; omega
            have hg : x.data.toList.getD j 0 = x[j] := by
              rw [List.getD_eq_getElem?_getD, List.getElem?_eq_getElem hjx]; rfl
            have hlb : (((j : Int) == (x.size : Int) - 1)) = decide (j + 1 = x.data.toList.length) := by
              have := HXS.out
              rw [Bool.eq_iff_iff]; simp; omega
            have hst : lineSt x.data.toList (j + 1) = putS (lineSt x.data.toList j) (signL x[j] (decide (j + 1 = x.data.toList.length))) := by rw [lineSt, hg]
            generalize decide (j + 1 = x.data.toList.length) = lb at hlb hst
            have hsl := signL_len x[j] lb
            have hlw := lineSt_w x.data.toList j
            have hll := lineSt_len x.data.toList j
            have HST := Lib.hid hst
            have HEI4 := Lib.hid hei
            have hwsz := hei.below.size
            have c1 := sign_any x[j] lb wr
            have hj1 : (0 : Int) ≤ (j : Int) := by omega
            clear hg hst hei
            go_wp2_with fail
            refine c1.mono ?_
            rintro e w5 ⟨rfl, hb5⟩
            have c2 := put_any w.heap.size w.heap.size (w.heap.size + 1) (lineSt x.data.toList j).2 (o3 ++ (lineSt x.data.toList j).1) ⟨(signL x[j] lb).toArray⟩ w5
              (HEI4.out.put (o' := o3 ++ (lineSt x.data.toList j).1) (n' := (lineSt x.data.toList j).2) (bb_below HEI4.out.bb hb5) (HEI4.out.wd.chg (Chg.of_below hb5 (Nat.le_refl _) (fun _ => False)) id) (Chg.of_below hb5 hwsz _)).bb
              (HEI4.out.wd.chg (Chg.of_below hb5 (Nat.le_refl _) (fun _ => False)) id) (by omega) (by rw [lsize]; omega) (by simp; omega) (by have := hb5.size; omega) (by omega) (by omega)
            clear c1
            go_wp2_with fail
            refine c2.mono ?_
            rintro e w6 ⟨rfl, hb6, hi6, hc6⟩
            have HF : Hid (EI w w6 N (pieces s) (o3 ++ (lineSt x.data.toList (j + 1)).1) (lineSt x.data.toList (j + 1)).2) := by
              have hc5 : Chg w.heap.size (fun k => k = w.heap.size ∨ k = w.heap.size + 1) wr w6 := (Chg.of_below hb5 hwsz _).trans hc6
              have h := HEI4.out.put hb6 hi6 hc5
              rw [HST.out]
              unfold putO putW at h
              unfold Hid putS
              by_cases h75 : 75 < (lineSt x.data.toList j).2 + (signL x[j] lb).length
              · simpa [h75] using h
              · simpa [h75] using h
            clear hb6 hi6 hc6 hb5 c2 HEI4 hsl hlw hll hlb HST hwsz
            go_wp2
            go_roundw
            case rel => exact ⟨j + 1, by omega, by go_num, HF.out⟩
            case measure => simp [intOf]; omega
          · obtain rfl : j = x.size := by omega
            have HF : Hid (EI w wr N (pieces s) (encK (lns s.data.toList) (k + 1)) (lineSt x.data.toList x.size).2) := by
              unfold Hid
              rw [HK.out _ HO.out]
              exact hei
            clear hei
            go_wp2
            go_roundw
            case rel => exact ⟨k + 1, _, by omega, by go_num, HF.out⟩
            case measure => simp [intOf]; omega
    · obtain rfl : k = N := by omega
      have c1 := bstr w.heap.size w.heap.size _ wo hei.bb hei.below.size
      have HB := Lib.hid hei.below
      have HE : Hid (encK (lns s.data.toList) k = enc s.data.toList) := by unfold Hid enc; rw [HNN.out, HS.out.2.2.2]
      rw [HE.out] at c1
      clear hei HE
      go_wp2_with fail
      refine c1.mono ?_
      rintro e w2 ⟨rfl, -, hb2, -⟩
      have hb := HB.out.trans hb2
      clear c1
      go_wp2
      go_ret
      exact ⟨rfl, hb⟩
end Go.Proofs.YtjkonhpmfolcoaaDoor
