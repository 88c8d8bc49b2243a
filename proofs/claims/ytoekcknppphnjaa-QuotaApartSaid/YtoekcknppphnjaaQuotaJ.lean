/- Package quota's law folder: QuotaApart's walk. -/
import Derived.Test.YtoekcknppphnjaaQuotaI
namespace Go.Proofs.Ytoekcknppphnjaa
open Go.RowKit
/-- Two books that say the same of level i. -/
structure Alike2 (i : Nat) (a b : Book) : Prop where
  la : i < a.L
  lb : i < b.L
  t : nth a.T i = nth b.T i
  b : nth a.B i = nth b.B i
theorem Alike2.take {i : Nat} {a b : Book} (h : Alike2 i a b) (n : Int) : takeC a i n = takeC b i n := by rw [takeC_eq h.la, takeC_eq h.lb, h.t, h.b]
theorem Alike2.give {i : Nat} {a b : Book} (h : Alike2 i a b) (n : Int) : giveC a i n = giveC b i n := by rw [giveC_eq h.la, giveC_eq h.lb, h.t]
theorem Alike2.takeB {i : Nat} {a b : Book} (h : Alike2 i a b) (ha : a.Ok) (hb : b.Ok) (n : Int) : Alike2 i (takeB a i n) (takeB b i n) := by
  refine ⟨by rw [take_same.1]; exact h.la, by rw [take_same.1]; exact h.lb, ?_, by rw [take_same.2, take_same.2]; exact h.b⟩
  by_cases hz : takeC a i n = 0
  · rw [takeB_nth ha h.la hz, takeB_nth hb h.lb (by rw [← h.take]; exact hz), if_pos rfl, if_pos rfl, h.t]
  · rw [take_not hz, take_not (by rw [← h.take]; exact hz), h.t]
theorem Alike2.giveB {i : Nat} {a b : Book} (h : Alike2 i a b) (ha : a.Ok) (hb : b.Ok) (n : Int) : Alike2 i (giveB a i n) (giveB b i n) := by
  refine ⟨by rw [give_same.1]; exact h.la, by rw [give_same.1]; exact h.lb, ?_, by rw [give_same.2, give_same.2]; exact h.b⟩
  by_cases hz : giveC a i n = 0
  · rw [giveB_nth ha h.la hz, giveB_nth hb h.lb (by rw [← h.give]; exact hz), if_pos rfl, if_pos rfl, h.t]
  · rw [give_not hz, give_not (by rw [← h.give]; exact hz), h.t]
theorem pwdrewN {B : Nat} {w W : World} (h : Below B w W) (n : Nat) : Below B w (W.drewN n) := ⟨h.os, h.tape, h.output, h.size, h.block⟩
theorem set_other {a : Book} (ha : a.Ok) {i : Nat} {lv v : Int} (hne : lv ≠ i) (h0 : 0 ≤ lv ∧ lv < a.L) : nth (a.set lv.toNat v).T i = nth a.T i := by
  have := ha.lt; have := ha.le
  simp only [Book.set]; rw [nth_set _ _ _ _ (by omega), if_neg (by omega)]
theorem Alike2.takeO {i : Nat} {a b : Book} (h : Alike2 i a b) (ha : a.Ok) {lv : Int} (hne : lv ≠ i) (n : Int) : Alike2 i (Go.Proofs.Ytoekcknppphnjaa.takeB a lv n) b := by
  refine ⟨by rw [take_same.1]; exact h.la, h.lb, ?_, by rw [take_same.2]; exact h.b⟩
  by_cases hz : takeC a lv n = 0
  · have hl : 0 ≤ lv ∧ lv < a.L := by
      false_or_by_contra
      rename_i hc
      simp [takeC, hc] at hz
    unfold Go.Proofs.Ytoekcknppphnjaa.takeB; rw [if_pos hz, set_other ha hne hl]; exact h.t
  · rw [take_not hz]; exact h.t
theorem Alike2.giveO {i : Nat} {a b : Book} (h : Alike2 i a b) (ha : a.Ok) {lv : Int} (hne : lv ≠ i) (n : Int) : Alike2 i (Go.Proofs.Ytoekcknppphnjaa.giveB a lv n) b := by
  refine ⟨by rw [give_same.1]; exact h.la, h.lb, ?_, by rw [give_same.2]; exact h.b⟩
  by_cases hz : giveC a lv n = 0
  · have hl : 0 ≤ lv ∧ lv < a.L := by
      false_or_by_contra
      rename_i hc
      simp [giveC, hc] at hz
    unfold Go.Proofs.Ytoekcknppphnjaa.giveB; rw [if_pos hz, set_other ha hne hl]; exact h.t
  · rw [give_not hz]; exact h.t
set_option maxRecDepth 100000 in
set_option maxHeartbeats 8000000 in
theorem apart_law (b0 o0 l0 c0 : Nat) (xs : List Int) (A1 : Option Addr) (l1 c1 : Nat) (ys : List Act) (i : Nat) (w : World) (hx : xs.length = l0) (hc0 : ∀ j, j < l0 → w.cell? ⟨b0, o0 + j, none⟩ = some (.int .i64 (nth xs j))) (h1 : ActsAt w A1 l1 ys)
    (hl0' : l0 ≤ 16) (hl1 : l1 ≤ 300) (hi : i < l0) (hok : newOk xs = true) :
    Calls Try.prog 4 #[.slice (some ⟨b0, o0, none⟩) l0 c0, .slice A1 l1 c1, .int .i64 i] w fun e w' => e = .returned (.bool true) ∧ Below w.heap.size w w' := by
  have haw := awake_any w
  have hb0 : b0 < w.heap.size := World.block_lt_of_cell? _ _ (hc0 0 (by omega))
  have H1 := Lib.hid h1
  have HK := Lib.hid hok
  have HX := Lib.hid hx
  clear h1 hok hx
  go_enter Try.func4, Try.ntmps4
  go_wp2_with (first | (go_at_call 7; refine haw.mono ?_; rintro e w1 ⟨rfl, hb1⟩))
  refine (new_some b0 o0 l0 c0 w1 xs HX.out (by omega) hl0' (fun j hj => (hb1.cell hb0).trans (hc0 j hj))).mono ?_
  rintro e w2 ⟨hb2, ⟨_, rfl, hB⟩ | ⟨hf, _⟩⟩
  case inr => rw [HK.out] at hf; cases hf
  have hbel : Below w.heap.size w w2 := hb1.trans (hb2.mono hb1.size)
  have hg : w.heap.size ≤ w1.heap.size := hb1.size
  have hlt := hB.lt
  go_wp2_with fail
  refine (new_some b0 o0 l0 c0 w2 xs HX.out (by omega) hl0' (fun j hj => (hbel.cell hb0).trans (hc0 j hj))).mono ?_
  rintro e w3 ⟨hb3, ⟨_, rfl, hC⟩ | ⟨hf, _⟩⟩
  case inr => rw [HK.out] at hf; cases hf
  have hB' := hB.keep hb3
  have hbel3 : Below w.heap.size w w3 := hbel.trans (hb3.mono hbel.size)
  have hg2 : w.heap.size ≤ w2.heap.size := hbel.size
  have hne : w1.heap.size ≠ w2.heap.size := by omega
  have HA : Hid (Alike2 i (newBook xs) (newBook xs) ∧ nth (newBook xs).B i = nth xs i) := ⟨⟨by show i < xs.length; rw [HX.out]; exact hi, by show i < xs.length; rw [HX.out]; exact hi, rfl, rfl⟩, newBook_nth xs (by rw [HX.out]; exact hl0') i⟩
  have HN := Lib.hid hne
  generalize newBook xs = k0 at *
  generalize w1.heap.size = g at *
  generalize w2.heap.size = g' at *
  clear hb1 hb2 hb3 haw hbel hB hlt hne
  go_wp2
  go_loopw [11] (fun t wr => ∃ (j : Nat) (ka kb : Book), j ≤ l1 ∧ t = .int .i64 j ∧ Below w.heap.size w wr ∧ Bk wr g ka ∧ Bk wr g' kb ∧ Alike2 i ka kb ∧ nth ka.B i = nth xs i) (fun t _ => l1 - (intOf t).toNat)
  case atStart => exact ⟨0, k0, k0, Nat.zero_le _, rfl, hbel3, hB', hC, HA.out.1, HA.out.2⟩
  case round =>
    clear hbel3 hB' hC HA
    obtain ⟨j, ka, kb, hj, rfl, hbl, hA, hB, hal, hxs⟩ := hrel
    have HAL := Lib.hid hal
    have HXS := Lib.hid hxs
    clear hal hxs
    by_cases hlt : j < l1
    · obtain ⟨b1, o1, rfl, hc1⟩ := H1.out.cells (by omega)
      obtain ⟨q1, q2, q3⟩ := act_cells hbl (hc1 j hlt) hlt
      have hcx := (hbl.cell (p := ⟨b0, o0 + i, none⟩) hb0).trans (hc0 i hi)
      have hb0' := Nat.lt_of_lt_of_le hb0 hbl.size
      have hb1' : b1 < wr.heap.size := World.block_lt_of_cell? _ _ q1
      have hj1 : (0 : Int) ≤ (j : Int) := by omega
      have hj2 : (j : Int) < (l1 : Int) := by omega
      have hi1 : (0 : Int) ≤ (i : Int) := by omega
      have hi2 : (i : Int) < (l0 : Int) := by omega
      have hn1 : ¬ b0 = g := by have := hg; omega
      have hn2 : ¬ b0 = g' := by have := hg2; omega
      have hlt1 : b1 < w.heap.size := World.block_lt_of_cell? _ _ (hc1 j hlt).2.1
      have r1 := (hc1 j hlt).2.1
      have r2 := (hc1 j hlt).2.2.1
      have r3 := (hc1 j hlt).2.2.2
      clear hc1
      generalize act ys j = ac at *
      obtain ⟨kd, lv, m⟩ := ac
      simp only at q1 q2 q3 r1 r2 r3
      have HQ1 := Lib.hid r1
      have HQ2 := Lib.hid r2
      have HQ3 := Lib.hid r3
      clear r1 r2 r3
      by_cases hk : kd = 0
      · subst hk
        by_cases hlv : lv = (i : Int)
        · subst hlv
          have hcd := HAL.out.take m
          have c1 := take_any g ka i m wr.drew hA.drew
          have C2 : Hid (∀ w3, Bk w3 g' kb → Calls Try.prog 10 #[.pointer (some ⟨g', 0, none⟩), .int .i64 i, .int .i64 m] w3 fun e w' => e = .returned (.int .i64 (takeC ka i m)) ∧ Eff (· = g') w3 w' ∧ Bk w' g' (takeB kb i m)) := fun w3 h3 => by
            rw [hcd]; exact take_any g' kb i m w3 h3
          have HS : Hid (∀ w3, Eff (· = g) wr.drew w3 → Below w.heap.size w w3 ∧ Bk w3 g' kb) := fun w3 hE => ⟨Eff.below (S := (· = g)) hbl.drew hE hbl.size fun x hx => by subst hx; exact hg, hB.drew.eff hE (fun e => HN.out e.symm)⟩
          have HA2 : Hid (Alike2 i (takeB ka i m) (takeB kb i m) ∧ nth (takeB ka i m).B i = nth xs i) := ⟨HAL.out.takeB hA.ok hB.ok m, by rw [take_same.2]; exact HXS.out⟩
          clear hcd hA hB hbl
          generalize takeC ka i m = cd at *
          generalize takeB ka i m = ka' at *
          generalize takeB kb i m = kb' at *
          go_wp2
          go_still_tail 11, (by kernel_rfl)
          change wpList _ _ _ _ _ wr.drew
          go_wp2_with (go_at_call 10; (with_reducible refine c1.mono ?_); rintro e w3 ⟨rfl, hE3, hA3⟩; have hS3 := HS.out _ hE3; have p1 := (hS3.1.cell (p := ⟨b1, o1 + j * 3, none⟩) hlt1).trans HQ1.out; have p2 := (hS3.1.cell (p := ⟨b1, o1 + j * 3 + 1, none⟩) hlt1).trans HQ2.out; have p3 := (hS3.1.cell (p := ⟨b1, o1 + j * 3 + 2, none⟩) hlt1).trans HQ3.out)
          refine (C2.out _ hS3.2).mono ?_
          rintro e w4 ⟨rfl, hE4, hB'⟩
          have hA' : Bk w4 g ka' := hA3.eff hE4 HN.out
          have HR : Hid (Below w.heap.size w w4 ∧ Alike2 i ka' kb' ∧ nth ka'.B i = nth xs i) := ⟨Eff.below (S := (· = g')) hS3.1 hE4 hS3.1.size fun x hx => by subst hx; exact hg2, HA2.out.1, HA2.out.2⟩
          have p1' := (HR.out.1.cell (p := ⟨b1, o1 + j * 3, none⟩) hlt1).trans HQ1.out
          clear hE4 hA3 C2 HS c1 p1 p2 p3 hS3 hE3
          go_wp2
          have hin : i < ka'.L := HR.out.2.1.la
          have hin' : i < kb'.L := HR.out.2.1.lb
          have ca := fun m => taken_in g ka' i _ (hA'.drewN m) hin
          have cb := fun m => taken_in g' kb' i _ (hB'.drewN m) hin'
          obtain ⟨i1, i2, i3⟩ := hA'.ok.inv i
          have i4 : nth ka'.T i ≤ nth xs i := by rw [← HR.out.2.2]; exact i2
          rw [← HR.out.2.1.t] at cb
          have hcx' := (HR.out.1.cell (p := ⟨b0, o0 + i, none⟩) hb0).trans (hc0 i hi)
          have q2' := (HR.out.1.cell (p := ⟨b1, o1 + j * 3 + 1, none⟩) hlt1).trans HQ2.out
          have HW : Hid (∀ m, Below w.heap.size w (w4.drewN m) ∧ Bk (w4.drewN m) g ka' ∧ Bk (w4.drewN m) g' kb') := fun m => ⟨pwdrewN HR.out.1 m, hA'.drewN m, hB'.drewN m⟩
          clear hin hin' hA' hB' i2 i3
          generalize nth ka'.T i = ta at *
          go_quiet ((first | (go_at_call 15; with_reducible exact quietly (ca _)) | (go_at_call 15; with_reducible exact quietly (cb _))))
          go_wp2
          go_roundw
          case rel => exact ⟨j + 1, ka', kb', by omega, by go_num, (HW.out _).1, (HW.out _).2.1, (HW.out _).2.2, HR.out.2.1, HR.out.2.2⟩
          case measure => simp [intOf]; omega
        · have c1 := take_any g ka lv m wr.drew hA.drew
          have HS : Hid (∀ w3, Eff (· = g) wr.drew w3 → Below w.heap.size w w3 ∧ Bk w3 g' kb) := fun w3 hE => ⟨Eff.below (S := (· = g)) hbl.drew hE hbl.size fun x hx => by subst hx; exact hg, hB.drew.eff hE (fun e => HN.out e.symm)⟩
          have HA2 : Hid (Alike2 i (takeB ka lv m) kb ∧ nth (takeB ka lv m).B i = nth xs i) := ⟨HAL.out.takeO hA.ok hlv m, by rw [take_same.2]; exact HXS.out⟩
          have hll : (lv == (i : Int)) = false := by simp [hlv]
          clear hlv hA hB hbl
          generalize takeC ka lv m = cd at *
          generalize takeB ka lv m = ka' at *
          go_wp2
          go_still_tail 11, (by kernel_rfl)
          change wpList _ _ _ _ _ wr.drew
          go_wp2_with (go_at_call 10; (with_reducible refine c1.mono ?_); rintro e w3 ⟨rfl, hE3, hA'⟩; have hS3 := HS.out _ hE3; have p1 := (hS3.1.cell (p := ⟨b1, o1 + j * 3, none⟩) hlt1).trans HQ1.out; have p2 := (hS3.1.cell (p := ⟨b1, o1 + j * 3 + 1, none⟩) hlt1).trans HQ2.out)
          have hB' := hS3.2
          have HR : Hid (Below w.heap.size w w3 ∧ Alike2 i ka' kb ∧ nth ka'.B i = nth xs i) := ⟨hS3.1, HA2.out.1, HA2.out.2⟩
          clear HS c1 p1 p2 hS3 hE3
          have hin : i < ka'.L := HR.out.2.1.la
          have hin' : i < kb.L := HR.out.2.1.lb
          have ca := fun m => taken_in g ka' i _ (hA'.drewN m) hin
          have cb := fun m => taken_in g' kb i _ (hB'.drewN m) hin'
          obtain ⟨i1, i2, i3⟩ := hA'.ok.inv i
          have i4 : nth ka'.T i ≤ nth xs i := by rw [← HR.out.2.2]; exact i2
          rw [← HR.out.2.1.t] at cb
          have hcx' := (HR.out.1.cell (p := ⟨b0, o0 + i, none⟩) hb0).trans (hc0 i hi)
          have q2' := (HR.out.1.cell (p := ⟨b1, o1 + j * 3 + 1, none⟩) hlt1).trans HQ2.out
          have HW : Hid (∀ m, Below w.heap.size w (w3.drewN m) ∧ Bk (w3.drewN m) g ka' ∧ Bk (w3.drewN m) g' kb) := fun m => ⟨pwdrewN HR.out.1 m, hA'.drewN m, hB'.drewN m⟩
          clear hin hin' hA' hB' i2 i3
          generalize nth ka'.T i = ta at *
          go_quiet ((first | (go_at_call 15; with_reducible exact quietly (ca _)) | (go_at_call 15; with_reducible exact quietly (cb _))))
          go_wp2
          go_roundw
          case rel => exact ⟨j + 1, ka', kb, by omega, by go_num, (HW.out _).1, (HW.out _).2.1, (HW.out _).2.2, HR.out.2.1, HR.out.2.2⟩
          case measure => simp [intOf]; omega
      · by_cases hk1 : kd = 1
        · subst hk1
          clear hk
          by_cases hlv : lv = (i : Int)
          · subst hlv
            have hcd := HAL.out.give m
            have c1 := give_any g ka i m wr.drew hA.drew
            have C2 : Hid (∀ w3, Bk w3 g' kb → Calls Try.prog 12 #[.pointer (some ⟨g', 0, none⟩), .int .i64 i, .int .i64 m] w3 fun e w' => e = .returned (.int .i64 (giveC ka i m)) ∧ Eff (· = g') w3 w' ∧ Bk w' g' (giveB kb i m)) := fun w3 h3 => by
              rw [hcd]; exact give_any g' kb i m w3 h3
            have HS : Hid (∀ w3, Eff (· = g) wr.drew w3 → Below w.heap.size w w3 ∧ Bk w3 g' kb) := fun w3 hE => ⟨Eff.below (S := (· = g)) hbl.drew hE hbl.size fun x hx => by subst hx; exact hg, hB.drew.eff hE (fun e => HN.out e.symm)⟩
            have HA2 : Hid (Alike2 i (giveB ka i m) (giveB kb i m) ∧ nth (giveB ka i m).B i = nth xs i) := ⟨HAL.out.giveB hA.ok hB.ok m, by rw [give_same.2]; exact HXS.out⟩
            clear hcd hA hB hbl
            generalize giveC ka i m = cd at *
            generalize giveB ka i m = ka' at *
            generalize giveB kb i m = kb' at *
            go_wp2
            go_still_tail 11, (by kernel_rfl)
            change wpList _ _ _ _ _ wr.drew
            go_wp2_with (go_at_call 12; (with_reducible refine c1.mono ?_); rintro e w3 ⟨rfl, hE3, hA3⟩; have hS3 := HS.out _ hE3; have p1 := (hS3.1.cell (p := ⟨b1, o1 + j * 3, none⟩) hlt1).trans HQ1.out; have p2 := (hS3.1.cell (p := ⟨b1, o1 + j * 3 + 1, none⟩) hlt1).trans HQ2.out; have p3 := (hS3.1.cell (p := ⟨b1, o1 + j * 3 + 2, none⟩) hlt1).trans HQ3.out)
            refine (C2.out _ hS3.2).mono ?_
            rintro e w4 ⟨rfl, hE4, hB'⟩
            have hA' : Bk w4 g ka' := hA3.eff hE4 HN.out
            have HR : Hid (Below w.heap.size w w4 ∧ Alike2 i ka' kb' ∧ nth ka'.B i = nth xs i) := ⟨Eff.below (S := (· = g')) hS3.1 hE4 hS3.1.size fun x hx => by subst hx; exact hg2, HA2.out.1, HA2.out.2⟩
            have p1' := (HR.out.1.cell (p := ⟨b1, o1 + j * 3, none⟩) hlt1).trans HQ1.out
            clear hE4 hA3 C2 HS c1 p1 p2 p3 hS3 hE3
            go_wp2
            have hin : i < ka'.L := HR.out.2.1.la
            have hin' : i < kb'.L := HR.out.2.1.lb
            have ca := fun m => taken_in g ka' i _ (hA'.drewN m) hin
            have cb := fun m => taken_in g' kb' i _ (hB'.drewN m) hin'
            obtain ⟨i1, i2, i3⟩ := hA'.ok.inv i
            have i4 : nth ka'.T i ≤ nth xs i := by rw [← HR.out.2.2]; exact i2
            rw [← HR.out.2.1.t] at cb
            have hcx' := (HR.out.1.cell (p := ⟨b0, o0 + i, none⟩) hb0).trans (hc0 i hi)
            have q2' := (HR.out.1.cell (p := ⟨b1, o1 + j * 3 + 1, none⟩) hlt1).trans HQ2.out
            have HW : Hid (∀ m, Below w.heap.size w (w4.drewN m) ∧ Bk (w4.drewN m) g ka' ∧ Bk (w4.drewN m) g' kb') := fun m => ⟨pwdrewN HR.out.1 m, hA'.drewN m, hB'.drewN m⟩
            clear hin hin' hA' hB' i2 i3
            generalize nth ka'.T i = ta at *
            go_quiet ((first | (go_at_call 15; with_reducible exact quietly (ca _)) | (go_at_call 15; with_reducible exact quietly (cb _))))
            go_wp2
            go_roundw
            case rel => exact ⟨j + 1, ka', kb', by omega, by go_num, (HW.out _).1, (HW.out _).2.1, (HW.out _).2.2, HR.out.2.1, HR.out.2.2⟩
            case measure => simp [intOf]; omega
          · have c1 := give_any g ka lv m wr.drew hA.drew
            have HS : Hid (∀ w3, Eff (· = g) wr.drew w3 → Below w.heap.size w w3 ∧ Bk w3 g' kb) := fun w3 hE => ⟨Eff.below (S := (· = g)) hbl.drew hE hbl.size fun x hx => by subst hx; exact hg, hB.drew.eff hE (fun e => HN.out e.symm)⟩
            have HA2 : Hid (Alike2 i (giveB ka lv m) kb ∧ nth (giveB ka lv m).B i = nth xs i) := ⟨HAL.out.giveO hA.ok hlv m, by rw [give_same.2]; exact HXS.out⟩
            have hll : (lv == (i : Int)) = false := by simp [hlv]
            clear hlv hA hB hbl
            generalize giveC ka lv m = cd at *
            generalize giveB ka lv m = ka' at *
            go_wp2
            go_still_tail 11, (by kernel_rfl)
            change wpList _ _ _ _ _ wr.drew
            go_wp2_with (go_at_call 12; (with_reducible refine c1.mono ?_); rintro e w3 ⟨rfl, hE3, hA'⟩; have hS3 := HS.out _ hE3; have p1 := (hS3.1.cell (p := ⟨b1, o1 + j * 3, none⟩) hlt1).trans HQ1.out; have p2 := (hS3.1.cell (p := ⟨b1, o1 + j * 3 + 1, none⟩) hlt1).trans HQ2.out)
            have hB' := hS3.2
            have HR : Hid (Below w.heap.size w w3 ∧ Alike2 i ka' kb ∧ nth ka'.B i = nth xs i) := ⟨hS3.1, HA2.out.1, HA2.out.2⟩
            clear HS c1 p1 p2 hS3 hE3
            have hin : i < ka'.L := HR.out.2.1.la
            have hin' : i < kb.L := HR.out.2.1.lb
            have ca := fun m => taken_in g ka' i _ (hA'.drewN m) hin
            have cb := fun m => taken_in g' kb i _ (hB'.drewN m) hin'
            obtain ⟨i1, i2, i3⟩ := hA'.ok.inv i
            have i4 : nth ka'.T i ≤ nth xs i := by rw [← HR.out.2.2]; exact i2
            rw [← HR.out.2.1.t] at cb
            have hcx' := (HR.out.1.cell (p := ⟨b0, o0 + i, none⟩) hb0).trans (hc0 i hi)
            have q2' := (HR.out.1.cell (p := ⟨b1, o1 + j * 3 + 1, none⟩) hlt1).trans HQ2.out
            have HW : Hid (∀ m, Below w.heap.size w (w3.drewN m) ∧ Bk (w3.drewN m) g ka' ∧ Bk (w3.drewN m) g' kb) := fun m => ⟨pwdrewN HR.out.1 m, hA'.drewN m, hB'.drewN m⟩
            clear hin hin' hA' hB' i2 i3
            generalize nth ka'.T i = ta at *
            go_quiet ((first | (go_at_call 15; with_reducible exact quietly (ca _)) | (go_at_call 15; with_reducible exact quietly (cb _))))
            go_wp2
            go_roundw
            case rel => exact ⟨j + 1, ka', kb, by omega, by go_num, (HW.out _).1, (HW.out _).2.1, (HW.out _).2.2, HR.out.2.1, HR.out.2.2⟩
            case measure => simp [intOf]; omega
        · have hkk : (kd == 0) = false := by simp [hk]
          have hkk1 : (kd == 1) = false := by simp [hk1]
          clear hk hk1
          by_cases hlv : lv = (i : Int)
          · subst hlv
            have hA' := hA
            have hB' := hB
            have HR : Hid (Below w.heap.size w wr ∧ Alike2 i ka kb ∧ nth ka.B i = nth xs i) := ⟨hbl, HAL.out, HXS.out⟩
            clear hA hB hbl
            go_wp2
            have hin : i < ka.L := HR.out.2.1.la
            have hin' : i < kb.L := HR.out.2.1.lb
            have ca := fun m => taken_in g ka i _ (hA'.drewN m) hin
            have cb := fun m => taken_in g' kb i _ (hB'.drewN m) hin'
            obtain ⟨i1, i2, i3⟩ := hA'.ok.inv i
            have i4 : nth ka.T i ≤ nth xs i := by rw [← HR.out.2.2]; exact i2
            rw [← HR.out.2.1.t] at cb
            have hcx' := (HR.out.1.cell (p := ⟨b0, o0 + i, none⟩) hb0).trans (hc0 i hi)
            have q2' := (HR.out.1.cell (p := ⟨b1, o1 + j * 3 + 1, none⟩) hlt1).trans HQ2.out
            have HW : Hid (∀ m, Below w.heap.size w (wr.drewN m) ∧ Bk (wr.drewN m) g ka ∧ Bk (wr.drewN m) g' kb) := fun m => ⟨pwdrewN HR.out.1 m, hA'.drewN m, hB'.drewN m⟩
            clear hin hin' hA' hB' i2 i3
            generalize nth ka.T i = ta at *
            go_quiet ((first | (go_at_call 15; with_reducible exact quietly (ca _)) | (go_at_call 15; with_reducible exact quietly (cb _))))
            go_wp2
            go_roundw
            case rel => exact ⟨j + 1, ka, kb, by omega, by go_num, (HW.out _).1, (HW.out _).2.1, (HW.out _).2.2, HR.out.2.1, HR.out.2.2⟩
            case measure => simp [intOf]; omega
          · have hll : (lv == (i : Int)) = false := by simp [hlv]
            clear hlv
            have hA' := hA
            have hB' := hB
            have HR : Hid (Below w.heap.size w wr ∧ Alike2 i ka kb ∧ nth ka.B i = nth xs i) := ⟨hbl, HAL.out, HXS.out⟩
            clear hA hB hbl
            go_wp2
            have hin : i < ka.L := HR.out.2.1.la
            have hin' : i < kb.L := HR.out.2.1.lb
            have ca := fun m => taken_in g ka i _ (hA'.drewN m) hin
            have cb := fun m => taken_in g' kb i _ (hB'.drewN m) hin'
            obtain ⟨i1, i2, i3⟩ := hA'.ok.inv i
            have i4 : nth ka.T i ≤ nth xs i := by rw [← HR.out.2.2]; exact i2
            rw [← HR.out.2.1.t] at cb
            have hcx' := (HR.out.1.cell (p := ⟨b0, o0 + i, none⟩) hb0).trans (hc0 i hi)
            have q2' := (HR.out.1.cell (p := ⟨b1, o1 + j * 3 + 1, none⟩) hlt1).trans HQ2.out
            have HW : Hid (∀ m, Below w.heap.size w (wr.drewN m) ∧ Bk (wr.drewN m) g ka ∧ Bk (wr.drewN m) g' kb) := fun m => ⟨pwdrewN HR.out.1 m, hA'.drewN m, hB'.drewN m⟩
            clear hin hin' hA' hB' i2 i3
            generalize nth ka.T i = ta at *
            go_quiet ((first | (go_at_call 15; with_reducible exact quietly (ca _)) | (go_at_call 15; with_reducible exact quietly (cb _))))
            go_wp2
            go_roundw
            case rel => exact ⟨j + 1, ka, kb, by omega, by go_num, (HW.out _).1, (HW.out _).2.1, (HW.out _).2.2, HR.out.2.1, HR.out.2.2⟩
            case measure => simp [intOf]; omega
    · obtain rfl : j = l1 := by omega
      clear hA hB
      go_wp2
      go_ret
      exact ⟨rfl, hbl⟩
end Go.Proofs.Ytoekcknppphnjaa
