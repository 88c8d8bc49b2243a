/- Package quota's law folder: what a book's functions say of one level; QuotaBack's walk. -/
import Derived.Test.YtoekcknppphnjaaQuotaG
import Derived.StillTailTactics
set_option linter.unusedVariables false
set_option linter.unusedSimpArgs false
namespace Go.Proofs.Ytoekcknppphnjaa
open Go.RowKit
theorem tk_in {k : Book} {i : Nat} (h : i < k.L) : tk k i = nth k.T i := by simp only [tk]; rw [if_pos (by omega)]; rfl
theorem lf_in {k : Book} {i : Nat} (h : i < k.L) : lf k i = nth k.B i - nth k.T i := by simp only [lf]; rw [if_pos (by omega)]; rfl
theorem takeC_eq {k : Book} {i : Nat} (h : i < k.L) (n : Int) : takeC k i n = if n < 0 then 1 else if nth k.B i - nth k.T i < n then 5 else 0 := by
  simp only [takeC]; rw [if_neg (by omega), lf_in h]
theorem giveC_eq {k : Book} {i : Nat} (h : i < k.L) (n : Int) : giveC k i n = if n < 0 ∨ nth k.T i < n then 1 else 0 := by
  simp only [giveC]; rw [if_neg (by omega), tk_in h]
theorem takeC_zero {k : Book} {i : Nat} (h : i < k.L) {n : Int} : takeC k i n = 0 ↔ 0 ≤ n ∧ n ≤ nth k.B i - nth k.T i := by
  rw [takeC_eq h]; split
  · constructor <;> intro h <;> omega
  · split
    · constructor <;> intro h <;> omega
    · constructor <;> intro h <;> omega
theorem giveC_zero {k : Book} {i : Nat} (h : i < k.L) {n : Int} : giveC k i n = 0 ↔ 0 ≤ n ∧ n ≤ nth k.T i := by
  rw [giveC_eq h]; split
  · constructor <;> intro h <;> omega
  · constructor <;> intro h <;> omega
theorem takeB_nth {k : Book} (ho : k.Ok) {i : Nat} (h : i < k.L) {n : Int} (hz : takeC k i n = 0) (j : Nat) : nth (takeB k i n).T j = if i = j then nth k.T i + n else nth k.T j := by
  have := ho.lt; have := ho.le
  unfold takeB; rw [if_pos hz]; simp only [Book.set]; rw [nth_set _ _ _ _ (by simp; omega), tk_in h]; simp
theorem giveB_nth {k : Book} (ho : k.Ok) {i : Nat} (h : i < k.L) {n : Int} (hz : giveC k i n = 0) (j : Nat) : nth (giveB k i n).T j = if i = j then nth k.T i - n else nth k.T j := by
  have := ho.lt; have := ho.le
  unfold giveB; rw [if_pos hz]; simp only [Book.set]; rw [nth_set _ _ _ _ (by simp; omega), tk_in h]; simp
/-- The loop of QuotaBack and what stands behind it. -/
theorem act_cells {w wr : World} {b1 o1 l1 : Nat} {ys : List Act} (hbl : Below w.heap.size w wr) {j : Nat}
    (h : (act ys j).Ok ∧ w.cell? ⟨b1, o1 + j * 3, none⟩ = some (.int .i64 (act ys j).kind) ∧
    w.cell? ⟨b1, o1 + j * 3 + 1, none⟩ = some (.int .i64 (act ys j).level) ∧ w.cell? ⟨b1, o1 + j * 3 + 2, none⟩ = some (.int .i64 (act ys j).n)) (_hj : j < l1) :
    wr.cell? ⟨b1, o1 + j * 3, none⟩ = some (.int .i64 (act ys j).kind) ∧ wr.cell? ⟨b1, o1 + j * 3 + 1, none⟩ = some (.int .i64 (act ys j).level) ∧ wr.cell? ⟨b1, o1 + j * 3 + 2, none⟩ = some (.int .i64 (act ys j).n) := by
  obtain ⟨_, q1, q2, q3⟩ := h
  have hlt1 := World.block_lt_of_cell? _ _ q1
  exact ⟨(hbl.cell (p := ⟨b1, o1 + j * 3, none⟩) hlt1).trans q1, (hbl.cell (p := ⟨b1, o1 + j * 3 + 1, none⟩) hlt1).trans q2, (hbl.cell (p := ⟨b1, o1 + j * 3 + 2, none⟩) hlt1).trans q3⟩
theorem Bk.drew {w : World} {b : Nat} {k : Book} (h : Bk w b k) : Bk w.drew b k := ⟨h.ok, h.heap⟩
set_option maxRecDepth 100000 in
set_option maxHeartbeats 4000000 in
theorem back_law (A0 : Option Addr) (l0 c0 : Nat) (xs : List Int) (A1 : Option Addr) (l1 c1 : Nat) (ys : List Act) (i : Nat) (n : Int) (w : World) (h0 : IntsAt w A0 l0 xs) (h1 : ActsAt w A1 l1 ys)
    (hl0' : l0 ≤ 16) (hl1 : l1 ≤ 300) (hi : i < l0) (hok : newOk xs = true) (hn1 : -9223372036854775808 ≤ n) (hn2 : n ≤ 9223372036854775807) :
    Calls Try.prog 5 #[.slice A0 l0 c0, .slice A1 l1 c1, .int .i64 i, .int .i64 n] w fun e w' => e = .returned (.bool true) ∧ Below w.heap.size w w' := by
  have haw := awake_any w
  have H0 := Lib.hid h0
  have H1 := Lib.hid h1
  have HK := Lib.hid hok
  clear h0 h1 hok
  go_enter Try.func5, Try.ntmps5
  go_wp2_with (first | (go_at_call 7; refine haw.mono ?_; rintro e w1 ⟨rfl, hb1⟩))
  refine (new_any A0 l0 c0 w1 xs (H0.out.below hb1)).mono ?_
  rintro e w2 ⟨hb2, ⟨_, rfl, hB⟩ | ⟨hf, _⟩⟩
  case inr => rw [HK.out] at hf; cases hf
  have hbel : Below w.heap.size w w2 := hb1.trans (hb2.mono hb1.size)
  have hg : w.heap.size ≤ w1.heap.size := hb1.size
  have HL0 : Hid ((newBook xs).L = l0) := H0.out.len
  generalize newBook xs = k0 at *
  generalize w1.heap.size = g at *
  clear hb1 hb2 haw
  go_wp2
  go_loopw [11] (fun t wr => ∃ (j : Nat) (k : Book), j ≤ l1 ∧ t = .int .i64 j ∧ Below w.heap.size w wr ∧ Bk wr g k ∧ k.L = l0) (fun t _ => l1 - (intOf t).toNat)
  case atStart => exact ⟨0, k0, Nat.zero_le _, rfl, hbel, hB, HL0.out⟩
  case round =>
    clear hbel hB HL0
    obtain ⟨j, k, hj, rfl, hbl, hB, hL⟩ := hrel
    have HL := Lib.hid hL
    clear hL
    by_cases hlt : j < l1
    · obtain ⟨b1, o1, rfl, hc1⟩ := H1.out.cells (by omega)
      obtain ⟨q1, q2, q3⟩ := act_cells hbl (hc1 j hlt) hlt
      have hj1 : (0 : Int) ≤ (j : Int) := by omega
      have hj2 : (j : Int) < (l1 : Int) := by omega
      clear hc1
      generalize act ys j = ac at *
      obtain ⟨kd, lv, m⟩ := ac
      simp only at q1 q2 q3
      by_cases hk : kd = 0
      · subst hk
        have c1 := take_any g k lv m wr.drew hB.drew
        have HS : Hid (∀ w3, Eff (· = g) wr.drew w3 → Below w.heap.size w w3) := fun w3 hE => Eff.below (S := (· = g)) hbl.drew hE hbl.size fun x hx => by subst hx; exact hg
        clear hB hbl
        go_wp2
        go_still_tail 11, (by kernel_rfl)
        change wpList _ _ _ _ _ wr.drew
        go_wp2_with (first | (go_at_call 10; refine c1.mono ?_; rintro e w3 ⟨rfl, hE3, hB3⟩))
        go_roundw
        case rel => exact ⟨j + 1, takeB k lv m, by omega, by go_num, HS.out _ hE3, hB3, take_same.1.trans HL.out⟩
        case measure => simp [intOf]; omega
      · have hkk : (kd == 0) = false := by simp [hk]
        clear hk
        go_wp2
        go_roundw
        case rel => exact ⟨j + 1, k, by omega, by go_num, hbl, hB, HL.out⟩
        case measure => simp [intOf]; omega
    · obtain rfl : j = l1 := by omega
      have hin : i < k.L := by rw [HL.out]; exact hi
      obtain ⟨v1, v2, v3⟩ := hB.ok.inv i
      have hBok := Lib.hid hB.ok
      have HIN := Lib.hid hin
      have d1 := taken_in g k i wr hB hin
      have HLF : Hid (∀ w3, Bk w3 g k → Below w.heap.size w w3 → Calls Try.prog 16 #[.pointer (some ⟨g, 0, none⟩), .int .i64 i] w3
          fun e w' => e = .returned (.int .i64 (nth k.B i - nth k.T i)) ∧ Hid (Bk w' g k ∧ Below w.heap.size w w')) := fun w3 h3 hb3 => by
        have c := left_b g k i w3 h3
        rw [lf_in hin] at c
        exact c.mono fun e w' ⟨p, q⟩ => ⟨p, h3.keep q, hb3.trans (q.mono hb3.size)⟩
      have HD3 : Hid (∀ w3, Bk w3 g k → Below w.heap.size w w3 → Calls Try.prog 10 #[.pointer (some ⟨g, 0, none⟩), .int .i64 i, .int .i64 (nth k.B i - nth k.T i)] w3
          fun e w' => e = .returned (.int .i64 0) ∧ Hid (∃ k2 : Book, Bk w' g k2 ∧ Below w.heap.size w w' ∧ i < k2.L ∧ nth k2.B i - nth k2.T i = 0)) := fun w3 h3 hb3 => by
        have hz : takeC k i (nth k.B i - nth k.T i) = 0 := (takeC_zero hin).2 ⟨by omega, by omega⟩
        have c := take_any g k i (nth k.B i - nth k.T i) w3 h3
        rw [hz] at c
        refine c.mono fun e w' ⟨p, q, r⟩ => ⟨p, takeB k i (nth k.B i - nth k.T i), r, Eff.below hb3 q hb3.size fun x hx => by subst hx; exact hg, by rw [take_same.1]; exact hin, ?_⟩
        rw [takeB_nth hBok.out hin hz, if_pos rfl, take_same.2]; omega
      have HB0 : Hid (Bk wr g k ∧ Below w.heap.size w wr) := ⟨hB, hbl⟩
      clear hB hbl
      by_cases hz : takeC k i n = 0
      · obtain ⟨hz1, hz2⟩ := (takeC_zero hin).1 hz
        have hin2 : i < (takeB k i n).L := by rw [take_same.1]; exact hin
        have t1 : nth (takeB k i n).T i = nth k.T i + n := by rw [takeB_nth hBok.out hin hz, if_pos rfl]
        have hgz : giveC (takeB k i n) i n = 0 := (giveC_zero hin2).2 ⟨hz1, by rw [t1]; omega⟩
        have HTK : Hid (∀ w3, Bk w3 g k → Below w.heap.size w w3 → Calls Try.prog 10 #[.pointer (some ⟨g, 0, none⟩), .int .i64 i, .int .i64 n] w3
            fun e w' => e = .returned (.int .i64 0) ∧ Hid (Bk w' g (takeB k i n) ∧ Below w.heap.size w w')) := fun w3 h3 hb3 => by
          have c := take_any g k i n w3 h3
          rw [hz] at c
          exact c.mono fun e w' ⟨p, q, r⟩ => ⟨p, r, Eff.below hb3 q hb3.size fun x hx => by subst hx; exact hg⟩
        have HBK : Hid (∀ w3, Bk w3 g (takeB k i n) → Below w.heap.size w w3 → Calls Try.prog 12 #[.pointer (some ⟨g, 0, none⟩), .int .i64 i, .int .i64 n] w3
            fun e w' => e = .returned (.int .i64 0) ∧ Hid (Bk w' g k ∧ Below w.heap.size w w')) := fun w3 h3 hb3 => by
          have c := give_any g (takeB k i n) i n w3 h3
          rw [hgz] at c
          refine c.mono fun e w' ⟨p, q, r⟩ => ⟨p, ?_, Eff.below hb3 q hb3.size fun x hx => by subst hx; exact hg⟩
          have e : giveB (takeB k i n) i n = k := by
            have ho := h3.ok
            have hT : (giveB (takeB k i n) i n).T = k.T := nth_ext (by
                have := r.ok.lt; have := hBok.out.lt; omega) fun x _ => by
              rw [giveB_nth ho hin2 hgz, t1, takeB_nth hBok.out hin hz]
              by_cases hx : i = x
              · subst hx; rw [if_pos rfl]; omega
              · rw [if_neg hx, if_neg hx]
            have hBB : (giveB (takeB k i n) i n).B = k.B := give_same.2.trans take_same.2
            have hLL : (giveB (takeB k i n) i n).L = k.L := give_same.1.trans take_same.1
            cases hx : giveB (takeB k i n) i n
            cases k
            simp_all
          rw [← e]; exact r
        have HT1 : Hid (∀ w3, Bk w3 g (takeB k i n) → Calls Try.prog 15 #[.pointer (some ⟨g, 0, none⟩), .int .i64 i] w3 fun e w' => e = .returned (.int .i64 (nth k.T i + n)) ∧ w3 = w') := fun w3 h3 => by
          rw [← t1]; exact taken_in g _ i w3 h3 hin2
        have HT0 : Hid (∀ w3, Bk w3 g k → Calls Try.prog 15 #[.pointer (some ⟨g, 0, none⟩), .int .i64 i] w3 fun e w' => e = .returned (.int .i64 (nth k.T i)) ∧ w3 = w') := fun w3 h3 => taken_in g k i w3 h3 hin
        clear hz hgz hin2 t1 hin
        generalize takeB k i n = k1 at *
        generalize nth k.T i = t at *
        generalize nth k.B i = bb at *
        go_wp2_with (first | (go_at_call 15; refine d1.mono ?_; rintro e w1 ⟨rfl, rfl⟩))
        refine (HLF.out _ HB0.out.1 HB0.out.2).mono ?_
        rintro e w3 ⟨rfl, H3⟩
        clear d1 HB0
        go_wp2_with fail
        refine (HTK.out _ H3.out.1 H3.out.2).mono ?_
        rintro e w4 ⟨rfl, H4⟩
        clear HTK H3
        go_wp2_with fail
        refine (HT1.out _ H4.out.1).mono ?_
        rintro e w5 ⟨rfl, rfl⟩
        clear HT1
        go_wp2_with fail
        refine (HBK.out _ H4.out.1 H4.out.2).mono ?_
        rintro e w5 ⟨rfl, H5⟩
        clear HBK H4
        go_wp2_with fail
        refine (HT0.out _ H5.out.1).mono ?_
        rintro e w6 ⟨rfl, rfl⟩
        clear HT0
        go_wp2_with fail
        refine (HLF.out _ H5.out.1 H5.out.2).mono ?_
        rintro e w6 ⟨rfl, H6⟩
        clear HLF H5
        go_wp2_with fail
        refine (HD3.out _ H6.out.1 H6.out.2).mono ?_
        rintro e w7 ⟨rfl, H7⟩
        clear HD3 H6
        obtain ⟨k2, B7, L7, I7, R7⟩ := H7.out
        have C1 := left_b g k2 i w7 B7
        rw [lf_in I7, R7] at C1
        go_wp2_with fail
        refine C1.mono ?_
        rintro e w8 ⟨rfl, hb8⟩
        have B8 := B7.keep hb8
        have L8 : Hid (Below w.heap.size w w8) := L7.trans (hb8.mono L7.size)
        clear hb8 B7 L7 C1 H7
        have C2 := take_any g k2 i 1 w8 B8
        have z2 : takeC k2 i 1 = 5 := by rw [takeC_eq I7, if_neg (by decide), if_pos (by omega)]
        rw [take_not (by rw [z2]; decide), z2] at C2
        go_wp2_with fail
        refine C2.mono ?_
        rintro e w9 ⟨rfl, E9, B9⟩
        have L9 : Hid (Below w.heap.size w w9) := Eff.below L8.out E9 L8.out.size fun x hx => by subst hx; exact hg
        have C3 := take_any g k2 i 0 w9 B9
        rw [(takeC_zero I7).2 ⟨by decide, by omega⟩] at C3
        clear E9 L8 C2 B8 z2 R7
        go_wp2_with fail
        refine C3.mono ?_
        rintro e w10 ⟨rfl, E10, _⟩
        have L10 : Below w.heap.size w w10 := Eff.below L9.out E10 L9.out.size fun x hx => by subst hx; exact hg
        go_wp2_with fail
        go_ret
        exact ⟨rfl, L10⟩
      · have hno : ¬ (0 ≤ n ∧ n ≤ nth k.B i - nth k.T i) := fun hc => hz ((takeC_zero hin).2 hc)
        have hz1 : (takeC k i n == 0) = false := by simp [hz]
        have HTK : Hid (∀ w3, Bk w3 g k → Below w.heap.size w w3 → Calls Try.prog 10 #[.pointer (some ⟨g, 0, none⟩), .int .i64 i, .int .i64 n] w3
            fun e w' => e = .returned (.int .i64 (takeC k i n)) ∧ Hid (Bk w' g k ∧ Below w.heap.size w w')) := fun w3 h3 hb3 => by
          have c := take_any g k i n w3 h3
          rw [take_not hz] at c
          exact c.mono fun e w' ⟨p, q, r⟩ => ⟨p, r, Eff.below hb3 q hb3.size fun x hx => by subst hx; exact hg⟩
        clear hz hin
        generalize takeC k i n = cd at *
        generalize nth k.T i = t at *
        generalize nth k.B i = bb at *
        rcases (show n < 0 ∨ (0 ≤ n ∧ bb - t < n) by omega) with hn3 | ⟨hn3, hn4⟩
        · clear hno
          go_wp2_with (first | (go_at_call 15; refine d1.mono ?_; rintro e w1 ⟨rfl, rfl⟩))
          refine (HLF.out _ HB0.out.1 HB0.out.2).mono ?_
          rintro e w3 ⟨rfl, H3⟩
          clear d1 HB0 HLF
          go_wp2_with fail
          refine (HTK.out _ H3.out.1 H3.out.2).mono ?_
          rintro e w6 ⟨rfl, H6⟩
          clear HTK H3
          go_wp2_with fail
          refine (HD3.out _ H6.out.1 H6.out.2).mono ?_
          rintro e w7 ⟨rfl, H7⟩
          clear HD3 H6
          obtain ⟨k2, B7, L7, I7, R7⟩ := H7.out
          have C1 := left_b g k2 i w7 B7
          rw [lf_in I7, R7] at C1
          go_wp2_with fail
          refine C1.mono ?_
          rintro e w8 ⟨rfl, hb8⟩
          have B8 := B7.keep hb8
          have L8 : Hid (Below w.heap.size w w8) := L7.trans (hb8.mono L7.size)
          clear hb8 B7 L7 C1 H7
          have C2 := take_any g k2 i 1 w8 B8
          have z2 : takeC k2 i 1 = 5 := by rw [takeC_eq I7, if_neg (by decide), if_pos (by omega)]
          rw [take_not (by rw [z2]; decide), z2] at C2
          go_wp2_with fail
          refine C2.mono ?_
          rintro e w9 ⟨rfl, E9, B9⟩
          have L9 : Hid (Below w.heap.size w w9) := Eff.below L8.out E9 L8.out.size fun x hx => by subst hx; exact hg
          have C3 := take_any g k2 i 0 w9 B9
          rw [(takeC_zero I7).2 ⟨by decide, by omega⟩] at C3
          clear E9 L8 C2 B8 z2 R7
          go_wp2_with fail
          refine C3.mono ?_
          rintro e w10 ⟨rfl, E10, _⟩
          have L10 : Below w.heap.size w w10 := Eff.below L9.out E10 L9.out.size fun x hx => by subst hx; exact hg
          go_wp2_with fail
          go_ret
          exact ⟨rfl, L10⟩
        · clear hno
          go_wp2_with (first | (go_at_call 15; refine d1.mono ?_; rintro e w1 ⟨rfl, rfl⟩))
          refine (HLF.out _ HB0.out.1 HB0.out.2).mono ?_
          rintro e w3 ⟨rfl, H3⟩
          clear d1 HB0 HLF
          go_wp2_with fail
          refine (HTK.out _ H3.out.1 H3.out.2).mono ?_
          rintro e w6 ⟨rfl, H6⟩
          clear HTK H3
          go_wp2_with fail
          refine (HD3.out _ H6.out.1 H6.out.2).mono ?_
          rintro e w7 ⟨rfl, H7⟩
          clear HD3 H6
          obtain ⟨k2, B7, L7, I7, R7⟩ := H7.out
          have C1 := left_b g k2 i w7 B7
          rw [lf_in I7, R7] at C1
          go_wp2_with fail
          refine C1.mono ?_
          rintro e w8 ⟨rfl, hb8⟩
          have B8 := B7.keep hb8
          have L8 : Hid (Below w.heap.size w w8) := L7.trans (hb8.mono L7.size)
          clear hb8 B7 L7 C1 H7
          have C2 := take_any g k2 i 1 w8 B8
          have z2 : takeC k2 i 1 = 5 := by rw [takeC_eq I7, if_neg (by decide), if_pos (by omega)]
          rw [take_not (by rw [z2]; decide), z2] at C2
          go_wp2_with fail
          refine C2.mono ?_
          rintro e w9 ⟨rfl, E9, B9⟩
          have L9 : Hid (Below w.heap.size w w9) := Eff.below L8.out E9 L8.out.size fun x hx => by subst hx; exact hg
          have C3 := take_any g k2 i 0 w9 B9
          rw [(takeC_zero I7).2 ⟨by decide, by omega⟩] at C3
          clear E9 L8 C2 B8 z2 R7
          go_wp2_with fail
          refine C3.mono ?_
          rintro e w10 ⟨rfl, E10, _⟩
          have L10 : Below w.heap.size w w10 := Eff.below L9.out E10 L9.out.size fun x hx => by subst hx; exact hg
          go_wp2_with fail
          go_ret
          exact ⟨rfl, L10⟩
end Go.Proofs.Ytoekcknppphnjaa
