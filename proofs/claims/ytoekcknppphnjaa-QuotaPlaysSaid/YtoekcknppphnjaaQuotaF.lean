/- Package quota's law folder: a row of acts that came in; QuotaTotal's walk. -/
import Derived.Test.YtoekcknppphnjaaQuotaE
set_option linter.unusedVariables false
set_option linter.unusedSimpArgs false
namespace Go.Proofs.Ytoekcknppphnjaa
open Go.RowKit
structure Act where
  kind : Int
  level : Int
  n : Int
structure Act.Ok (a : Act) : Prop where
  h : (Lit.int .i64 a.kind).wf = true ∧ (Lit.int .i64 a.level).wf = true ∧ (Lit.int .i64 a.n).wf = true
def act (xs : List Act) (j : Nat) : Act := xs.getD j ⟨0, 0, 0⟩
structure ActsAt (w : World) (A : Option Addr) (n : Nat) (xs : List Act) : Prop where
  len : xs.length = n
  max : n ≤ 9223372036854775807
  cells : 0 < n → ∃ b off, A = some ⟨b, off, none⟩ ∧ ∀ j, j < n → (act xs j).Ok ∧ w.cell? ⟨b, off + j * 3, none⟩ = some (.int .i64 (act xs j).kind) ∧
    w.cell? ⟨b, off + j * 3 + 1, none⟩ = some (.int .i64 (act xs j).level) ∧ w.cell? ⟨b, off + j * 3 + 2, none⟩ = some (.int .i64 (act xs j).n)
theorem sumTo_set (l : List Int) (i : Nat) (v : Int) (hi : i < l.length) (n : Nat) : sumTo (l.set i v) n = sumTo l n + if i < n then v - nth l i else 0 := by
  induction n with
  | zero => simp [sumTo]
  | succ n ih =>
    simp only [sumTo, ih, nth_set _ _ _ _ hi]
    by_cases e : i = n
    · subst e; simp; omega
    · rw [if_neg e]
      by_cases h : i < n
      · rw [if_pos h, if_pos (by omega)]; omega
      · rw [if_neg h, if_neg (by omega)]; omega
theorem take_sum {k : Book} (h : k.Ok) {i n : Int} (hz : takeC k i n = 0) : sumTo (takeB k i n).T k.L = sumTo k.T k.L + n := by
  unfold takeB
  rw [if_pos hz]
  have hi : 0 ≤ i ∧ i < k.L := by
    false_or_by_contra
    rename_i hc
    simp [takeC, hc] at hz
  have := h.lt; have := h.le
  simp only [Book.set]
  rw [sumTo_set _ _ _ (by omega), if_pos (by omega)]
  simp only [tk, if_pos hi]; omega
theorem give_sum {k : Book} (h : k.Ok) {i n : Int} (hz : giveC k i n = 0) : sumTo (giveB k i n).T k.L = sumTo k.T k.L + -n := by
  unfold giveB
  rw [if_pos hz]
  have hi : 0 ≤ i ∧ i < k.L := by
    false_or_by_contra
    rename_i hc
    simp [giveC, hc] at hz
  have := h.lt; have := h.le
  simp only [Book.set]
  rw [sumTo_set _ _ _ (by omega), if_pos (by omega)]
  simp only [tk, if_pos hi]; omega
theorem give_pos {k : Book} {i n : Int} (hz : giveC k i n = 0) : 0 ≤ n := by
  false_or_by_contra
  rename_i hc
  have hn : n < 0 := by omega
  unfold giveC at hz
  split at hz
  · cases hz
  · rw [if_pos (.inl hn)] at hz; cases hz
theorem take_not {k : Book} {i n : Int} (hz : takeC k i n ≠ 0) : takeB k i n = k := by unfold takeB; rw [if_neg hz]
theorem give_not {k : Book} {i n : Int} (hz : giveC k i n ≠ 0) : giveB k i n = k := by unfold giveB; rw [if_neg hz]
theorem take_same {k : Book} {i n : Int} : (takeB k i n).L = k.L ∧ (takeB k i n).B = k.B := by unfold takeB; split <;> exact ⟨rfl, rfl⟩
theorem give_same {k : Book} {i n : Int} : (giveB k i n).L = k.L ∧ (giveB k i n).B = k.B := by unfold giveB; split <;> exact ⟨rfl, rfl⟩
set_option maxRecDepth 100000 in
set_option maxHeartbeats 4000000 in
theorem total_law (A0 : Option Addr) (l0 c0 : Nat) (xs : List Int) (A1 : Option Addr) (l1 c1 : Nat) (ys : List Act) (w : World) (h0 : IntsAt w A0 l0 xs) (h1 : ActsAt w A1 l1 ys) (hl0 : 1 ≤ l0) (hl0' : l0 ≤ 16) (hl1 : l1 ≤ 300) (hok : newOk xs = true) :
    Calls Try.prog 6 #[.slice A0 l0 c0, .slice A1 l1 c1] w fun e w' => e = .returned (.bool true) ∧ Below w.heap.size w w' := by
  obtain ⟨b0, o0, rfl, hc0⟩ := h0.cells (by omega)
  have hx := h0.len
  have haw := awake_any w
  have hb0 : b0 < w.heap.size := World.block_lt_of_cell? _ _ (hc0 0 (by omega))
  have HX := Lib.hid hx
  have H1 := Lib.hid h1
  have HK := Lib.hid hok
  clear hx h0 h1 hok
  go_enter Try.func6, Try.ntmps6
  go_wp2_with (first | (go_at_call 7; refine haw.mono ?_; rintro e w1 ⟨rfl, hb1⟩))
  refine (new_some b0 o0 l0 c0 w1 xs HX.out hl0 hl0' (fun j hj => (hb1.cell hb0).trans (hc0 j hj))).mono ?_
  rintro e w2 ⟨hb2, ⟨_, rfl, hB⟩ | ⟨hf, _⟩⟩
  case inr => rw [HK.out] at hf; cases hf
  have hbel : Below w.heap.size w w2 := hb1.trans (hb2.mono hb1.size)
  have hg : w.heap.size ≤ w1.heap.size := hb1.size
  have hbk : (newBook xs).L = l0 ∧ ∀ t, nth (newBook xs).B t = nth xs t := ⟨HX.out, fun t => newBook_nth xs (by rw [HX.out]; exact hl0') t⟩
  have HN := Lib.hid hbk
  generalize newBook xs = k0 at *
  generalize w1.heap.size = g at *
  clear hb1 hb2 hbk haw
  go_wp2
  go_loopw [7] (fun i wr => ∃ (j : Nat) (k : Book), j ≤ l1 ∧ i = .int .i64 j ∧ Below w.heap.size w wr ∧ Bk wr g k ∧ k.L = l0 ∧ ∀ t, nth k.B t = nth xs t) (fun i _ => l1 - (intOf i).toNat)
  case atStart => exact ⟨0, k0, Nat.zero_le _, rfl, hbel, hB, HN.out.1, HN.out.2⟩
  case round =>
    clear hbel hB HN
    obtain ⟨j, k, hj, rfl, hbl, hB, hL, hbs⟩ := hrel
    obtain ⟨wo, rfl⟩ : ∃ wo : World, wo = wr := ⟨_, rfl⟩
    have HL := Lib.hid hL
    have HS := Lib.hid hbs
    clear hbs hL
    by_cases hlt : j < l1
    · obtain ⟨b1, o1, rfl, hc1⟩ := H1.out.cells (by omega)
      obtain ⟨q0, q1, q2, q3⟩ := hc1 j hlt
      have hlt1 := World.block_lt_of_cell? _ _ q1
      replace q1 := (hbl.cell (p := ⟨b1, o1 + j * 3, none⟩) hlt1).trans q1
      replace q2 := (hbl.cell (p := ⟨b1, o1 + j * 3 + 1, none⟩) hlt1).trans q2
      replace q3 := (hbl.cell (p := ⟨b1, o1 + j * 3 + 2, none⟩) hlt1).trans q3
      clear hc1
      generalize act ys j = ac at *
      obtain ⟨kd, lv, n⟩ := ac
      simp only at q1 q2 q3
      have t1 := total_any g k wo hB
      rw [HL.out] at t1
      obtain ⟨⟨wk1, wk2, wk3⟩⟩ := q0
      have hnmax : n ≤ 9223372036854775807 := by simp [Lit.wf, IntKind.min, IntKind.max, IntKind.signed, IntKind.bits] at wk3; omega
      clear wk1 wk2 wk3
      by_cases hk : kd = 0
      · subst hk
        by_cases hz : takeC k lv n = 0
        · have HQ0 : Hid (sumTo (takeB k lv n).T k.L = sumTo k.T k.L + n) :=  take_sum hB.ok hz
          have c1 := take_any g k lv n wo hB
          have HL3 : Hid ((takeB k lv n).L = l0) := take_same.1.trans HL.out
          have HS3 : Hid (∀ t, nth (takeB k lv n).B t = nth xs t) := fun t => by rw [take_same.2]; exact HS.out t
          rw [hz] at c1
          clear hz hB
          generalize takeB k lv n = k3 at *
          have HQ : Hid (sumTo k3.T l0 = sumTo k.T l0 + n) := by have := HQ0.out; rw [HL.out] at this; exact this
          clear HQ0
          go_wp2_with (first | (go_at_call 17; refine t1.mono ?_; rintro e w1 ⟨rfl, rfl⟩) | (go_at_call 10; refine c1.mono ?_; rintro e w3 ⟨rfl, hE3, hB3⟩))
          clear t1 q1 q2 q3
          have hb3 : Below w.heap.size w w3 := Eff.below hbl hE3 hbl.size fun x hx => by subst hx; exact hg
          have HB3 := Lib.hid hb3
          have hbd3 := sumTo_bd hB3.ok
          have HBD := Lib.hid hbd3
          clear hb3 hbd3 hE3 hbl
          go_loopw [11, 12] (fun t i wr => ∃ x : Nat, x ≤ l0 ∧ i = .int .i64 x ∧ t = .int .i64 (sumTo k3.T x) ∧ Below w3.heap.size w3 wr ∧ Bk wr g k3) (fun _ i _ => l0 - (intOf i).toNat)
          case atStart => exact ⟨0, Nat.zero_le _, rfl, rfl, Below.refl _ _, hB3⟩
          case round =>
            clear hB3
            obtain ⟨x, hx, rfl, rfl, hbq, hBq⟩ := hrel
            have hbx := HBD.out x
            have hbx' := HBD.out (x + 1)
            have hb3q := HB3.out.trans (hbq.mono HB3.out.size)
            by_cases hxl : x < l0
            · have hcx := (hb3q.cell (p := ⟨b0, o0 + x, none⟩) hb0).trans (hc0 x hxl)
              have hin : x < k3.L := by rw [HL3.out]; exact hxl
              have c1 := taken_in g k3 x wr hBq hin
              have c2 := fun m => taken_in g k3 x _ (hBq.drewN m) hin
              have c3 := fun m => left_in g k3 x _ (hBq.drewN m) hin
              obtain ⟨i1, i2, i3⟩ := hBq.ok.inv x
              have HN3 : Hid (sumTo k3.T (x + 1) = sumTo k3.T x + nth k3.T x) := (rfl : sumTo k3.T (x + 1) = sumTo k3.T x + nth k3.T x)
              rw [HN3.out] at hbx'
              have hq3 : nth k3.T x + (nth k3.B x - nth k3.T x) = nth xs x := by rw [HS3.out x]; omega
              have HQ3 : Hid (nth k3.T x + (nth k3.B x - nth k3.T x) = nth xs x) := hq3
              have hqb : (nth k3.T x + (nth k3.B x - nth k3.T x) != nth xs x) = false := by simp [hq3]
              have hq4 : (0 : Int) ≤ (x : Int) := by omega
              have hq5 : (x : Int) < (l0 : Int) := by omega
              have hwr : ∀ m, Bk (wr.drewN m) g k3 ∧ Below w3.heap.size w3 (wr.drewN m) := fun m => ⟨hBq.drewN m, ⟨hbq.os, hbq.tape, hbq.output, hbq.size, hbq.block⟩⟩
              have HWR := Lib.hid hwr
              clear hq3 hbq hBq hb3q hwr
              generalize nth k3.T x = tx at *
              generalize nth k3.B x = bx at *
              generalize nth xs x = nx at *
              generalize hsx : sumTo k3.T x = sx at *
              have HSX := Lib.hid hsx
              clear hsx
              go_wp2_with (go_at_call 15; refine c1.mono ?_; rintro e w4 ⟨rfl, rfl⟩)
              go_quiet ((first | (go_at_call 15; exact quietly (c2 _)) | (go_at_call 16; exact quietly2 (c3 _))))
              go_wp2
              go_roundw
              case rel => exact ⟨x + 1, by omega, by go_num, by rw [HN3.out], (HWR.out _).2, (HWR.out _).1⟩
              case measure => simp [intOf]; omega
            · obtain rfl : x = l0 := by omega
              have hB4 := hBq
              have t2 := total_any g k3 wr hBq
              rw [HL3.out] at t2
              have hw4 : Below w.heap.size w wr := hb3q
              have HW4 := Lib.hid hw4
              have HB4 := Lib.hid hB4
              have hqq : (sumTo k3.T x != sumTo k.T x + n) = false := by simp [HQ.out]
              have hqw : 0 ≤ sumTo k.T x + n := by rw [← HQ.out]; exact hbx.1
              have hqv : sumTo k.T x + n ≤ x * 1099511627776 := by rw [← HQ.out]; exact hbx.2
              clear hBq hB4 hb3q hw4 hbq hbx'
              generalize sumTo k3.T x = s3 at *
              generalize hs0 : sumTo k.T x = s0 at *
              have HS0 := Lib.hid hs0
              clear hs0
              go_wp2_with (go_at_call 17; refine t2.mono ?_; rintro e w4 ⟨rfl, rfl⟩)
              go_roundw
              case rel => exact ⟨j + 1, k3, by omega, by go_num, HW4.out, HB4.out, HL3.out, HS3.out⟩
              case measure => simp [intOf]; omega
        · obtain ⟨n3, hn3⟩ : ∃ n3 : Int, n3 = 0 := ⟨_, rfl⟩
          have HQ0 : Hid (sumTo (takeB k lv n).T k.L = sumTo k.T k.L + n3) := by subst hn3; rw [take_not hz]; show _ = _ + (0 : Int); omega
          have c1 := take_any g k lv n wo hB
          have HL3 : Hid ((takeB k lv n).L = l0) := take_same.1.trans HL.out
          have HS3 : Hid (∀ t, nth (takeB k lv n).B t = nth xs t) := fun t => by rw [take_same.2]; exact HS.out t
          have hz1 : (takeC k lv n != 0) = true := by simp [hz]
          have hz2 : (takeC k lv n == 0) = false := by simp [hz]
          clear hz hB
          generalize takeC k lv n = cd at *
          generalize takeB k lv n = k3 at *
          subst hn3
          have HQ : Hid (sumTo k3.T l0 = sumTo k.T l0 + 0) := by have := HQ0.out; rw [HL.out] at this; exact this
          clear HQ0
          go_wp2_with (first | (go_at_call 17; refine t1.mono ?_; rintro e w1 ⟨rfl, rfl⟩) | (go_at_call 10; refine c1.mono ?_; rintro e w3 ⟨rfl, hE3, hB3⟩))
          clear t1 q1 q2 q3
          have hb3 : Below w.heap.size w w3 := Eff.below hbl hE3 hbl.size fun x hx => by subst hx; exact hg
          have HB3 := Lib.hid hb3
          have hbd3 := sumTo_bd hB3.ok
          have HBD := Lib.hid hbd3
          clear hb3 hbd3 hE3 hbl
          go_loopw [11, 12] (fun t i wr => ∃ x : Nat, x ≤ l0 ∧ i = .int .i64 x ∧ t = .int .i64 (sumTo k3.T x) ∧ Below w3.heap.size w3 wr ∧ Bk wr g k3) (fun _ i _ => l0 - (intOf i).toNat)
          case atStart => exact ⟨0, Nat.zero_le _, rfl, rfl, Below.refl _ _, hB3⟩
          case round =>
            clear hB3
            obtain ⟨x, hx, rfl, rfl, hbq, hBq⟩ := hrel
            have hbx := HBD.out x
            have hbx' := HBD.out (x + 1)
            have hb3q := HB3.out.trans (hbq.mono HB3.out.size)
            by_cases hxl : x < l0
            · have hcx := (hb3q.cell (p := ⟨b0, o0 + x, none⟩) hb0).trans (hc0 x hxl)
              have hin : x < k3.L := by rw [HL3.out]; exact hxl
              have c1 := taken_in g k3 x wr hBq hin
              have c2 := fun m => taken_in g k3 x _ (hBq.drewN m) hin
              have c3 := fun m => left_in g k3 x _ (hBq.drewN m) hin
              obtain ⟨i1, i2, i3⟩ := hBq.ok.inv x
              have HN3 : Hid (sumTo k3.T (x + 1) = sumTo k3.T x + nth k3.T x) := (rfl : sumTo k3.T (x + 1) = sumTo k3.T x + nth k3.T x)
              rw [HN3.out] at hbx'
              have hq3 : nth k3.T x + (nth k3.B x - nth k3.T x) = nth xs x := by rw [HS3.out x]; omega
              have HQ3 : Hid (nth k3.T x + (nth k3.B x - nth k3.T x) = nth xs x) := hq3
              have hqb : (nth k3.T x + (nth k3.B x - nth k3.T x) != nth xs x) = false := by simp [hq3]
              have hq4 : (0 : Int) ≤ (x : Int) := by omega
              have hq5 : (x : Int) < (l0 : Int) := by omega
              have hwr : ∀ m, Bk (wr.drewN m) g k3 ∧ Below w3.heap.size w3 (wr.drewN m) := fun m => ⟨hBq.drewN m, ⟨hbq.os, hbq.tape, hbq.output, hbq.size, hbq.block⟩⟩
              have HWR := Lib.hid hwr
              clear hq3 hbq hBq hb3q hwr
              generalize nth k3.T x = tx at *
              generalize nth k3.B x = bx at *
              generalize nth xs x = nx at *
              generalize hsx : sumTo k3.T x = sx at *
              have HSX := Lib.hid hsx
              clear hsx
              go_wp2_with (go_at_call 15; refine c1.mono ?_; rintro e w4 ⟨rfl, rfl⟩)
              go_quiet ((first | (go_at_call 15; exact quietly (c2 _)) | (go_at_call 16; exact quietly2 (c3 _))))
              go_wp2
              go_roundw
              case rel => exact ⟨x + 1, by omega, by go_num, by rw [HN3.out], (HWR.out _).2, (HWR.out _).1⟩
              case measure => simp [intOf]; omega
            · obtain rfl : x = l0 := by omega
              have hB4 := hBq
              have t2 := total_any g k3 wr hBq
              rw [HL3.out] at t2
              have hw4 : Below w.heap.size w wr := hb3q
              have HW4 := Lib.hid hw4
              have HB4 := Lib.hid hB4
              have hqq : (sumTo k3.T x != sumTo k.T x + 0) = false := by simp [HQ.out]
              have hqw : 0 ≤ sumTo k.T x + 0 := by rw [← HQ.out]; exact hbx.1
              have hqv : sumTo k.T x + 0 ≤ x * 1099511627776 := by rw [← HQ.out]; exact hbx.2
              have hqr : (sumTo k3.T x != sumTo k.T x) = false := by have := HQ.out; simp [this]
              clear hBq hB4 hb3q hw4 hbq hbx'
              generalize sumTo k3.T x = s3 at *
              generalize hs0 : sumTo k.T x = s0 at *
              have HS0 := Lib.hid hs0
              clear hs0
              go_wp2_with (go_at_call 17; refine t2.mono ?_; rintro e w4 ⟨rfl, rfl⟩)
              go_roundw
              case rel => exact ⟨j + 1, k3, by omega, by go_num, HW4.out, HB4.out, HL3.out, HS3.out⟩
              case measure => simp [intOf]; omega
      · have hkk : (kd == 0) = false := by simp [hk]
        clear hk
        by_cases hz : giveC k lv n = 0
        · have hn0 := give_pos hz
          obtain ⟨n3, hn3⟩ : ∃ n3, n3 = -n := ⟨_, rfl⟩
          have HQ0 : Hid (sumTo (giveB k lv n).T k.L = sumTo k.T k.L + n3) := by subst hn3; exact give_sum hB.ok hz
          have c1 := give_any g k lv n wo hB
          have HL3 : Hid ((giveB k lv n).L = l0) := give_same.1.trans HL.out
          have HS3 : Hid (∀ t, nth (giveB k lv n).B t = nth xs t) := fun t => by rw [give_same.2]; exact HS.out t
          rw [hz] at c1
          clear hz hB
          generalize giveB k lv n = k3 at *
          have hn0' : 0 ≤ n := hn0
          subst hn3
          have HQ : Hid (sumTo k3.T l0 = sumTo k.T l0 + -n) := by have := HQ0.out; rw [HL.out] at this; exact this
          clear HQ0
          go_wp2_with (first | (go_at_call 17; refine t1.mono ?_; rintro e w1 ⟨rfl, rfl⟩) | (go_at_call 12; refine c1.mono ?_; rintro e w3 ⟨rfl, hE3, hB3⟩))
          clear t1 q1 q2 q3
          have hb3 : Below w.heap.size w w3 := Eff.below hbl hE3 hbl.size fun x hx => by subst hx; exact hg
          have HB3 := Lib.hid hb3
          have hbd3 := sumTo_bd hB3.ok
          have HBD := Lib.hid hbd3
          clear hb3 hbd3 hE3 hbl
          go_loopw [11, 12] (fun t i wr => ∃ x : Nat, x ≤ l0 ∧ i = .int .i64 x ∧ t = .int .i64 (sumTo k3.T x) ∧ Below w3.heap.size w3 wr ∧ Bk wr g k3) (fun _ i _ => l0 - (intOf i).toNat)
          case atStart => exact ⟨0, Nat.zero_le _, rfl, rfl, Below.refl _ _, hB3⟩
          case round =>
            clear hB3
            obtain ⟨x, hx, rfl, rfl, hbq, hBq⟩ := hrel
            have hbx := HBD.out x
            have hbx' := HBD.out (x + 1)
            have hb3q := HB3.out.trans (hbq.mono HB3.out.size)
            by_cases hxl : x < l0
            · have hcx := (hb3q.cell (p := ⟨b0, o0 + x, none⟩) hb0).trans (hc0 x hxl)
              have hin : x < k3.L := by rw [HL3.out]; exact hxl
              have c1 := taken_in g k3 x wr hBq hin
              have c2 := fun m => taken_in g k3 x _ (hBq.drewN m) hin
              have c3 := fun m => left_in g k3 x _ (hBq.drewN m) hin
              obtain ⟨i1, i2, i3⟩ := hBq.ok.inv x
              have HN3 : Hid (sumTo k3.T (x + 1) = sumTo k3.T x + nth k3.T x) := (rfl : sumTo k3.T (x + 1) = sumTo k3.T x + nth k3.T x)
              rw [HN3.out] at hbx'
              have hq3 : nth k3.T x + (nth k3.B x - nth k3.T x) = nth xs x := by rw [HS3.out x]; omega
              have HQ3 : Hid (nth k3.T x + (nth k3.B x - nth k3.T x) = nth xs x) := hq3
              have hqb : (nth k3.T x + (nth k3.B x - nth k3.T x) != nth xs x) = false := by simp [hq3]
              have hq4 : (0 : Int) ≤ (x : Int) := by omega
              have hq5 : (x : Int) < (l0 : Int) := by omega
              have hwr : ∀ m, Bk (wr.drewN m) g k3 ∧ Below w3.heap.size w3 (wr.drewN m) := fun m => ⟨hBq.drewN m, ⟨hbq.os, hbq.tape, hbq.output, hbq.size, hbq.block⟩⟩
              have HWR := Lib.hid hwr
              clear hq3 hbq hBq hb3q hwr
              generalize nth k3.T x = tx at *
              generalize nth k3.B x = bx at *
              generalize nth xs x = nx at *
              generalize hsx : sumTo k3.T x = sx at *
              have HSX := Lib.hid hsx
              clear hsx
              go_wp2_with (go_at_call 15; refine c1.mono ?_; rintro e w4 ⟨rfl, rfl⟩)
              go_quiet ((first | (go_at_call 15; exact quietly (c2 _)) | (go_at_call 16; exact quietly2 (c3 _))))
              go_wp2
              go_roundw
              case rel => exact ⟨x + 1, by omega, by go_num, by rw [HN3.out], (HWR.out _).2, (HWR.out _).1⟩
              case measure => simp [intOf]; omega
            · obtain rfl : x = l0 := by omega
              have hB4 := hBq
              have t2 := total_any g k3 wr hBq
              rw [HL3.out] at t2
              have hw4 : Below w.heap.size w wr := hb3q
              have HW4 := Lib.hid hw4
              have HB4 := Lib.hid hB4
              have hqq : (sumTo k3.T x != sumTo k.T x + -n) = false := by simp [HQ.out]
              have hqw : 0 ≤ sumTo k.T x + -n := by rw [← HQ.out]; exact hbx.1
              have hqv : sumTo k.T x + -n ≤ x * 1099511627776 := by rw [← HQ.out]; exact hbx.2
              clear hBq hB4 hb3q hw4 hbq hbx'
              generalize sumTo k3.T x = s3 at *
              generalize hs0 : sumTo k.T x = s0 at *
              have HS0 := Lib.hid hs0
              clear hs0
              go_wp2_with (go_at_call 17; refine t2.mono ?_; rintro e w4 ⟨rfl, rfl⟩)
              go_roundw
              case rel => exact ⟨j + 1, k3, by omega, by go_num, HW4.out, HB4.out, HL3.out, HS3.out⟩
              case measure => simp [intOf]; omega
        · obtain ⟨n3, hn3⟩ : ∃ n3 : Int, n3 = 0 := ⟨_, rfl⟩
          have HQ0 : Hid (sumTo (giveB k lv n).T k.L = sumTo k.T k.L + n3) := by subst hn3; rw [give_not hz]; show _ = _ + (0 : Int); omega
          have c1 := give_any g k lv n wo hB
          have HL3 : Hid ((giveB k lv n).L = l0) := give_same.1.trans HL.out
          have HS3 : Hid (∀ t, nth (giveB k lv n).B t = nth xs t) := fun t => by rw [give_same.2]; exact HS.out t
          have hz1 : (giveC k lv n != 0) = true := by simp [hz]
          have hz2 : (giveC k lv n == 0) = false := by simp [hz]
          clear hz hB
          generalize giveC k lv n = cd at *
          generalize giveB k lv n = k3 at *
          subst hn3
          have HQ : Hid (sumTo k3.T l0 = sumTo k.T l0 + 0) := by have := HQ0.out; rw [HL.out] at this; exact this
          clear HQ0
          go_wp2_with (first | (go_at_call 17; refine t1.mono ?_; rintro e w1 ⟨rfl, rfl⟩) | (go_at_call 12; refine c1.mono ?_; rintro e w3 ⟨rfl, hE3, hB3⟩))
          clear t1 q1 q2 q3
          have hb3 : Below w.heap.size w w3 := Eff.below hbl hE3 hbl.size fun x hx => by subst hx; exact hg
          have HB3 := Lib.hid hb3
          have hbd3 := sumTo_bd hB3.ok
          have HBD := Lib.hid hbd3
          clear hb3 hbd3 hE3 hbl
          go_loopw [11, 12] (fun t i wr => ∃ x : Nat, x ≤ l0 ∧ i = .int .i64 x ∧ t = .int .i64 (sumTo k3.T x) ∧ Below w3.heap.size w3 wr ∧ Bk wr g k3) (fun _ i _ => l0 - (intOf i).toNat)
          case atStart => exact ⟨0, Nat.zero_le _, rfl, rfl, Below.refl _ _, hB3⟩
          case round =>
            clear hB3
            obtain ⟨x, hx, rfl, rfl, hbq, hBq⟩ := hrel
            have hbx := HBD.out x
            have hbx' := HBD.out (x + 1)
            have hb3q := HB3.out.trans (hbq.mono HB3.out.size)
            by_cases hxl : x < l0
            · have hcx := (hb3q.cell (p := ⟨b0, o0 + x, none⟩) hb0).trans (hc0 x hxl)
              have hin : x < k3.L := by rw [HL3.out]; exact hxl
              have c1 := taken_in g k3 x wr hBq hin
              have c2 := fun m => taken_in g k3 x _ (hBq.drewN m) hin
              have c3 := fun m => left_in g k3 x _ (hBq.drewN m) hin
              obtain ⟨i1, i2, i3⟩ := hBq.ok.inv x
              have HN3 : Hid (sumTo k3.T (x + 1) = sumTo k3.T x + nth k3.T x) := (rfl : sumTo k3.T (x + 1) = sumTo k3.T x + nth k3.T x)
              rw [HN3.out] at hbx'
              have hq3 : nth k3.T x + (nth k3.B x - nth k3.T x) = nth xs x := by rw [HS3.out x]; omega
              have HQ3 : Hid (nth k3.T x + (nth k3.B x - nth k3.T x) = nth xs x) := hq3
              have hqb : (nth k3.T x + (nth k3.B x - nth k3.T x) != nth xs x) = false := by simp [hq3]
              have hq4 : (0 : Int) ≤ (x : Int) := by omega
              have hq5 : (x : Int) < (l0 : Int) := by omega
              have hwr : ∀ m, Bk (wr.drewN m) g k3 ∧ Below w3.heap.size w3 (wr.drewN m) := fun m => ⟨hBq.drewN m, ⟨hbq.os, hbq.tape, hbq.output, hbq.size, hbq.block⟩⟩
              have HWR := Lib.hid hwr
              clear hq3 hbq hBq hb3q hwr
              generalize nth k3.T x = tx at *
              generalize nth k3.B x = bx at *
              generalize nth xs x = nx at *
              generalize hsx : sumTo k3.T x = sx at *
              have HSX := Lib.hid hsx
              clear hsx
              go_wp2_with (go_at_call 15; refine c1.mono ?_; rintro e w4 ⟨rfl, rfl⟩)
              go_quiet ((first | (go_at_call 15; exact quietly (c2 _)) | (go_at_call 16; exact quietly2 (c3 _))))
              go_wp2
              go_roundw
              case rel => exact ⟨x + 1, by omega, by go_num, by rw [HN3.out], (HWR.out _).2, (HWR.out _).1⟩
              case measure => simp [intOf]; omega
            · obtain rfl : x = l0 := by omega
              have hB4 := hBq
              have t2 := total_any g k3 wr hBq
              rw [HL3.out] at t2
              have hw4 : Below w.heap.size w wr := hb3q
              have HW4 := Lib.hid hw4
              have HB4 := Lib.hid hB4
              have hqq : (sumTo k3.T x != sumTo k.T x + 0) = false := by simp [HQ.out]
              have hqw : 0 ≤ sumTo k.T x + 0 := by rw [← HQ.out]; exact hbx.1
              have hqv : sumTo k.T x + 0 ≤ x * 1099511627776 := by rw [← HQ.out]; exact hbx.2
              have hqr : (sumTo k3.T x != sumTo k.T x) = false := by have := HQ.out; simp [this]
              clear hBq hB4 hb3q hw4 hbq hbx'
              generalize sumTo k3.T x = s3 at *
              generalize hs0 : sumTo k.T x = s0 at *
              have HS0 := Lib.hid hs0
              clear hs0
              go_wp2_with (go_at_call 17; refine t2.mono ?_; rintro e w4 ⟨rfl, rfl⟩)
              go_roundw
              case rel => exact ⟨j + 1, k3, by omega, by go_num, HW4.out, HB4.out, HL3.out, HS3.out⟩
              case measure => simp [intOf]; omega
    · obtain rfl : j = l1 := by omega
      clear hB
      go_wp2
      go_ret
      exact ⟨rfl, hbl⟩
end Go.Proofs.Ytoekcknppphnjaa
