/- Package sector's law folder: SectorApart's walk. -/
import Derived.Test.YtolkofnlihbncaaSectorF
set_option linter.unusedVariables false
set_option linter.unusedSimpArgs false
namespace Go.Proofs.Ytolkofnlihbncaa
open Go.RowKit
theorem putAt_get (d x : List UInt8) (o m : Nat) (h : o + x.length ≤ d.length) : (putAt d o x)[m]? = if m < o then d[m]? else if m < o + x.length then x[m - o]? else d[m]? := by
  unfold putAt
  rw [List.getElem?_append, List.getElem?_append]
  simp only [List.length_append, List.length_take, List.getElem?_take, List.getElem?_drop]
  rw [show min o d.length = o by omega]
  by_cases h1 : m < o
  · rw [if_pos (by omega), if_pos h1, if_pos h1, if_pos h1]
  · by_cases h2 : m < o + x.length
    · rw [if_pos h2, if_neg h1, if_neg h1, if_pos h2]
    · rw [if_neg h2, if_neg h1, if_neg h2]
      congr 1; omega
theorem sec_put {k k' : Dk} (hk : k.Ok) {a : Nat} (ha : a < k.n) {x : List UInt8} (hx : x.length = 64) (h1 : k'.n = k.n) (h2 : k'.data = putAt k.data (a * 64) x) {i : Nat} (hi : i < k.n) :
    sec k' i = if i = a then x else sec k i := by
  have hlen := hk.len
  have hfit : a * 64 + x.length ≤ k.data.length := by omega
  refine List.ext_getElem? fun j => ?_
  by_cases hj : j < 64
  · have e1 : (sec k' i)[j]? = k'.data[i * 64 + j]? := by simp [sec, List.getElem?_take, hj]
    rw [e1, h2, putAt_get _ _ _ _ hfit]
    by_cases e : i = a
    · subst e
      rw [if_pos rfl, if_neg (by omega), if_pos (by omega)]
      congr 1; omega
    · rw [if_neg e, sec_get hk hi hj]
      by_cases hlt : i < a
      · rw [if_pos (by omega)]
      · rw [if_neg (by omega), if_neg (by omega)]
  · have l1 : (sec k' i)[j]? = none := by simp [sec, List.getElem?_take, hj]
    rw [l1]
    split
    · rw [List.getElem?_eq_none (by omega)]
    · simp [sec, List.getElem?_take, hj]
/-- A disk that is never cut: between writes. -/
structure Calm (k : Dk) (m : Int) : Prop where
  n : k.n = 8
  cut : k.cut = 0
  down : k.down = false
  since : 0 ≤ k.since ∧ k.since ≤ m
  all : 0 ≤ k.all ∧ k.all ≤ m
theorem Calm.miss {k : Dk} {m : Int} (h : Calm k m) : k.cut ≠ k.since + 1 := by have := h.cut; have := h.since; omega
theorem Calm.wrote {k : Dk} {m : Int} (h : Calm k m) (i : Nat) (s : List UInt8) : Calm (wroteK k i s) (m + 1) := by
  rw [wroteK_miss h.miss]
  have := h.since; have := h.all
  exact ⟨h.n, h.cut, h.down, ⟨by show 0 ≤ k.since + 1; omega, by show k.since + 1 ≤ _; omega⟩, ⟨by show 0 ≤ k.all + 1; omega, by show k.all + 1 ≤ _; omega⟩⟩
theorem Calm.write {k : Dk} {m : Int} (h : Calm k m) (i : Int) (s : List UInt8) : Calm (writeK k i s) (m + 1) := by
  unfold writeK
  split
  · exact h.wrote _ _
  · exact ⟨h.n, h.cut, h.down, ⟨h.since.1, by have := h.since; omega⟩, ⟨h.all.1, by have := h.all; omega⟩⟩
/-- The variable that keeps eight sectors: the first j of them are read. -/
def Kept (w : World) (b : Nat) (f : Nat → ByteArray) (j : Nat) : Prop := ∃ cs : List Value, cs.length = 8 ∧ w.heap[b]? = some (.cells cs.toArray 31 (0, 0)) ∧ ∀ i, i < j → cs[i]? = some (.string (f i))
theorem Kept.cell {w : World} {b : Nat} {f : Nat → ByteArray} {j : Nat} (h : Kept w b f j) {i : Nat} (hi : i < j) : w.cell? ⟨b, i, none⟩ = some (.string (f i)) := by
  obtain ⟨cs, _, hh, hc⟩ := h
  rw [cell_of_row _ _ _ _ _ _ hh, List.getElem?_toArray, hc i hi]
theorem Kept.some {w : World} {b : Nat} {f : Nat → ByteArray} {j : Nat} (h : Kept w b f j) {i : Nat} (hi : i < 8) : ∃ v, w.cell? ⟨b, i, none⟩ = some v := by
  obtain ⟨cs, hl, hh, _⟩ := h
  exact ⟨cs[i], by rw [cell_of_row _ _ _ _ _ _ hh, List.getElem?_toArray, List.getElem?_eq_getElem]⟩
theorem Kept.free {w : World} {b : Nat} {f : Nat → ByteArray} {j : Nat} (h : Kept w b f j) (i : Nat) : w.frozen? ⟨b, i, none⟩ = false := by
  obtain ⟨cs, hl, hh, _⟩ := h
  exact frozen_of_row _ _ _ _ _ hh
theorem Kept.store {w : World} {b : Nat} {f : Nat → ByteArray} {j : Nat} (h : Kept w b f j) (hj : j < 8) : Kept (w.setCell ⟨b, j, none⟩ (.string (f j))) b f (j + 1) := by
  obtain ⟨cs, hl, hh, hc⟩ := h
  refine ⟨cs.set j (.string (f j)), by simp [hl], by rw [setCell_heap hh, List.setIfInBounds_toArray], fun i hi => ?_⟩
  rw [List.getElem?_set]
  by_cases e : j = i
  · subst e; simp [hl, hj]
  · rw [if_neg e]; exact hc i (by omega)
theorem Kept.eff {w w' : World} {b : Nat} {f : Nat → ByteArray} {j : Nat} (h : Kept w b f j) {S : Nat → Prop} (he : Eff S w w') (hn : ¬ S b) : Kept w' b f j := by
  obtain ⟨cs, hl, hh, hc⟩ := h
  exact ⟨cs, hl, he.heap hh hn, hc⟩
def secS (k : Dk) (i : Nat) : ByteArray := ⟨(sec k i).toArray⟩
theorem fill_pre (d fs : ByteArray) (h : fs = ⟨(fill d.data.toList).toArray⟩) : fs.extract 0 d.size = d := by
  subst h
  apply ByteArray.ext
  apply Array.ext'
  have hd : d.data.toList.length = d.size := by rw [Array.length_toList]; rfl
  simp [fill, hd]
theorem fill_zero (d fs : ByteArray) (h : fs = ⟨(fill d.data.toList).toArray⟩) : ∀ y, d.size ≤ y → ∀ hy : y < fs.size, ((fs[y]'hy).toNat : Int) = 0 := by
  subst h
  intro y hy hlt
  have hd : d.data.toList.length = d.size := by rw [Array.length_toList]; rfl
  have hsz : (⟨(fill d.data.toList).toArray⟩ : ByteArray).size = (fill d.data.toList).length := by show (fill d.data.toList).toArray.size = _; rw [List.size_toArray]
  have hl : y < (fill d.data.toList).length := by rw [← hsz]; exact hlt
  have e : (⟨(fill d.data.toList).toArray⟩ : ByteArray)[y]'hlt = (fill d.data.toList)[y]'hl := rfl
  rw [e]
  have : (fill d.data.toList)[y]? = some 0 := by
    unfold fill at hl ⊢
    rw [List.getElem?_append_right (by omega), List.getElem?_replicate, if_pos (by simp at hl; omega)]
  rw [List.getElem?_eq_getElem hl] at this
  simp only [Option.some.injEq] at this
  rw [this]; rfl
set_option maxRecDepth 100000 in
set_option maxHeartbeats 4000000 in
theorem apart_law (A : Option Addr) (l c : Nat) (ys : List Act) (a : Nat) (d : ByteArray) (w : World) (h1 : ActsAt w A l ys) (hf : Fewish ys) (ha : a < 8) (hd : d.size ≤ 64) :
    Calls Try.prog 4 #[.slice A l c, .int .i64 a, .string d] w fun e w' => e = .returned (.bool true) ∧ Below w.heap.size w w' := by
  have hl : l ≤ 200 := by rw [← h1.len]; exact hf.1
  have haw := awake_any w
  have H1 := Lib.hid h1
  have HF := Lib.hid hf
  clear h1 hf
  go_enter Try.func4, Try.ntmps4
  go_wp2_with fail
  refine haw.mono ?_
  rintro e w1 ⟨rfl, hb1⟩
  go_wp2_with fail
  refine (few_true A l c ys w1 (H1.out.below hb1) HF.out).mono ?_
  rintro e _ ⟨rfl, rfl⟩
  go_wp2_with fail
  refine (new_in 8 w1 (by decide) (by decide)).mono ?_
  rintro e w2 ⟨rfl, hb2, hk⟩
  obtain ⟨g, hg⟩ : ∃ g, g = w1.heap.size + 1 := ⟨_, rfl⟩
  rw [← hg] at hk ⊢
  have hDw : w.heap.size ≤ w1.heap.size := hb1.size
  have hgw : w.heap.size ≤ g := by omega
  have HB : Hid (Below w.heap.size w w2) := hb1.trans (hb2.mono hb1.size)
  have HC0 : Hid (Calm (newK 8) 0) := ⟨rfl, rfl, rfl, ⟨by decide, by decide⟩, ⟨by decide, by decide⟩⟩
  generalize w1.heap.size = D at *
  generalize newK 8 = k0 at *
  clear hg haw hb1 hb2
  go_wp2
  go_loopw [9] (fun i wr => ∃ (j : Nat) (k : Dk), j ≤ l ∧ i = .int .i64 j ∧ Below w.heap.size w wr ∧ DkAt wr g D (8 * 64) [] k ∧ Calm k j) (fun i _ => l - (intOf i).toNat)
  case atStart => exact ⟨0, k0, Nat.zero_le _, rfl, HB.out, hk, HC0.out⟩
  case round =>
    clear HB hk HC0
    obtain ⟨j, k, hj, rfl, hbl, hk, hcm⟩ := hrel
    have HCM := Lib.hid hcm
    clear hcm
    by_cases hlt : j < l
    · obtain ⟨b1, o1, rfl, hc1⟩ := H1.out.cells (by omega)
      obtain ⟨q1, q2, q3, _, _⟩ := act_cells hbl (hc1 j hlt)
      have hsz := (hc1 j hlt).1.s
      have hj1 : (0 : Int) ≤ (j : Int) := by omega
      have hj2 : (j : Int) < (l : Int) := by omega
      clear hc1
      generalize act ys j = ac at *
      obtain ⟨kd, at0, dd, ca, ct⟩ := ac
      simp only at q1 q2 q3 hsz
      by_cases hkd : kd = 0
      · subst hkd
        obtain ⟨s1, s2⟩ := HCM.out.since
        obtain ⟨a1, a2⟩ := HCM.out.all
        have c1 := write_any g D (8 * 64) [] k at0 dd wr.drew ⟨hk.ok, hk.cap, hk.mem, hk.dat⟩ hsz s1 (by omega) a1 (by omega)
        have HS : Hid (∀ w3, Eff (fun b => b = g ∨ b = D) wr.drew w3 → Below w.heap.size w w3) := fun w3 hE => dk_below hbl.drew hE hgw hDw
        have HW : Hid (Calm (writeK k at0 dd.data.toList) ((j : Int) + 1)) := HCM.out.write _ _
        clear hk hbl s1 s2 a1 a2 hsz
        generalize writeK k at0 dd.data.toList = k2 at *
        generalize writeC k at0 dd.data.toList = cd at *
        go_wp2
        go_still_tail 11, (by kernel_rfl)
        change wpList _ _ _ _ _ wr.drew
        go_wp2_with (go_at_call 12; refine c1.mono ?_; rintro e w3 ⟨rfl, hE3, hk3⟩)
        go_roundw
        case rel => exact ⟨j + 1, k2, by omega, by go_num, HS.out _ hE3, hk3, by have := HW.out; rwa [Int.natCast_add]⟩
        case measure => simp [intOf]; omega
      · have hkk : (kd == 0) = false := by simp [hkd]
        clear hkd
        go_wp2
        go_roundw
        case rel => exact ⟨j + 1, k, by omega, by go_num, hbl, hk, ⟨HCM.out.n, HCM.out.cut, HCM.out.down, ⟨HCM.out.since.1, by have := HCM.out.since; omega⟩, ⟨HCM.out.all.1, by have := HCM.out.all; omega⟩⟩⟩
        case measure => simp [intOf]; omega
    · obtain rfl : j = l := by omega
      have hbk : Below w.heap.size w wr := hbl
      have HK := Lib.hid hk
      have HB := Lib.hid hbl
      clear hk hbl hbk
      obtain ⟨w3, hw3⟩ : ∃ x : World, x = wr := ⟨_, rfl⟩
      subst hw3
      have hg3 : g < w3.heap.size := lt_of_block HK.out.mem
      have hD3 : D < w3.heap.size := lt_of_block HK.out.dat
      go_wp2
      have hk0 : DkAt (w3.alloc (.cells #[.string ⟨#[]⟩, .string ⟨#[]⟩, .string ⟨#[]⟩, .string ⟨#[]⟩, .string ⟨#[]⟩, .string ⟨#[]⟩, .string ⟨#[]⟩, .string ⟨#[]⟩] 31)) g D (8 * 64) [] k := HK.out.below ((Below.refl _ _).alloc (Nat.le_refl _) _)
      have hb0 : Below w.heap.size w (w3.alloc (.cells #[.string ⟨#[]⟩, .string ⟨#[]⟩, .string ⟨#[]⟩, .string ⟨#[]⟩, .string ⟨#[]⟩, .string ⟨#[]⟩, .string ⟨#[]⟩, .string ⟨#[]⟩] 31)) := HB.out.alloc HB.out.size _
      have hq0 : Kept (w3.alloc (.cells #[.string ⟨#[]⟩, .string ⟨#[]⟩, .string ⟨#[]⟩, .string ⟨#[]⟩, .string ⟨#[]⟩, .string ⟨#[]⟩, .string ⟨#[]⟩, .string ⟨#[]⟩] 31)) w3.heap.size (secS k) 0 := ⟨_, rfl, heap_alloc_new _ _, fun i hi => absurd hi (by omega)⟩
      have H0 := Lib.hid (And.intro hk0 (And.intro hb0 hq0))
      have hw3 : w.heap.size ≤ w3.heap.size := HB.out.size
      clear hk0 hb0 hq0 HK HB
      generalize w3.heap.size = B8 at *
      go_loopw [11] (fun i wr => ∃ x : Nat, x ≤ 8 ∧ i = .int .i64 x ∧ Below w.heap.size w wr ∧ DkAt wr g D (8 * 64) [] k ∧ Kept wr B8 (secS k) x) (fun i _ => 8 - (intOf i).toNat)
      case atStart => exact ⟨0, by decide, rfl, H0.out.2.1, H0.out.1, H0.out.2.2⟩
      case round =>
        clear H0
        obtain ⟨x, hx, rfl, hbl, hk, hq⟩ := hrel
        have hkn := HCM.out.n
        have hkd := HCM.out.down
        by_cases hxl : x < 8
        · have c1 := read_in g D (8 * 64) [] k x wr hk hkd (by omega)
          obtain ⟨v0, hv0⟩ := hq.some hxl
          have hfr := hq.free x
          have hx1 : (0 : Int) ≤ (x : Int) := by omega
          have hx2 : (x : Int) < 8 := by omega
          have hst : Below w.heap.size w (wr.setCell ⟨B8, x, none⟩ (.string (secS k x))) ∧ DkAt (wr.setCell ⟨B8, x, none⟩ (.string (secS k x))) g D (8 * 64) [] k ∧ Kept (wr.setCell ⟨B8, x, none⟩ (.string (secS k x))) B8 (secS k) (x + 1) :=
            ⟨hbl.setCell hw3 _, hk.keep (Eff.setAt (Eff.refl (· = B8) _) x _) (by omega) (by omega), hq.store hxl⟩
          have HS := Lib.hid hst
          have HE : Hid (⟨(sec k x).toArray⟩ = secS k x) := (rfl : (⟨(sec k x).toArray⟩ : ByteArray) = secS k x)
          rw [HE.out] at c1
          clear hst hk hq hbl hkn hkd HE
          generalize secS k x = sx at *
          go_wp2_with (go_at_call 10; refine c1.mono ?_; rintro e w4 ⟨rfl, rfl⟩)
          go_roundw
          case rel => exact ⟨x + 1, by omega, by go_num, HS.out.1, HS.out.2.1, HS.out.2.2⟩
          case measure => simp [intOf]; omega
        · obtain rfl : x = 8 := by omega
          obtain ⟨s1, s2⟩ := HCM.out.since
          obtain ⟨a1, a2⟩ := HCM.out.all
          have c1 := writes_any g D (8 * 64) [] k wr hk
          have c2 := write_in g D (8 * 64) [] k a d wr hk hkd (by omega) hd s1 (by omega) a1 (by omega)
          rw [wroteC_miss HCM.out.miss] at c2
          have hall : (wroteK k a d.data.toList).all = k.all + 1 := by rw [wroteK_miss HCM.out.miss]
          have hok := hk.ok
          have hcalm := HCM.out.wrote a d.data.toList
          have hdl : d.data.toList.length = d.size := by rw [Array.length_toList]; rfl
          have hsec : ∀ i, i < 8 → sec (wroteK k a d.data.toList) i = if i = a then fill d.data.toList else sec k i := fun i hi =>
            sec_put hok (by omega) (fill_len (by omega)) (by rw [wroteK_miss HCM.out.miss]) (by rw [wroteK_miss HCM.out.miss]) (by omega)
          have HQ : Hid (Kept wr B8 (secS k) 8) := hq
          have HBL := Lib.hid hbl
          have HSEC := Lib.hid hsec
          have HCALM := Lib.hid hcalm
          have HALL := Lib.hid hall
          clear hk hq hbl hkn hkd hok hcalm hsec hall s1 s2
          generalize wroteK k a d.data.toList = k2 at *
          generalize k.all = al at *
          go_wp2_with (go_at_call 15; refine c1.mono ?_; rintro e w4 ⟨rfl, rfl⟩)
          refine c2.mono ?_
          rintro e w4 ⟨rfl, hE, hk4⟩
          have c3 := writes_any g D (8 * 64) [] k2 w4 hk4
          rw [HALL.out] at c3
          have hb4 : Below w.heap.size w w4 := dk_below HBL.out hE hgw hDw
          have hq4 : Kept w4 B8 (secS k) 8 := HQ.out.eff hE (by omega)
          have H4 := Lib.hid (And.intro hb4 (And.intro hk4 hq4))
          clear hE hk4 hb4 hq4 c1 c2 HQ HBL
          go_wp2_with fail
          refine c3.mono ?_
          rintro e w5 ⟨rfl, rfl⟩
          clear c3
          go_wp2
          go_loopw [13] (fun i wr => ∃ x : Nat, x ≤ 8 ∧ i = .int .i64 x ∧ Below w.heap.size w wr ∧ DkAt wr g D (8 * 64) [] k2 ∧ Kept wr B8 (secS k) 8) (fun i _ => 8 - (intOf i).toNat)
          case atStart => exact ⟨0, by decide, rfl, H4.out.1, H4.out.2.1, H4.out.2.2⟩
          case round =>
            clear H4
            obtain ⟨x, hx, rfl, hbl, hk, hq⟩ := hrel
            by_cases hxl : x < 8
            · have c1 := read_in g D (8 * 64) [] k2 x wr hk HCALM.out.down (by rw [HCALM.out.n]; exact hxl)
              have hs64 : (sec k2 x).length = 64 := sec_len hk.ok (by rw [HCALM.out.n]; exact hxl)
              have hcx := hq.cell hxl
              have hx1 : (0 : Int) ≤ (x : Int) := by omega
              have hx2 : (x : Int) < 8 := by omega
              have H5 := Lib.hid (And.intro hbl (And.intro hk hq))
              clear hbl hk hq
              by_cases hxa : x = a
              · subst hxa
                have hse := HSEC.out x hxl
                rw [if_pos rfl] at hse
                rw [hse] at c1 hs64
                have hfs : (⟨(fill d.data.toList).toArray⟩ : ByteArray).size = 64 := by show (fill d.data.toList).toArray.size = 64; rw [List.size_toArray]; exact hs64
                obtain ⟨fs, hfs2⟩ : ∃ fs : ByteArray, fs = ⟨(fill d.data.toList).toArray⟩ := ⟨_, rfl⟩
                rw [← hfs2] at c1 hfs
                have HFS := Lib.hid hfs2
                clear hfs2 hse hs64
                generalize secS k x = sx at *
                have hpre := fill_pre d fs HFS.out
                have hpre1 : ((fs.extract 0 d.size).toList == d.toList) = true := by rw [hpre]; simp
                have hby := fill_zero d fs HFS.out
                have HBY := Lib.hid hby
                clear hpre hby
                go_wp2_with (go_at_call 10; refine c1.mono ?_; rintro e w4 ⟨rfl, rfl⟩)
                clear hpre1 c1
                go_loop [16] (fun i => ∃ y : Nat, d.size ≤ y ∧ y ≤ 64 ∧ i = .int .i64 y) (fun i => 64 - (intOf i).toNat)
                case atStart => exact ⟨d.size, Nat.le_refl _, hd, rfl⟩
                case round =>
                  obtain ⟨y, hy1, hy2, rfl⟩ := hrel
                  by_cases hyl : y < 64
                  · have hb0 : ∀ h : y < fs.size, ((fs[y]'h).toNat : Int) = 0 := fun h => HBY.out y hy1 h
                    have hy3 : (0 : Int) ≤ (y : Int) := by omega
                    have hy4 : y < fs.size := by omega
                    go_wp2
                    go_round
                    case rel => exact ⟨y + 1, by omega, by omega, by go_num⟩
                    case measure => simp [intOf]; omega
                  · obtain rfl : y = 64 := by omega
                    go_wp2
                    go_roundw
                    case rel => exact ⟨x + 1, by omega, by go_num, H5.out.1, H5.out.2.1, H5.out.2.2⟩
                    case measure => simp [intOf]; omega
              · have hse := HSEC.out x hxl
                rw [if_neg hxa] at hse
                rw [hse] at c1 hs64
                have hfs : (secS k x).size = 64 := by show (sec k x).toArray.size = 64; rw [List.size_toArray]; exact hs64
                have HE : Hid (⟨(sec k x).toArray⟩ = secS k x) := (rfl : (⟨(sec k x).toArray⟩ : ByteArray) = secS k x)
                rw [HE.out] at c1
                have hxa1 : ((x : Int) == (a : Int)) = false := by simp; omega
                have hxa2 : ((x : Int) != (a : Int)) = true := by simp; omega
                clear hse hs64 HE hxa
                generalize secS k x = sx at *
                go_wp2_with (go_at_call 10; refine c1.mono ?_; rintro e w4 ⟨rfl, rfl⟩)
                clear c1
                refine wp_loop_rounds 1 ?_
                rw [rounds_succ]
                go_wp2
                go_roundw
                case rel => exact ⟨x + 1, by omega, by go_num, H5.out.1, H5.out.2.1, H5.out.2.2⟩
                case measure => simp [intOf]; omega
            · obtain rfl : x = 8 := by omega
              clear hk hq
              go_wp2
              go_ret
              exact ⟨rfl, hbl⟩
end Go.Proofs.Ytolkofnlihbncaa
