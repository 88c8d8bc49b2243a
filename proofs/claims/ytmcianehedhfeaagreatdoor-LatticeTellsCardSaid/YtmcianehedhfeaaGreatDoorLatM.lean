/- Package lattice: a label's text. -/
import Derived.Test.YtmcianehedhfeaaGreatDoorLatL
import Derived.Lib.Join
import Derived.Laws.ShiftsVarLaws
set_option linter.unusedVariables false
set_option linter.unusedSimpArgs false
namespace Go.Proofs.YtmcianehedhfeaaGreatDoor
open Go.RowKit
theorem jn_join : ∀ l : List Bs, Lib.join l [47] = jn l
  | [] => rfl
  | [a] => Lib.join_one a [47]
  | a :: b :: r => by
    have ih := jn_join (b :: r)
    rw [Lib.join_cons] at ih ⊢
    rw [jn, ← ih]
    simp [Lib.joinTail]
theorem jn_len : ∀ l : List Bs, (∀ x ∈ l, x.length ≤ 16) → (jn l).length ≤ 17 * l.length
  | [], _ => by simp [jn]
  | [a], h => by have := h a List.mem_cons_self; simp [jn]; omega
  | a :: b :: r, h => by
    have ih := jn_len (b :: r) fun x hx => h x (List.mem_cons_of_mem _ hx)
    have := h a List.mem_cons_self
    rw [jn, List.length_append, List.length_cons, List.length_cons (a := a)]
    omega
theorem selF_map {α β : Type} (f : α → β) : ∀ (l : List α) (m : Nat), selF (l.map f) m = (selF l m).map f
  | [], _ => rfl
  | c :: r, m => by
    have ih := selF_map f r (m / 2)
    rw [List.map_cons, selF, selF, ih]
    split <;> simp
theorem tl_eq {l : List Bs} (h : l ≠ []) : tl l = [47, 47] ++ jn l := by
  unfold tl; rw [if_neg h, ← jn_fl h]; rfl
theorem bit_and (m k : Nat) (hm : m < M64) : bits BinOp.and IntKind.u64 ((m : Int) / 2 ^ k) 1 = ((m / 2 ^ k % 2 : Nat) : Int) := by
  have e : (m : Int) / 2 ^ k = ((m / 2 ^ k : Nat) : Int) := by rw [Int.natCast_ediv, Int.natCast_pow]; rfl
  rw [e]
  have h1 : m / 2 ^ k < M64 := Nat.lt_of_le_of_lt (Nat.div_le_self _ _) hm
  rw [show (1 : Int) = ((1 : Nat) : Int) from rfl, u64_and_nat _ 1 h1 (by decide), nat_mask1]
theorem cat3 (s : ByteArray) (l : Bs) : s ++ ((⟨#[47, 47]⟩ : ByteArray) ++ ⟨l.toArray⟩) = ⟨(s.data.toList ++ ([47, 47] ++ l)).toArray⟩ := by
  apply ByteArray.ext
  apply Array.ext'
  simp
set_option maxRecDepth 100000 in
set_option maxHeartbeats 4000000 in
theorem text_any (g : Nat) (lv cp : List ByteArray) (a m : Nat) (cnt : Int) (w : World) (h : NmAt w g lv cp cnt) (ha : a < lv.length) (hm : m < M64) :
    Calls Tryz.prog 33 #[.pointer (some ⟨g, 0, none⟩), labV a m] w fun e w' => e = .returned (.string ⟨(ltxt (nms lv) (nms cp) a m).toArray⟩) ∧ Below w.heap.size w w' := by
  have hok := h.ok
  have l2 := hok.c64
  have l1 := hok.l16
  rw [nms_len] at l1 l2
  obtain ⟨R, hR⟩ : ∃ R, R = ltxt (nms lv) (nms cp) a m := ⟨_, rfl⟩
  rw [← hR]
  obtain ⟨v1, v2, s1, s2, hcell⟩ : ∃ v1 v2, SlIn w v1 lv ∧ SlIn w v2 cp ∧ (w.cell? ⟨g, 0, none⟩ = some v1 ∧ w.cell? ⟨g, 1, none⟩ = some v2) := by
    obtain ⟨v1, v2, s1, s2, hh⟩ := h.at_
    rcases hh with hh | ⟨b1, b2, n1, n2, h3, _⟩
    · exact ⟨v1, v2, s1.1, s2.1, hh.cells.1, hh.cells.2.1⟩
    · exact ⟨v1, v2, s1.1, s2.1, h3.cells.1, h3.cells.2.1⟩
  obtain ⟨A, c, rfl, hA, hA0⟩ := s1
  obtain ⟨B, q, rfl, hB, hB0⟩ := s2
  have hRe : R = (str lv a).data.toList ++ tl (nms (selF cp m)) := hR.trans (by
    rw [ltxt_eq (by rw [nms_len]; exact ha), nms_get ha]
    unfold nms str
    rw [selF_map, List.getD_eq_getElem?_getD, List.getElem?_eq_getElem ha]; rfl)
  obtain ⟨n, hnn⟩ : ∃ n, n = lv.length := ⟨_, rfl⟩
  obtain ⟨k, hkk⟩ : ∃ k, k = cp.length := ⟨_, rfl⟩
  rw [← hnn] at hcell hA ha l1
  rw [← hkk] at hcell hB l2
  have hb1 : Below w.heap.size w (w.alloc (.cells #[.int .i64 (a : Int), .int .u64 (m : Int)] 27 (0, 0))) := (Below.refl _ w).alloc (Nat.le_refl _) _
  have hg1 := heap_alloc_new w (.cells #[.int .i64 (a : Int), .int .u64 (m : Int)] 27 (0, 0))
  have e0 : (w.alloc (.cells #[.int .i64 (a : Int), .int .u64 (m : Int)] 27 (0, 0))).cell? ⟨g, 1, none⟩ = some (.slice B k q) := (hb1.cell (p := ⟨g, 1, none⟩) (World.block_lt_of_cell? _ _ hcell.2)).trans hcell.2
  have hk0 : (0 : Int) ≤ (k : Int) := by omega
  have hk64 : (k : Int) ≤ 64 := by omega
  have hwl : w.heap.size < (w.alloc (.cells #[.int .i64 (a : Int), .int .u64 (m : Int)] 27 (0, 0))).heap.size := lt_of_block hg1
  have H := Lib.hid (And.intro hA (And.intro hB (And.intro hcell (And.intro hRe (And.intro hok (And.intro hnn hkk))))))
  have HB := Lib.hid (And.intro hb1 hg1)
  clear hA hB hcell hR hRe hok h hA0 hB0 hnn hkk hb1 hg1
  unfold labV
  go_enter Tryz.func33, Tryz.ntmps33
  go_wp2
  generalize w.alloc (.cells #[.int .i64 (a : Int), .int .u64 (m : Int)] 27 (0, 0)) = w1 at *
  go_loopw [5, 15] (fun v i wr => ∃ j : Nat, j ≤ k ∧ i = .int .i64 j ∧ SSo wr w1.heap.size v (selF (cp.take j) m) ∧ Below w1.heap.size w1 wr) (fun _ i _ => k - (intOf i).toNat)
  case atStart => exact ⟨0, Nat.zero_le _, rfl, SSo.nil _ _, Below.refl _ _⟩
  case round =>
    obtain ⟨j, hj, rfl, hown, hbl⟩ := hrel
    obtain ⟨hA, hB, hcell, hRe, hok, hnn, hkk⟩ := H.out
    obtain ⟨hb1, hg1⟩ := HB.out
    have hj0 : (0 : Int) ≤ (j : Int) := by omega
    have hlab := (hbl.block _ (lt_of_block hg1)).trans hg1
    have hw1b := hb1.trans (hbl.mono hb1.size)
    by_cases hjk : j < k
    · have hji : (j : Int) < (k : Int) := by omega
      have hjl : j < cp.length := by omega
      have hBr := hB.below hw1b
      obtain ⟨b, off, rfl, hc⟩ := hBr.cells (by omega)
      have hcj := hc j hjk
      have hx : str cp j = cp[j] := by unfold str; rw [List.getD_eq_getElem?_getD, List.getElem?_eq_getElem hjl]; rfl
      have hlc : wr.cell? ⟨w.heap.size, 1, none⟩ = some (.int .u64 (m : Int)) := by rw [cell_of_row _ _ _ _ _ _ hlab]; rfl
      have hbit := bit_and m j hm
      have hm0 : (0 : Int) ≤ (m : Int) := by omega
      have hsel := selF_take cp m j hjl
      rw [← hx] at hsel
      have hj64 : (j : Int) ≤ 64 := by omega
      generalize str cp j = x at *
      have hlen := selF_len (cp.take j) m
      rw [List.length_take] at hlen
      have hol : (selF (cp.take j) m).length + 1 ≤ 1000000000000 := by omega
      have hsz : w1.heap.size ≤ wr.heap.size := hbl.size
      by_cases hb : m / 2 ^ j % 2 = 1
      · rw [if_pos hb] at hsel
        have hbit1 : bits BinOp.and IntKind.u64 ((m : Int) / 2 ^ j) 1 = 1 := by rw [hbit, hb]; rfl
        have HN := Lib.hid (And.intro hsel hbl)
        have HO := Lib.hid hown
        clear hA hB hcell hRe hok hnn hkk hb1 hg1 hlab hw1b hBr hc hx hsel hbl hlen hb hjl H HB hbit hown
        go_wp2_with (at_builtin; refine wp_appstr rfl (.tmp 26) (.tmp 28) rfl w1.heap.size _ _ rfl x HO.out rfl hol hsz ?_)
        intro v' w' hown' hb'
        have HF := Lib.hid (And.intro (HN.out.1.symm ▸ hown' : SSo w' w1.heap.size v' (selF (cp.take (j + 1)) m)) (HN.out.2.trans hb'))
        clear hown' hb' HO HN
        go_wp2
        go_roundw
        case rel => exact ⟨j + 1, by omega, by go_num, HF.out.1, HF.out.2⟩
        case measure => simp [intOf]; omega
      · rw [if_neg hb, List.append_nil] at hsel
        have hbit1 : bits BinOp.and IntKind.u64 ((m : Int) / 2 ^ j) 1 = 0 := by rw [hbit, show m / 2 ^ j % 2 = 0 by omega]; rfl
        have HF := Lib.hid (And.intro (hsel.symm ▸ hown : SSo wr w1.heap.size u5 (selF (cp.take (j + 1)) m)) hbl)
        clear hA hB hcell hRe hok hnn hkk hb1 hg1 hlab hw1b hBr hc hx hsel hbl hlen hb hjl H HB hbit hown
        go_wp2
        go_roundw
        case rel => exact ⟨j + 1, by omega, by go_num, HF.out.1, HF.out.2⟩
        case measure => simp [intOf]; omega
    · obtain rfl : j = k := by omega
      have hjE : ¬ (j : Int) < (j : Int) := by omega
      rw [hkk, List.take_length] at hown
      have hAr := hA.below hw1b
      obtain ⟨b, off, rfl, hc⟩ := hAr.cells (by omega)
      have hca := hc a ha
      have hc0 : wr.cell? ⟨g, 0, none⟩ = some (.slice (some ⟨b, off, none⟩) n c) := (hw1b.cell (p := ⟨g, 0, none⟩) (World.block_lt_of_cell? _ _ hcell.1)).trans hcell.1
      have hl0 : wr.cell? ⟨w.heap.size, 0, none⟩ = some (.int .i64 (a : Int)) := by rw [cell_of_row _ _ _ _ _ _ hlab]; rfl
      have ha0 : (0 : Int) ≤ (a : Int) := by omega
      have han : (a : Int) < (n : Int) := by omega
      have hs16 : (str lv a).size ≤ 16 := by
        have hal : a < lv.length := by omega
        have h9 := (nmOk_len (hok.lvn (a := a) (by rw [nms_len]; exact hal))).2
        rw [nms_get hal, bsize] at h9
        unfold str
        rw [List.getD_eq_getElem?_getD, List.getElem?_eq_getElem hal]; exact h9
      generalize str lv a = s at *
      have hsn := selF_len cp m
      have hsm : ∀ x ∈ nms (selF cp m), x.length ≤ 16 := by
        intro x hx
        unfold nms at hx
        rw [← selF_map] at hx
        exact (nmOk_len (hok.cpn x (selF_sub x hx))).2
      by_cases hz : (selF cp m).length = 0
      · obtain ⟨ao, cap, rfl⟩ := hown.shape
        rw [List.eq_nil_of_length_eq_zero hz] at hRe ⊢
        have HF := Lib.hid (And.intro hRe hw1b)
        clear hA hB hcell hRe hok hnn hkk hb1 hg1 hlab hw1b hAr hc hbl H HB hown hsn hsm hz
        go_wp2
        go_quiet (fail)
        go_wp2
        go_ret
        exact ⟨by rw [HF.out.1]; simp [tl, nms], Below.drewN' HF.out.2 _⟩
      · obtain ⟨g2, cap, rfl, hg2, hst⟩ := hown.strs (by omega)
        generalize hL : selF cp m = L at *
        have hjl := jn_len (nms L) hsm
        rw [nms_len] at hjl
        have hne : nms L ≠ [] := by
          intro e
          have h9 := congrArg List.length e
          rw [nms_len, List.length_nil] at h9
          exact hz h9
        have c5 := fun nq => Tryz.strings_Join g2 0 cap L ⟨#[47]⟩ (wr.drewN nq) (fun i x hx => by
          have hi : i < L.length := by
            rcases Nat.lt_or_ge i L.length with y | y
            · exact y
            · rw [List.getElem?_eq_none y] at hx; cases hx
          rw [List.getElem?_eq_getElem hi] at hx
          rw [Nat.zero_add, ← Option.some.inj hx]
          exact hst.cell i hi) hst.lt (by omega) hst.room (by
          rw [show (⟨#[47]⟩ : ByteArray).data.toList = [47] from rfl, show L.map (fun x => x.data.toList) = nms L from rfl, jn_join]
          omega)
        rw [show (⟨#[47]⟩ : ByteArray).data.toList = [47] from rfl, show L.map (fun x => x.data.toList) = nms L from rfl, jn_join] at c5
        rw [tl_eq hne] at hRe
        have hzi : (0 : Int) < (L.length : Int) := by omega
        have hjl2 : (jn (nms L)).length ≤ 1200 := by omega
        generalize L.length = ln at *
        have HF := Lib.hid (And.intro hRe hw1b)
        clear hA hB hcell hRe hok hnn hkk hb1 hg1 hlab hw1b hAr hc hbl H HB hown hsn hsm hz hL hst hjl hne hg2
        go_wp2
        go_quiet (fail)
        go_wp2_with fail
        refine (c5 _).mono ?_
        rintro e w5 ⟨rfl, hb5⟩
        have H5 := Lib.hid ((Below.drewN' HF.out.2 nq).trans (hb5.mono (Below.drewN' HF.out.2 nq).size))
        clear c5 hb5
        go_wp2
        go_ret
        exact ⟨by rw [HF.out.1, ← cat3]; rfl, H5.out⟩
end Go.Proofs.YtmcianehedhfeaaGreatDoor
