/- Package lattice: Names' Print; Print. -/
import Derived.Test.YtmcianehedhfeaaGreatDoorLatM
set_option linter.unusedVariables false
set_option linter.unusedSimpArgs false
namespace Go.Proofs.YtmcianehedhfeaaGreatDoor
open Go.RowKit
/-- What Print tells: the text, and the error's number. -/
def lprT (lv cp : List Bs) (a : Int) (m : Nat) : Bs := if inL lv cp a m then ltxt lv cp a.toNat m else []
def lprE (lv cp : List Bs) (a : Int) (m : Nat) : Int := if latR lv cp then (if inL lv cp a m then 0 else 8) else 2
theorem NmD.eff {w w' : World} {g : Nat} {lv cp : List ByteArray} {cnt : Int} (h : NmD w g lv cp cnt) (hb : Below w.heap.size w w') : NmD w' g lv cp cnt := h.belowW hb
theorem NmAt.sl {w : World} {g : Nat} {lv cp : List ByteArray} {cnt : Int} (h : NmAt w g lv cp cnt) : ∃ v1 v2, SlIn w v1 lv ∧ SlIn w v2 cp ∧ w.cell? ⟨g, 0, none⟩ = some v1 ∧ w.cell? ⟨g, 1, none⟩ = some v2 := by
  obtain ⟨hok, v1, v2, s1, s2, hh⟩ := h
  rcases hh with hh | ⟨b1, b2, n1, n2, h3, _⟩
  · exact ⟨v1, v2, s1.1, s2.1, hh.cells.1, hh.cells.2.1⟩
  · exact ⟨v1, v2, s1.1, s2.1, h3.cells.1, h3.cells.2.1⟩
set_option maxRecDepth 100000 in
set_option maxHeartbeats 4000000 in
theorem nprint_any (g : Nat) (lv cp : List ByteArray) (a : Int) (m : Nat) (cnt : Int) (w : World) (h : NmAt w g lv cp cnt) (hc : 0 ≤ cnt ∧ cnt ≤ 1000) (hm : m < M64) :
    Calls Tryz.prog 21 #[.pointer (some ⟨g, 0, none⟩), labV a m] w fun e w' => e = .returned (.tuple #[.string ⟨(lprT (nms lv) (nms cp) a m).toArray⟩, .int .i64 (lprE (nms lv) (nms cp) a m)]) ∧ NmD w' g lv cp (cnt + 1) ∧ Eff (· = g) w w' := by
  have hok := h.ok
  have hR := (latR_iff _ _).2 hok
  have l1 := hok.l16
  have l2 := hok.c64
  rw [nms_len] at l1 l2
  obtain ⟨T, hT⟩ : ∃ T, T = lprT (nms lv) (nms cp) a m := ⟨_, rfl⟩
  obtain ⟨E, hE⟩ : ∃ E, E = lprE (nms lv) (nms cp) a m := ⟨_, rfl⟩
  rw [← hT, ← hE]
  unfold lprT at hT
  unfold lprE at hE
  rw [if_pos hR] at hE
  have hg := h.lt
  have hb1 : Below w.heap.size w (w.alloc (.cells #[.int .i64 a, .int .u64 (m : Int)] 27 (0, 0))) := (Below.refl _ w).alloc (Nat.le_refl _) _
  have hg1 := heap_alloc_new w (.cells #[.int .i64 a, .int .u64 (m : Int)] 27 (0, 0))
  have c1 := ask_any g lv cp cnt _ (h.belowW hb1) hc
  have HB := Lib.hid (And.intro hb1 hg1)
  clear h hb1 hg1
  unfold labV
  go_enter Tryz.func21, Tryz.ntmps21
  go_wp2_with fail
  generalize w.alloc (.cells #[.int .i64 a, .int .u64 (m : Int)] 27 (0, 0)) = w1 at *
  refine c1.mono ?_
  rintro e w2 ⟨rfl, hd, he⟩
  have hg2 := he.heap HB.out.2 (by show ¬ w.heap.size = g; omega)
  obtain ⟨v1, v2, s1, s2, hc0, hc1⟩ := hd.at.sl
  have hwE : Eff (· = g) w w2 := (Eff.of_below HB.out.1 _).trans he
  have ci := fun W (hb : Below w2.heap.size w2 W) => in_any v1 v2 lv cp a m W (s1.below hb) (s2.below hb) (by omega) hm
  have hin : inL (nms lv) (nms cp) a m = true → ∃ k : Nat, a = k ∧ k < lv.length := fun hh => by
    unfold inL at hh
    rw [Bool.and_eq_true, decide_eq_true_iff, nms_len] at hh
    exact ⟨a.toNat, by omega, by omega⟩
  have ct := fun (k : Nat) W (hk : k < lv.length) (hb : Below w2.heap.size w2 W) => text_any g lv cp k m (cnt + 1) W (hd.at.belowW hb) hk hm
  have hla : w2.cell? ⟨w.heap.size, 0, none⟩ = some (.int .i64 a) := by rw [cell_of_row _ _ _ _ _ _ hg2]; rfl
  have hlb : w2.cell? ⟨w.heap.size, 1, none⟩ = some (.int .u64 (m : Int)) := by rw [cell_of_row _ _ _ _ _ _ hg2]; rfl
  have HD := Lib.hid (And.intro hd (And.intro hwE hg2))
  have HOK := Lib.hid hok
  generalize inL (nms lv) (nms cp) a m = I at *
  clear hok hR he hd hg2 c1 hwE
  have KB : w2.drew.cell? ⟨g, 0, none⟩ = some v1 ∧ w2.drew.cell? ⟨g, 1, none⟩ = some v2 ∧ w2.drew.cell? ⟨w.heap.size, 0, none⟩ = some (.int .i64 a) ∧ w2.drew.cell? ⟨w.heap.size, 1, none⟩ = some (.int .u64 (m : Int)) ∧ Hid (Below w2.heap.size w2 w2.drew) := ⟨hc0, hc1, hla, hlb, Lib.hid (Below.refl _ w2).drew⟩
  have K : ∀ W, (W.cell? ⟨g, 0, none⟩ = some v1 ∧ W.cell? ⟨g, 1, none⟩ = some v2 ∧ W.cell? ⟨w.heap.size, 0, none⟩ = some (.int .i64 a) ∧ W.cell? ⟨w.heap.size, 1, none⟩ = some (.int .u64 (m : Int)) ∧ Hid (Below w2.heap.size w2 W)) → ∀ W', Below W.heap.size W W' → (W'.cell? ⟨g, 0, none⟩ = some v1 ∧ W'.cell? ⟨g, 1, none⟩ = some v2 ∧ W'.cell? ⟨w.heap.size, 0, none⟩ = some (.int .i64 a) ∧ W'.cell? ⟨w.heap.size, 1, none⟩ = some (.int .u64 (m : Int)) ∧ Hid (Below w2.heap.size w2 W')) := fun W h W' h' =>
    ⟨(h'.cell (p := ⟨g, 0, none⟩) (World.block_lt_of_cell? _ _ h.1)).trans h.1, (h'.cell (p := ⟨g, 1, none⟩) (World.block_lt_of_cell? _ _ h.2.1)).trans h.2.1, (h'.cell (p := ⟨w.heap.size, 0, none⟩) (World.block_lt_of_cell? _ _ h.2.2.1)).trans h.2.2.1, (h'.cell (p := ⟨w.heap.size, 1, none⟩) (World.block_lt_of_cell? _ _ h.2.2.2.1)).trans h.2.2.2.1, Lib.hid (h.2.2.2.2.out.trans (h'.mono h.2.2.2.2.out.size))⟩
  have HK := Lib.hid K
  have HKB := Lib.hid KB
  unfold labV at ci
  have ci2 := fun W (hb : W.cell? ⟨g, 0, none⟩ = some v1 ∧ W.cell? ⟨g, 1, none⟩ = some v2 ∧ W.cell? ⟨w.heap.size, 0, none⟩ = some (.int .i64 a) ∧ W.cell? ⟨w.heap.size, 1, none⟩ = some (.int .u64 (m : Int)) ∧ Hid (Below w2.heap.size w2 W)) => ci W hb.2.2.2.2.out
  have HCI := Lib.hid ci2
  have HCT := Lib.hid ct
  clear K KB ci ci2 ct hla hlb hc0 hc1 s1 s2
  cases I with
  | false =>
    have hT0 : T = [] := hT
    have hE0 : E = 8 := hE
    subst hT0 hE0
    clear hin hT hE HCT
    go_wp2_with fail
    go_region_held3 (fun w' => w'.cell? ⟨g, 0, none⟩ = some v1 ∧ w'.cell? ⟨g, 1, none⟩ = some v2 ∧ w'.cell? ⟨w.heap.size, 0, none⟩ = some (.int .i64 a) ∧ w'.cell? ⟨w.heap.size, 1, none⟩ = some (.int .u64 (m : Int)) ∧ Hid (Below w2.heap.size w2 w'))
      (first | exact HKB.out | exact HK.out _ (by assumption) _ hba)
      (first | (go_at_call 12; (with_reducible refine (HCI.out _ (by assumption)).mono ?_); rintro e w3 ⟨rfl, hba⟩))
    have HF := Lib.hid (And.intro (HD.out.1.belowW (below_undrew hba)) (HD.out.2.1.trans (Eff.of_below (below_undrew hba) _)))
    clear hba
    go_wp2
    go_ret2
    exact ⟨rfl, HF.out⟩
  | true =>
    obtain ⟨k, rfl, hk⟩ := hin rfl
    have hT0 : T = ltxt (nms lv) (nms cp) k m := hT
    have hE0 : E = 0 := hE
    subst hT0 hE0
    have HCT2 := Lib.hid (fun W (hb : Below w2.heap.size w2 W) => HCT.out k W hk hb)
    clear hin hT hE HCT hk
    go_wp2_with fail
    go_region_held3 (fun w' => w'.cell? ⟨g, 0, none⟩ = some v1 ∧ w'.cell? ⟨g, 1, none⟩ = some v2 ∧ w'.cell? ⟨w.heap.size, 0, none⟩ = some (.int .i64 (k : Int)) ∧ w'.cell? ⟨w.heap.size, 1, none⟩ = some (.int .u64 (m : Int)) ∧ Hid (Below w2.heap.size w2 w'))
      (first | exact HKB.out | exact HK.out _ (by assumption) _ hba)
      (first | (go_at_call 12; (with_reducible refine (HCI.out _ (by assumption)).mono ?_); rintro e w3 ⟨rfl, hba⟩))
    have HF := Lib.hid (And.intro (HD.out.1.belowW (below_undrew hba)) (HD.out.2.1.trans (Eff.of_below (below_undrew hba) _)))
    have ct := HCT2.out w3 (below_undrew hba)
    rename_i hH
    have e0 := hH.2.2.1
    have e1 := hH.2.2.2.1
    clear hba hH
    go_wp2_with fail
    refine ct.mono ?_
    rintro e w4 ⟨rfl, hb4⟩
    have HG := Lib.hid (And.intro (HF.out.1.belowW hb4) (HF.out.2.trans (Eff.of_below hb4 _)))
    clear ct hb4
    go_wp2
    go_ret2
    exact ⟨rfl, HG.out⟩
set_option maxRecDepth 100000 in
set_option maxHeartbeats 4000000 in
theorem print_any (v1 v2 : Value) (lv cp : List ByteArray) (a : Int) (m : Nat) (w : World) (h1 : SlIn w v1 lv) (h2 : SlIn w v2 cp) (hml : lv.length ≤ 9223372036854775807 ∧ cp.length ≤ 9223372036854775807) (hm : m < M64) :
    Calls Tryz.prog 6 #[.agg #[v1, v2], labV a m] w fun e w' => e = .returned (.tuple #[.string ⟨(lprT (nms lv) (nms cp) a m).toArray⟩, .int .i64 (lprE (nms lv) (nms cp) a m)]) ∧ Below w.heap.size w w' := by
  have hb2 := below2 w (.cells #[v1, v2] 24 (0, 0)) (.cells #[.int .i64 a, .int .u64 (m : Int)] 27 (0, 0))
  have hg1 := heap_alloc2_new w (.cells #[v1, v2] 24 (0, 0)) (.cells #[.int .i64 a, .int .u64 (m : Int)] 27 (0, 0))
  have hg0 := heap_alloc2_old w (.cells #[v1, v2] 24 (0, 0)) (.cells #[.int .i64 a, .int .u64 (m : Int)] 27 (0, 0))
  by_cases hR : latR (nms lv) (nms cp) = true
  · have c1 := fun W (hb : Below w.heap.size w W) => new_ok v1 v2 lv cp W (h1.below hb) (h2.below hb) ((latR_iff _ _).1 hR)
    have c1 := c1 _ hb2
    have HB := Lib.hid (And.intro hb2 hg1)
    clear h1 h2 hb2 hg1 hg0 hml hR
    unfold labV
    go_enter Tryz.func6, Tryz.ntmps6
    go_wp2_with fail
    generalize (w.alloc (.cells #[v1, v2] 24 (0, 0))).alloc (.cells #[.int .i64 a, .int .u64 (m : Int)] 27 (0, 0)) = w1 at *
    refine c1.mono ?_
    rintro e w2 ⟨g, rfl, hg, hn, hb⟩
    have hg2 := (hb.block _ (lt_of_block HB.out.2)).trans HB.out.2
    have e0 : w2.cell? ⟨w.heap.size + 1, 0, none⟩ = some (.int .i64 a) := by rw [cell_of_row _ _ _ _ _ _ hg2]; rfl
    have e1 : w2.cell? ⟨w.heap.size + 1, 1, none⟩ = some (.int .u64 (m : Int)) := by rw [cell_of_row _ _ _ _ _ _ hg2]; rfl
    have c2 := nprint_any g lv cp a m 0 w2 hn (by omega) hm
    unfold labV at c2
    have hs := HB.out.1.size
    have HF := Lib.hid (And.intro (HB.out.1.trans (hb.mono HB.out.1.size)) (show w.heap.size ≤ g by omega))
    clear hb hn hg2 c1 hg hs
    go_wp2_with fail
    refine c2.mono ?_
    rintro e w3 ⟨rfl, _, he⟩
    have HG := Lib.hid (Eff.below HF.out.1 he HF.out.1.size (fun k hk => by have := HF.out.2; omega))
    clear he c2
    go_wp2
    go_ret2
    exact ⟨rfl, HG.out⟩
  · have hR0 : latR (nms lv) (nms cp) = false := by simpa using hR
    have c1 := fun W (hb : Below w.heap.size w W) => new_no v1 v2 lv cp W (h1.below hb) (h2.below hb) hml hR0
    have c1 := c1 _ hb2
    have hI : inL (nms lv) (nms cp) a m = false := by unfold inL; rw [hR0]; rfl
    have hT : lprT (nms lv) (nms cp) a m = [] := by unfold lprT; rw [hI]; rfl
    have hE : lprE (nms lv) (nms cp) a m = 2 := by unfold lprE; rw [hR0]; rfl
    rw [hT, hE]
    have HB := Lib.hid (And.intro hb2 hg1)
    clear h1 h2 hb2 hg1 hg0 hml hR hR0 hI hT hE
    unfold labV
    go_enter Tryz.func6, Tryz.ntmps6
    go_wp2_with fail
    generalize (w.alloc (.cells #[v1, v2] 24 (0, 0))).alloc (.cells #[.int .i64 a, .int .u64 (m : Int)] 27 (0, 0)) = w1 at *
    refine c1.mono ?_
    rintro e w2 ⟨rfl, hb⟩
    have HG := Lib.hid (HB.out.1.trans (hb.mono HB.out.1.size))
    clear hb c1
    go_wp2
    go_ret2
    exact ⟨rfl, HG.out⟩
end Go.Proofs.YtmcianehedhfeaaGreatDoor
