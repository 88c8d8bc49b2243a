/- Package wal: the map in memory; apply; maps.Clone. -/
import Derived.Test.YtnbefiaeihialaaGreatWalP
import Derived.Maps.OwnSet
import Derived.Maps.StringElems
import Derived.StringKeys
import Derived.Shelf.SlMaps.Clone
set_option linter.unusedVariables false
set_option linter.unusedSimpArgs false
namespace Go.Proofs.YtnbefiaeihialaaGreat
open Go.RowKit
theorem Tryz.keyStr : Go.Maps.Keyed Tryz.prog 9 := Go.Maps.string_keyed Tryz.underlying9
/-- Block mb is the map of the pairs M. -/
def MapB (w : World) (mb : Nat) (M : List Pr) : Prop := w.ownsMap Tryz.prog 9 (plainElem (H := Unit) Tryz.prog 9) mb M.length (toD M)
theorem MapB.of {w : World} {mb n : Nat} {M : List Pr} (h : w.ownsMap Tryz.prog 9 (plainElem (H := Unit) Tryz.prog 9) mb n (toD M)) : MapB w mb M := by
  obtain ⟨es, clock, hb, F, hn, hD⟩ := h
  refine ⟨es, clock, hb, F, ?_, hD⟩
  have h1 := congrArg List.length (DataW.map.inj hD)
  rw [List.length_map, length_sorted, List.length_map] at h1
  have h2 : es.toList.length = es.size := Array.length_toList
  exact Nat.le_of_eq (h2.symm.trans h1.symm)
theorem MapB.eff {w w' : World} {mb : Nat} {M : List Pr} (h : MapB w mb M) {S : Nat → Prop} (he : Eff S w w') (hn : ¬ S mb) : MapB w' mb M := by
  obtain ⟨es, clock, hb, r⟩ := h
  exact ⟨es, clock, he.heap hb hn, r⟩
theorem MapB.below {w w' : World} {mb : Nat} {M : List Pr} (h : MapB w mb M) (hb : Below w.heap.size w w') : MapB w' mb M := h.eff (Eff.of_below hb (fun _ => False)) (fun x => x)
theorem MapB.lt {w : World} {mb : Nat} {M : List Pr} (h : MapB w mb M) : mb < w.heap.size := World.ownsMap.lt h
theorem MapB.new (w : World) : MapB (w.alloc (.map #[] 0)) w.heap.size [] := World.ownsMap_made w _ _ _
theorem MapB.ne {w : World} {mb : Nat} {M : List Pr} (h : MapB w mb M) {p : Addr} {v : Value} (hc : w.cell? p = some v) : p.block ≠ mb := by
  obtain ⟨es, clock, hb, _⟩ := h
  intro e
  unfold World.cell? at hc
  rw [e, hb] at hc
  cases hc
theorem eff_map {w w' : World} {mb : Nat} (h : w.grownBy w' (some mb)) : Eff (fun k => k = mb) w w' := (Eff.refl _ _).grown h (fun k hk _ => (Option.some.inj hk).symm)
theorem ChsIn.eff {w w' : World} {A : Option Addr} {n mb : Nat} {xs : List Ch} {M : List Pr} (h : ChsIn w A n xs) (hm : MapB w mb M) (he : Eff (fun k => k = mb) w w') : ChsIn w' A n xs :=
  ⟨h.len, h.max, fun hn => by
    obtain ⟨b, off, e, hc⟩ := h.cells hn
    refine ⟨b, off, e, fun j hj => ?_⟩
    obtain ⟨q, q', q''⟩ := hc j hj
    exact ⟨he.cell q (hm.ne q), he.cell q' (hm.ne q'), he.cell q'' (hm.ne q'')⟩⟩
def Ch.Fit (c : Ch) : Prop := c.key.size ≤ 1000000 ∧ c.val.size ≤ 1000000
theorem appM_take {M : List Pr} {xs : List Ch} {j : Nat} (h : j < xs.length) : appM M (xs.take (j + 1)) = apM (appM M (xs.take j)) (ch xs j) := by
  rw [List.take_succ_eq_append_getElem h, appM_app, ch_get h]; rfl
theorem apM_len {M : List Pr} (h : Srt M) (c : Ch) : (apM M c).length ≤ M.length + 1 := by
  unfold apM
  cases c.gone with
  | true =>
    show (doneM c.key c.val false M).length ≤ _
    rw [doneM_false]
    exact Nat.le_trans (List.length_filter_le _ _) (Nat.le_succ _)
  | false =>
    show (doneM c.key c.val true M).length ≤ _
    have e := toD_put (H := Unit) (k := c.key) (v := c.val) h
    have h1 : (doneM c.key c.val true M).length = ((toD (H := Unit) M).del (.string c.key.data.toList) |> fun d => match d with | .map l => l.length + 1 | _ => 0) := by
      rw [toD_del _ c.key c.val]
      show _ = ((doneM c.key c.val false M).map toE).length + 1
      rw [List.length_map]
      clear e
      induction M with
      | nil => rfl
      | cons p r ih =>
        rcases ltB_tri p.1 c.key with h1 | h1 | h1
        · rw [put_lt h1, doneM_false, List.filter_cons_of_pos (by simpa using ltB_ne h1), List.length_cons, ih h.tail, doneM_false]; rfl
        · rw [put_eq h h1, doneM_false, List.filter_cons_of_neg (by simp [h1]), filter_gt (fun q hq => by rw [← h1]; exact (List.pairwise_cons.1 h).1 q hq)]; rfl
        · rw [put_gt h h1, doneM_false, List.filter_cons_of_pos (by simpa using Ne.symm (ltB_ne h1)), filter_gt (fun q hq => ltB_trans h1 ((List.pairwise_cons.1 h).1 q hq))]; rfl
    rw [h1, toD_del _ c.key c.val, doneM_false]
    show ((M.filter _).map toE).length + 1 ≤ _
    rw [List.length_map]
    exact Nat.succ_le_succ (List.length_filter_le _ _)
set_option maxRecDepth 100000 in
set_option maxHeartbeats 16000000 in
theorem apply_any (A : Option Addr) (n c mb : Nat) (xs : List Ch) (M : List Pr) (w : World) (h : ChsIn w A n xs) (hn : n ≤ 1000000) (hm : MapB w mb M) (hs : Srt M) (hl : M.length ≤ 1000000000) (hf : ∀ c ∈ xs, c.Fit) :
    Calls Tryz.prog 42 #[.map (some mb), .slice A n c] w fun e w' => e = .returned (.tuple #[]) ∧ MapB w' mb (appM M xs) ∧ Eff (fun k => k = mb) w w' := by
  have hn0 : (0 : Int) ≤ (n : Int) := by omega
  have H := Lib.hid (And.intro h (And.intro hm (And.intro hs (And.intro hl hf))))
  clear h hm hs hl hf
  go_enter Tryz.func42, Tryz.ntmps42
  go_wp2
  go_loopw [8] (fun i wr => ∃ j : Nat, j ≤ n ∧ i = .int .i64 j ∧ Hid (MapB wr mb (appM M (xs.take j)) ∧ Eff (fun k => k = mb) w wr ∧ (appM M (xs.take j)).length ≤ M.length + j)) (fun i _ => n - (intOf i).toNat)
  case atStart => exact ⟨0, Nat.zero_le _, rfl, Lib.hid ⟨H.out.2.1, Eff.refl _ _, Nat.le_refl _⟩⟩
  case round =>
    obtain ⟨j, hj, rfl, hrl⟩ := hrel
    have hj0 : (0 : Int) ≤ (j : Int) := by omega
    by_cases hlt : j < n
    · have hji : (j : Int) < (n : Int) := by omega
      obtain ⟨b, off, rfl, hc⟩ := (H.out.1.eff H.out.2.1 hrl.out.2.1).cells (by omega)
      obtain ⟨e1, e2, e3⟩ := hc j hlt
      have hjl : j < xs.length := by rw [H.out.1.len]; exact hlt
      have hnx := appM_take (M := M) hjl
      have hfx := H.out.2.2.2.2 (ch xs j) (by rw [ch_get hjl]; exact List.getElem_mem hjl)
      have hle := apM_len (H.out.2.2.1.app (xs.take j)) (ch xs j)
      have hst := H.out.2.2.1.app (xs.take j)
      obtain ⟨Mj, hMj⟩ : ∃ Mj, Mj = appM M (xs.take j) := ⟨_, rfl⟩
      rw [← hMj] at hrl hnx hle hst
      generalize ch xs j = x at *
      obtain ⟨K, V, gn⟩ := x
      dsimp only at e1 e2 e3
      have hb2 : Below wr.heap.size wr (wr.alloc (.cells #[.string K, .string V, .bool gn] 25 (0, 0))) := (Below.refl _ _).alloc (Nat.le_refl _) _
      have hM2 := hrl.out.1.below hb2
      have hE2 := hrl.out.2.1.alloc (.cells #[.string K, .string V, .bool gn] 25 (0, 0))
      have hg2 := heap_alloc_new wr (.cells #[.string K, .string V, .bool gn] 25 (0, 0))
      have hlm := hrl.out.2.2
      have hlM := H.out.2.2.2.1
      clear hc hMj hb2
      go_upto_region 3 with fail
      generalize wr.alloc (.cells #[.string K, .string V, .bool gn] 25 (0, 0)) = w6 at *
      have k0 : w6.cell? ⟨wr.heap.size, 0, none⟩ = some (.string K) := by rw [cell_of_row _ _ _ _ _ _ hg2]; rfl
      have k1 : w6.cell? ⟨wr.heap.size, 1, none⟩ = some (.string V) := by rw [cell_of_row _ _ _ _ _ _ hg2]; rfl
      have k2 : w6.cell? ⟨wr.heap.size, 2, none⟩ = some (.bool gn) := by rw [cell_of_row _ _ _ _ _ _ hg2]; rfl
      have hKk := Go.WideMaps.keyOf_string_mk (P := Tryz.prog) (k := 9) Tryz.underlying9 (s := K) (by have := hfx.1; unfold maxLen; show K.size ≤ _; dsimp only at this; omega)
      have hVv := plainElem_string (H := Unit) (P := Tryz.prog) (e := 9) Tryz.underlying9 (s := V) (by have := hfx.2; unfold maxLen; show V.size ≤ _; dsimp only at this; omega)
      have hroom : Mj.length < maxLen := by unfold maxLen; omega
      have HN := Lib.hid (And.intro hnx (And.intro hle (And.intro hst (And.intro hM2 (And.intro hE2 hlm)))))
      clear hnx hle hst hM2 hE2 hg2 hfx hlm e1 e2 e3
      cases gn with
      | true =>
        go_wp2_with (at_delete; refine wpList_delete_own _ rfl _ _ 91 9 rfl 9 Tryz.keyStr Tryz.underlying91 _ mb Mj.length (toD Mj) rfl HN.out.2.2.2.1 _ _ rfl hKk ?_)
        intro w7 hown7 hturn7
        rw [toD_del _ K V] at hown7
        have hM7 := MapB.of hown7
        have hE7 := HN.out.2.2.2.2.1.trans (eff_map hturn7.grown)
        have HF := Lib.hid (And.intro hM7 hE7)
        clear hown7 hturn7 hM7 hE7
        go_wp2
        go_roundw
        case rel => exact ⟨j + 1, by omega, by go_num, Lib.hid ⟨by rw [HN.out.1]; exact HF.out.1, HF.out.2, by rw [HN.out.1]; have := HN.out.2.1; have := HN.out.2.2.2.2.2; omega⟩⟩
        case measure => simp [intOf]; omega
      | false =>
        go_wp2_with (at_mapUpdate; refine wpList_mapUpdate_own _ rfl _ _ _ 91 rfl 9 9 Tryz.keyStr Tryz.underlying91 _ mb Mj.length (toD Mj) rfl HN.out.2.2.2.1 hroom _ _ _ rfl rfl hKk _ [] hVv ?_)
        intro w7 hown7 hturn7
        rw [toD_put HN.out.2.2.1] at hown7
        have hM7 := MapB.of hown7
        have hE7 := HN.out.2.2.2.2.1.trans (eff_map hturn7)
        have HF := Lib.hid (And.intro hM7 hE7)
        clear hown7 hturn7 hM7 hE7
        go_wp2
        go_roundw
        case rel => exact ⟨j + 1, by omega, by go_num, Lib.hid ⟨by rw [HN.out.1]; exact HF.out.1, HF.out.2, by rw [HN.out.1]; have := HN.out.2.1; have := HN.out.2.2.2.2.2; omega⟩⟩
        case measure => simp [intOf]; omega
    · obtain rfl : j = n := by omega
      have hjE : ¬ (j : Int) < (j : Int) := by omega
      have hx : xs.take j = xs := by rw [← H.out.1.len]; exact List.take_length
      rw [hx] at hrl
      have HF := hrl
      clear hrl
      go_wp2
      go_end0
      exact ⟨rfl, HF.out.1, HF.out.2.1⟩
set_option maxRecDepth 100000 in
set_option maxHeartbeats 4000000 in
theorem clone_any (mb : Nat) (M : List Pr) (w : World) (hm : MapB w mb M) :
    Calls Tryz.prog 45 #[.map (some mb)] w fun e w' => e = .returned (.map (some w.heap.size)) ∧ MapB w' w.heap.size M ∧ Below w.heap.size w w' := by
  have hlt := hm.lt
  obtain ⟨es, clock, hb, F, hs, hD⟩ := hm
  have hq := fun w => run_eql_map_nil_sl (P := Tryz.prog) w 91 _ _ (some mb) Tryz.underlying91
  have hB : Below w.heap.size w (w.alloc (.map es clock)) := (Below.refl _ w).alloc (Nat.le_refl _) _
  have HF := Lib.hid (And.intro (show MapB (w.alloc (.map es clock)) w.heap.size M from ⟨es, clock, (MapKept.heap_alloc w _).1, F, hs, hD⟩) hB)
  clear F hs hD hB
  go_enter Tryz.func45, Tryz.ntmps45
  go_wp2
  rw [run_callFunc_extern Tryz.func61 (by kernel_rfl) (by kernel_rfl) (by kernel_rfl) (e := Extern.MapsClone.clone) (by kernel_rfl), run_maps_clone_sl w 91 hb]
  simp only [Result.andThen]
  rw [Oper.upon_value]
  go_wp2
  rw [run_typeAssert_map_sl _ 91 _ _ _ _ Tryz.underlying91]
  simp only [Result.andThen]
  rw [Oper.upon_value]
  go_wp2
  go_ret
  exact ⟨rfl, HF.out⟩
end Go.Proofs.YtnbefiaeihialaaGreat
