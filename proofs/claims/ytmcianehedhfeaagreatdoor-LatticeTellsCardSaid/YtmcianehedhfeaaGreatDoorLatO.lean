/- Package lattice: Names' Parse. -/
import Derived.Test.YtmcianehedhfeaaGreatDoorLatN
import Derived.Test.YtmcianehedhfeaaGreatDoorLns
set_option linter.unusedVariables false
set_option linter.unusedSimpArgs false
namespace Go.Proofs.YtmcianehedhfeaaGreatDoor
open Go.RowKit Go.Maps
theorem MaxAt.effg {w w' : World} (h : MaxAt w) {g : Nat} (he : Eff (· = g) w w') (hg : g ≠ 0) : MaxAt w' := by
  obtain ⟨m, hm⟩ := h
  exact ⟨m, he.cell (p := ⟨0, 0, none⟩) hm (fun e => hg e.symm)⟩
theorem lpF_miss {lv cp : List Bs} (h : LatOk lv cp) {s : Bs} (hx : ix lv (cHead s) = none) : lpF lv cp s = (0, 0, 2) :=
  lpF_none fun a m hl => by rw [(code_label h hl).1] at hx; cases hx
theorem lpF_code {lv cp : List Bs} (h : LatOk lv cp) {s : Bs} {a : Nat} (hx : ix lv (cHead s) = some a) :
    lpF lv cp s = if ltxt lv cp a (mkF cp (sp47 (cTail s))) = s then (a, mkF cp (sp47 (cTail s)), 0) else (0, 0, 2) := by
  split
  · rename_i e
    exact lpF_some h ⟨(ix_some hx).1, mkF_lt _ _, e⟩
  · rename_i e
    refine lpF_none fun a' m' hl => ?_
    obtain ⟨h1, h2⟩ := code_label h hl
    rw [hx] at h1
    cases h1
    rw [h2] at e
    exact e hl.2.2
def slash2 : ByteArray := ⟨#[47, 47]⟩
def pcs (s : ByteArray) : List ByteArray := Lib.splitB ⟨#[47]⟩ 0 (Lib.countB s ⟨#[47]⟩) s
theorem pcs_sp (s : ByteArray) : nms (pcs s) = sp47 s.data.toList := by
  unfold pcs nms
  rw [Lib.splitB_data]
  exact split_sp47 _
theorem pcs_len (s : ByteArray) : (pcs s).length = Lib.countB s ⟨#[47]⟩ + 1 := Lib.splitB_all ⟨#[47]⟩ (by decide) 0 _ s rfl
theorem cut_len (s : Bs) : (cHead s).length ≤ s.length ∧ (cTail s).length ≤ s.length := by
  unfold cHead cTail Lib.cut
  split
  · constructor <;> simp <;> omega
  · simp
theorem sp47_piece : ∀ (s : Bs), ∀ l ∈ sp47 s, l.length ≤ s.length
  | [], l, h => by simp [sp47] at h; simp [h]
  | c :: r, l, h => by
    have ih := sp47_piece r
    rw [sp47] at h
    split at h
    · rcases List.mem_cons.1 h with rfl | h
      · simp
      · have := ih l h; simp; omega
    · cases hr : sp47 r with
      | nil => exact absurd hr (sp47_ne r)
      | cons a t =>
        rw [hr] at h ih
        rcases List.mem_cons.1 h with rfl | h
        · have := ih a List.mem_cons_self; simp; omega
        · have := ih l (List.mem_cons_of_mem _ h); simp; omega
theorem pow_wrap (i : Nat) (h : i < 64) : IntKind.u64.wrap (2 ^ i) = ((2 ^ i : Nat) : Int) := by
  have h1 : 2 ^ i < 2 ^ 64 := Nat.pow_lt_pow_right (by decide) h
  have e : (2 : Int) ^ i = ((2 ^ i : Nat) : Int) := by rw [Int.natCast_pow]; rfl
  rw [e, IntKind.wrap_u64]
  generalize 2 ^ i = q at *
  have h2 : q < 18446744073709551616 := h1
  omega
theorem ba_eq (s : ByteArray) : (⟨s.data.toList.toArray⟩ : ByteArray) = s := by cases s; rfl
/-- A label's block is no other one that Names reads. -/
theorem NmD.lab {w w' : World} {g r : Nat} {lv cp : List ByteArray} {cnt x y : Int} {T : TypeId} {fr : Nat × Nat} (h : NmD w g lv cp cnt) (hr : w.heap[r]? = some (.cells #[.int .i64 x, .int .u64 y] T fr)) (he : Eff (· = r) w w') (hgr : g ≠ r) : NmD w' g lv cp cnt := by
  obtain ⟨hok, v1, v2, s1, s2, b1, b2, n1, n2, h3, h4, h5⟩ := h
  have hsl : ∀ {v : Value} {l : List ByteArray}, SlB w v l g → SlB w' v l g := by
    rintro v l ⟨⟨A, c, rfl, h1, h2⟩, h6⟩
    refine ⟨⟨A, c, rfl, ⟨h1.len, h1.max, fun hn => ?_⟩, h2⟩, h6⟩
    obtain ⟨b, off, e, hc⟩ := h1.cells hn
    refine ⟨b, off, e, fun j hj => he.cell (p := ⟨b, off + j, none⟩) (hc j hj) ?_⟩
    show ¬ b = r
    rintro rfl
    have h7 := hc j hj
    rw [cell_of_row _ _ _ _ _ _ hr] at h7
    generalize off + j = q at h7
    match q, h7 with
    | 0, h7 => cases h7
    | 1, h7 => cases h7
    | q + 2, h7 => simp at h7
  have htb : ∀ {b : Nat} {N : List Bs} {k : Nat}, TabAt w b N k → TabAt w' b N k := by
    intro b N k ht
    refine ht.eff he ?_
    rintro rfl
    obtain ⟨D, ⟨es, clock, hb, _⟩, _⟩ := ht
    rw [hr] at hb
    cases hb
  exact ⟨hok, v1, v2, hsl s1, hsl s2, b1, b2, n1, n2, he.heap h3 hgr, htb h4, htb h5⟩
theorem store_lab {w : World} {r : Nat} {x y : Value} {T : TypeId} {fr : Nat × Nat} (h : w.heap[r]? = some (.cells #[x, y] T fr)) (a b : Value) :
    ((w.setCell ⟨r, 0, none⟩ a).setCell ⟨r, 1, none⟩ b).heap[r]? = some (.cells #[a, b] T fr) ∧ Eff (· = r) w ((w.setCell ⟨r, 0, none⟩ a).setCell ⟨r, 1, none⟩ b) :=
  ⟨setCell_heap (setCell_heap h 0 a) 1 b, Eff.setCell (S := (· = r)) (Eff.setCell (S := (· = r)) (Eff.refl _ w) (p := ⟨r, 0, none⟩) (fun _ => rfl) a) (p := ⟨r, 1, none⟩) (fun _ => rfl) b⟩
/-- A new block's changes don't count. -/
theorem Eff.fresh {S : Nat → Prop} {a b c : World} {r : Nat} (h : Eff S a b) (k : Eff (· = r) b c) (hr : a.heap.size ≤ r) : Eff S a c := h.trans' k fun i hi e => by have : i = r := e; omega
set_option maxRecDepth 100000 in
set_option maxHeartbeats 4000000 in
theorem nparse_any (g : Nat) (lv cp : List ByteArray) (s : ByteArray) (cnt : Int) (w : World) (h : NmAt w g lv cp cnt) (hc : 0 ≤ cnt ∧ cnt ≤ 1000) (hs : s.size ≤ 100000) (hmax : MaxAt w) (hgm : g ≠ 0) :
    Calls Tryz.prog 24 #[.pointer (some ⟨g, 0, none⟩), .string s] w fun e w' =>
      e = .returned (.tuple #[labV (lpF (nms lv) (nms cp) s.data.toList).1 (lpF (nms lv) (nms cp) s.data.toList).2.1, .int .i64 (lpF (nms lv) (nms cp) s.data.toList).2.2]) ∧ NmD w' g lv cp (cnt + 1) ∧ Eff (· = g) w w' := by
  have hok := h.ok
  obtain ⟨R, hR⟩ : ∃ R, R = lpF (nms lv) (nms cp) s.data.toList := ⟨_, rfl⟩
  rw [← hR]
  have hg := h.lt
  have hb1 : Below w.heap.size w (w.alloc (.cells #[.int .i64 0, .int .u64 0] 27 (0, 0))) := (Below.refl _ w).alloc (Nat.le_refl _) _
  have hg1 := heap_alloc_new w (.cells #[.int .i64 0, .int .u64 0] 27 (0, 0))
  have c1 := ask_any g lv cp cnt _ (h.belowW hb1) hc
  have HB := Lib.hid (And.intro hb1 (And.intro hg1 (hmax.below hb1)))
  have HR := Lib.hid (And.intro hR hok)
  clear h hb1 hg1 hmax hR hok
  go_enter Tryz.func24, Tryz.ntmps24
  go_wp2_with fail
  generalize w.alloc (.cells #[.int .i64 0, .int .u64 0] 27 (0, 0)) = w1 at *
  refine c1.mono ?_
  rintro e w2 ⟨rfl, hd, he⟩
  have hr2 := he.heap HB.out.2.1 (by show ¬ w.heap.size = g; omega)
  have hE2 : Eff (· = g) w w2 := (Eff.of_below HB.out.1 _).trans he
  obtain ⟨mx, hmx⟩ := HB.out.2.2.effg he hgm
  have c2 := Tryz.strings_Cut s ⟨#[47, 47]⟩ mx w2 (by omega) hmx
  rw [show (⟨#[47, 47]⟩ : ByteArray).data.toList = [47, 47] from rfl, show (Lib.cut s.data.toList [47, 47]).1 = cHead s.data.toList from rfl, show (Lib.cut s.data.toList [47, 47]).2.1 = cTail s.data.toList from rfl] at c2
  have H2 := Lib.hid (And.intro hd (And.intro hE2 (And.intro hr2 (⟨mx, hmx⟩ : MaxAt w2))))
  clear hd he c1 hr2 hE2 hmx
  go_wp2_with fail
  refine c2.mono ?_
  rintro e w3 ⟨rfl, nd, rfl⟩
  clear c2
  generalize (Lib.cut s.data.toList [47, 47]).2.2 = fnd at *
  have hcl := cut_len s.data.toList
  rw [bsize] at hcl
  have H2b : NmD (w2.drewN nd) g lv cp (cnt + 1) ∧ Eff (· = g) w (w2.drewN nd) ∧ (w2.drewN nd).heap[w.heap.size]? = some (.cells #[.int .i64 0, .int .u64 0] 27 (0, 0)) ∧ MaxAt (w2.drewN nd) :=
    ⟨H2.out.1.belowW (Below.drewN' (Below.refl _ w2) nd), H2.out.2.1.drewN nd, H2.out.2.2.1, H2.out.2.2.2⟩
  clear H2
  generalize w2.drewN nd = w3 at *
  obtain ⟨hd, hE2, hr2, hM2⟩ := H2b
  obtain ⟨v1, v2, s1, s2, b1, b2, n1, n2, hn, ht1, ht2⟩ := hd.at_
  obtain ⟨D1, ho1, hT1⟩ := ht1
  obtain ⟨D2, ho2, hT2⟩ := ht2
  rw [← nms_len] at hT1 hT2
  have hm5 : w3.cell? ⟨g, 5, none⟩ = some (.map (some b1)) := hn.cells.2.2.2.2.2.1
  have hm6 : w3.cell? ⟨g, 6, none⟩ = some (.map (some b2)) := hn.cells.2.2.2.2.2.2.1
  have q0 : w3.cell? ⟨w.heap.size, 0, none⟩ = some (.int .i64 0) := by rw [cell_of_row _ _ _ _ _ _ hr2]; rfl
  have q1 : w3.cell? ⟨w.heap.size, 1, none⟩ = some (.int .u64 0) := by rw [cell_of_row _ _ _ _ _ _ hr2]; rfl
  have z0 : w3.frozen? ⟨w.heap.size, 0, none⟩ = false := frozen_of_row _ _ _ _ _ hr2
  have z1 : w3.frozen? ⟨w.heap.size, 1, none⟩ = false := frozen_of_row _ _ _ _ _ hr2
  have hlook := hT1.look (cHead s.data.toList)
  have hmiss : ix (nms lv) (cHead s.data.toList) = none → R = (0, 0, 2) := fun e => HR.out.1.trans (lpF_miss HR.out.2 e)
  have hcode := fun a (e : ix (nms lv) (cHead s.data.toList) = some a) => HR.out.1.trans (lpF_code HR.out.2 e)
  generalize cHead s.data.toList = hd0 at *
  generalize cTail s.data.toList = tl0 at *
  have hkey : keyOf Tryz.prog 9 (.string ⟨hd0.toArray⟩) = some (.string hd0) := by
    have := Go.WideMaps.keyOf_string_mk (P := Tryz.prog) (k := 9) Tryz.underlying9 (s := ⟨hd0.toArray⟩) (by rw [lsize]; unfold maxLen; omega)
    simpa using this
  have H3 := Lib.hid (And.intro hd (And.intro hE2 (And.intro hr2 (And.intro hM2 (And.intro ho2 (And.intro hT2 hm6))))))
  have HO1 := Lib.hid ho1
  have HK := Lib.hid hkey
  have HS := Lib.hid (And.intro hmiss hcode)
  clear hd hE2 hr2 hM2 ho2 hT2 hm6 hT1 ho1 hkey hmiss hcode hn s1 s2 n1 n2
  rcases hlook with ⟨j, hj, hat0, hhas⟩ | ⟨hj, hhas⟩
  · have hcd := HS.out.2 j hj
    have hjl := (ix_some hj).1
    rw [nms_len] at hjl
    have hal := heap_alloc_new w3 (.cells #[.int .i64 (j : Int), .int .u64 0] 27 (0, 0))
    have hba : Below w3.heap.size w3 (w3.alloc (.cells #[.int .i64 (j : Int), .int .u64 0] 27 (0, 0))) := (Below.refl _ w3).alloc (Nat.le_refl _) _
    have HA := Lib.hid (And.intro hcd (And.intro hjl (And.intro hba hal)))
    clear hj HS hcd hjl hal hba
    go_wp2_with (at_lookup; refine wpList_lookup_own_ok_int _ rfl _ _ 69 rfl 9 3 .i64 law_str Tryz.underlying69 Tryz.underlying3 (Tryz.zeroValue3 _) b1 lv.length D1 rfl HO1.out _ _ rfl HK.out ?_)
    intro hwc
    clear hat0 hwc
    go_wp2_with fail
    generalize w3.alloc (.cells #[.int .i64 (j : Int), .int .u64 0] 27 (0, 0)) = w5 at *
    have htz : (⟨tl0.toArray⟩ : ByteArray).size ≤ 100000 := by rw [lsize]; omega
    have hps : nms (pcs ⟨tl0.toArray⟩) = sp47 tl0 := pcs_sp _
    obtain ⟨mx5, hmx5⟩ := H3.out.2.2.2.1.below HA.out.2.2.1
    have c5 := Tryz.strings_Split ⟨tl0.toArray⟩ ⟨#[47]⟩ mx5 w5 (by omega) hmx5 (by decide)
    rw [← pcs_len, show Lib.splitB ⟨#[47]⟩ 0 (Lib.countB (⟨tl0.toArray⟩ : ByteArray) ⟨#[47]⟩) ⟨tl0.toArray⟩ = pcs ⟨tl0.toArray⟩ from rfl] at c5
    generalize pcs ⟨tl0.toArray⟩ = P at *
    have hsp := heap_alloc_new w5 (.cells (P.map Value.string).toArray 9 (0, 0))
    have hb5 : Below w5.heap.size w5 (w5.alloc (.cells (P.map Value.string).toArray 9 (0, 0))) := (Below.refl _ w5).alloc (Nat.le_refl _) _
    have hN6 := (H3.out.1.belowW HA.out.2.2.1).belowW hb5
    have hE6 := (H3.out.2.1.trans' (Eff.of_below HA.out.2.2.1 (fun _ => False)) (fun _ _ x => x.elim)).trans' (Eff.of_below hb5 (fun _ => False)) (fun _ _ x => x.elim)
    have ha6 := (hb5.block _ (lt_of_block HA.out.2.2.2)).trans HA.out.2.2.2
    have hr5 := (HA.out.2.2.1.block _ (lt_of_block H3.out.2.2.1)).trans H3.out.2.2.1
    have hr6 := (hb5.block _ (lt_of_block hr5)).trans hr5
    have hlt5 := lt_of_block HA.out.2.2.2
    have hlt3 := lt_of_block H3.out.2.2.1
    have hltg := H3.out.1.at.lt
    have H6 := Lib.hid (And.intro hN6 (And.intro hE6 (And.intro ha6 (And.intro hr6 (And.intro hsp hps)))))
    clear hsp hb5 hN6 hE6 ha6 hr6 hr5 hmx5 hps q0 q1 z0 z1 hm5 hhas
    go_wp2_with fail
    refine c5.mono ?_
    rintro e w6' ⟨rfl, rfl⟩
    clear c5
    generalize w5.alloc (.cells (P.map Value.string).toArray 9 (0, 0)) = w6 at *
    generalize hPn : P.length = pn at *
    have hpn0 : (0 : Int) ≤ (pn : Int) := by omega
    have hpn1 : (pn : Int) ≤ 100001 := by
      have q := sp47_sum tl0
      rw [← H6.out.2.2.2.2.2, nms_len, hPn] at q
      omega
    have HP := Lib.hid hPn
    clear hPn
    go_wp2
    go_loopw [41] (fun i wr => ∃ k : Nat, k ≤ pn ∧ i = .int .i64 k ∧ wr.heap[w3.heap.size]? = some (.cells #[.int .i64 (j : Int), .int .u64 ((mkF (nms cp) ((sp47 tl0).take k) : Nat) : Int)] 27 (0, 0)) ∧ Eff (· = w3.heap.size) w6 wr) (fun i _ => pn - (intOf i).toNat)
    case atStart => exact ⟨0, Nat.zero_le _, rfl, H6.out.2.2.1, Eff.refl _ _⟩
    case round =>
      obtain ⟨k, hk, rfl, hlab, heff⟩ := hrel
      obtain ⟨hN6, hE6, ha6, hr6, hsp, hps⟩ := H6.out
      have hNr := hN6.lab ha6 heff (by omega)
      have hc64 := HR.out.2.c64
      have hacc : mkF (nms cp) ((sp47 tl0).take k) < M64 := Nat.lt_of_lt_of_le (mkF_lt _ _) (show 2 ^ (nms cp).length ≤ 2 ^ 64 from Nat.pow_le_pow_right (by decide) hc64)
      rw [nms_len] at hc64
      have hk0 : (0 : Int) ≤ (k : Int) := by omega
      have hP := HP.out
      by_cases hkp : k < pn
      · have hki : (k : Int) < (pn : Int) := by omega
        have hkP : k < P.length := by omega
        have hkN : k < (sp47 tl0).length := by rw [← hps, nms_len]; exact hkP
        have hget : (sp47 tl0)[k] = P[k].data.toList := by
          have := nms_get hkP (by rw [nms_len]; exact hkP)
          rw [← this]; congr 1; exact hps.symm
        have hcell : wr.cell? ⟨w5.heap.size, k, none⟩ = some (.string P[k]) := by
          refine heff.cell (p := ⟨w5.heap.size, k, none⟩) ?_ (by show ¬ w5.heap.size = w3.heap.size; omega)
          rw [cell_of_row _ _ _ _ _ _ hsp, List.getElem?_toArray, List.getElem?_map, List.getElem?_eq_getElem hkP]; rfl
        have hmk := mkF_take (nms cp) (sp47 tl0) k hkN
        have hxl := sp47_piece tl0 _ (List.getElem_mem hkN)
        rw [hget] at hmk hxl
        rw [bsize] at hxl
        generalize P[k] = x at *
        obtain ⟨_, u1, u2, s1, s2, c1, c2, n1, n2, hn, ⟨E1, ho1, hT1⟩, ⟨E2, ho2, hT2⟩⟩ := id hNr
        rw [← nms_len cp] at hT2
        have hm6 : wr.cell? ⟨g, 6, none⟩ = some (.map (some c2)) := hn.cells.2.2.2.2.2.2.1
        have hlook := hT2.look x.data.toList
        have hkx : keyOf Tryz.prog 9 (.string x) = some (.string x.data.toList) := by
          have := Go.WideMaps.keyOf_string_mk (P := Tryz.prog) (k := 9) Tryz.underlying9 (s := x) (by unfold maxLen; omega)
          simpa using this
        have q1 : wr.cell? ⟨w3.heap.size, 1, none⟩ = some (.int .u64 ((mkF (nms cp) ((sp47 tl0).take k) : Nat) : Int)) := by rw [cell_of_row _ _ _ _ _ _ hlab]; rfl
        have z1 : wr.frozen? ⟨w3.heap.size, 1, none⟩ = false := frozen_of_row _ _ _ _ _ hlab
        have hst := fun v => setCell_heap hlab 1 v
        have hse := fun v => Eff.setCell (S := (· = w3.heap.size)) heff (p := ⟨w3.heap.size, 1, none⟩) (fun _ => rfl) v
        generalize mkF (nms cp) ((sp47 tl0).take k) = acc at *
        have HO2 := Lib.hid ho2
        have HKX := Lib.hid hkx
        have HL := Lib.hid (And.intro hlab (And.intro heff hmk))
        have HST := Lib.hid (And.intro hst hse)
        rcases hlook with ⟨i, hi, hat0, hhas⟩ | ⟨hi, hhas⟩
        · have hic := (ix_some hi).1
          rw [nms_len] at hic
          have hi64 : i < 64 := by omega
          have hw := pow_wrap i hi64
          have h2i : 2 ^ i < M64 := show 2 ^ i < 2 ^ 64 from Nat.pow_lt_pow_right (by decide) hi64
          have hor := u64_or_nat acc (2 ^ i) hacc h2i
          rw [← hw] at hor
          have hii : (0 : Int) ≤ (i : Int) := by omega
          have hii2 : (i : Int) ≤ 64 := by omega
          have hmk2 : mkF (nms cp) ((sp47 tl0).take (k + 1)) = acc ||| 2 ^ i := by rw [HL.out.2.2]; unfold mk1; rw [hi]
          generalize acc ||| 2 ^ i = ac2 at *
          have HM := Lib.hid hmk2
          clear hw hmk2 hmk hi hic hi64 hlab heff hst hse ho2 hkx hT2 ho1 hT1 hn s1 s2 n1 n2 hNr hN6 hE6 ha6 hr6 hsp hps hP hkP hkN hget hxl hacc h2i hc64
          go_wp2_with (at_lookup; refine wpList_lookup_own_ok_int _ rfl _ _ 69 rfl 9 3 .i64 law_str Tryz.underlying69 Tryz.underlying3 (Tryz.zeroValue3 _) c2 cp.length E2 rfl HO2.out _ _ rfl HKX.out ?_)
          intro hwc
          clear hat0 hwc
          go_wp2_with fail
          go_still_tail 6, (by kernel_rfl)
          change wpList _ _ _ _ _ wr.drew
          have HQ := Lib.hid (And.intro (HST.out.1 (.int .u64 ((ac2 : Nat) : Int))) (HST.out.2 (.int .u64 ((ac2 : Nat) : Int))).drew)
          clear HST
          go_wp2
          go_roundw
          case rel => exact ⟨k + 1, by omega, by go_num, by rw [HM.out]; exact HQ.out.1, HQ.out.2⟩
          case measure => simp [intOf]; omega
        · have hmk2 : mkF (nms cp) ((sp47 tl0).take (k + 1)) = acc := by rw [HL.out.2.2]; unfold mk1; rw [hi]
          have HQ := Lib.hid (And.intro hmk2 (And.intro hlab heff))
          clear hmk2 hmk hi hlab heff hst hse ho2 hkx hT2 ho1 hT1 hn s1 s2 n1 n2 hNr hN6 hE6 ha6 hr6 hsp hps hP hkP hkN hget hxl hacc hc64 HST
          go_wp2_with (at_lookup; refine wpList_lookup_own_ok_int _ rfl _ _ 69 rfl 9 3 .i64 law_str Tryz.underlying69 Tryz.underlying3 (Tryz.zeroValue3 _) c2 cp.length E2 rfl HO2.out _ _ rfl HKX.out ?_)
          intro c hat hwc
          clear hat hwc
          go_wp2
          go_roundw
          case rel => exact ⟨k + 1, by omega, by go_num, by rw [HQ.out.1]; exact HQ.out.2.1, HQ.out.2.2⟩
          case measure => simp [intOf]; omega
      · obtain rfl : k = pn := by omega
        have hkE : ¬ (k : Int) < (k : Int) := by omega
        have hall : (sp47 tl0).take k = sp47 tl0 := List.take_of_length_le (by rw [← hps, nms_len]; omega)
        rw [hall] at hlab hacc
        have hcd := HA.out.1
        have hjl := HA.out.2.1
        have hEr : Eff (· = g) w wr := Eff.fresh hE6 heff (by omega)
        have hrr := heff.heap hr6 (show ¬ w.heap.size = w3.heap.size by omega)
        generalize mkF (nms cp) (sp47 tl0) = ac at *
        have c7 := text_any g lv cp j ac (cnt + 1) wr hNr.at hjl hacc
        unfold labV at c7
        have q0 : wr.cell? ⟨w3.heap.size, 0, none⟩ = some (.int .i64 (j : Int)) := by rw [cell_of_row _ _ _ _ _ _ hlab]; rfl
        have q1 : wr.cell? ⟨w3.heap.size, 1, none⟩ = some (.int .u64 (ac : Int)) := by rw [cell_of_row _ _ _ _ _ _ hlab]; rfl
        generalize ltxt (nms lv) (nms cp) j ac = T at *
        have H7 := Lib.hid (And.intro hNr (And.intro hEr (And.intro hrr hlab)))
        have HCD := Lib.hid hcd
        clear hall hcd hjl hEr hrr hlab hNr hacc heff hN6 hE6 ha6 hr6 hsp hps hP hc64
        go_wp2_with fail
        refine c7.mono ?_
        rintro e w7 ⟨rfl, hb7⟩
        have hl7 := (hb7.block _ (lt_of_block H7.out.2.2.2)).trans H7.out.2.2.2
        have hr7 := (hb7.block _ (lt_of_block H7.out.2.2.1)).trans H7.out.2.2.1
        have p0 : w7.cell? ⟨w3.heap.size, 0, none⟩ = some (.int .i64 (j : Int)) := by rw [cell_of_row _ _ _ _ _ _ hl7]; rfl
        have p1 : w7.cell? ⟨w3.heap.size, 1, none⟩ = some (.int .u64 (ac : Int)) := by rw [cell_of_row _ _ _ _ _ _ hl7]; rfl
        have r0 : w7.cell? ⟨w.heap.size, 0, none⟩ = some (.int .i64 0) := by rw [cell_of_row _ _ _ _ _ _ hr7]; rfl
        have r1 : w7.cell? ⟨w.heap.size, 1, none⟩ = some (.int .u64 0) := by rw [cell_of_row _ _ _ _ _ _ hr7]; rfl
        have z0 : w7.frozen? ⟨w.heap.size, 0, none⟩ = false := frozen_of_row _ _ _ _ _ hr7
        have z1 : w7.frozen? ⟨w.heap.size, 1, none⟩ = false := frozen_of_row _ _ _ _ _ hr7
        have hN7 := H7.out.1.belowW hb7
        have hE7 := H7.out.2.1.trans' (Eff.of_below hb7 (fun _ => False)) (fun _ _ x => x.elim)
        have H8 := Lib.hid (And.intro hN7 (And.intro hE7 hr7))
        clear hb7 hl7 hr7 hN7 hE7 c7 q0 q1
        have hTe : ((⟨T.toArray⟩ : ByteArray).toList == s.toList) = decide (T = s.data.toList) := by
          rw [Lib.toList_data, Lib.toList_data, Bool.eq_iff_iff, beq_iff_eq, decide_eq_true_iff]
        generalize (⟨T.toArray⟩ : ByteArray) = TB at *
        by_cases hTs : T = s.data.toList
        · have hR0 := HCD.out.trans (if_pos hTs)
          subst hR0
          rw [decide_eq_true hTs] at hTe
          clear hTs
          go_wp2
          have hst := store_lab H8.out.2.2 (.int .i64 (j : Int)) (.int .u64 (ac : Int))
          exact ret_lab2 rfl rfl rfl hst.1 rfl ⟨rfl, H8.out.1.lab H8.out.2.2 hst.2 (by omega), Eff.fresh H8.out.2.1 hst.2 (Nat.le_refl _)⟩
        · have hR0 := HCD.out.trans (if_neg hTs)
          subst hR0
          rw [decide_eq_false hTs] at hTe
          clear hTs
          go_wp2
          have hst := store_lab H8.out.2.2 (.int .i64 0) (.int .u64 0)
          exact ret_lab2 rfl rfl rfl hst.1 rfl ⟨rfl, H8.out.1.lab H8.out.2.2 hst.2 (by omega), Eff.fresh H8.out.2.1 hst.2 (Nat.le_refl _)⟩
  · have hR0 := HS.out.1 hj
    subst hR0
    clear hj HS
    go_wp2_with (at_lookup; refine wpList_lookup_own_ok_int _ rfl _ _ 69 rfl 9 3 .i64 law_str Tryz.underlying69 Tryz.underlying3 (Tryz.zeroValue3 _) b1 lv.length D1 rfl HO1.out _ _ rfl HK.out ?_)
    intro c hat hwc
    have HX := Lib.hid (And.intro hat hwc)
    clear hat hwc
    go_wp2
    have hst := store_lab H3.out.2.2.1 (.int .i64 0) (.int .u64 0)
    refine ret_lab2 rfl rfl rfl hst.1 rfl ⟨rfl, H3.out.1.lab H3.out.2.2.1 hst.2 (by omega), Eff.fresh H3.out.2.1 hst.2 (Nat.le_refl _)⟩
/-- What Parse tells. -/
noncomputable def lpP (lv cp : List Bs) (s : Bs) : Nat × Nat × Int := if latR lv cp then lpF lv cp s else (0, 0, 2)
set_option maxRecDepth 100000 in
set_option maxHeartbeats 4000000 in
theorem parse_any (v1 v2 : Value) (lv cp : List ByteArray) (s : ByteArray) (w : World) (h1 : SlIn w v1 lv) (h2 : SlIn w v2 cp) (hml : lv.length ≤ 9223372036854775807 ∧ cp.length ≤ 9223372036854775807) (hs : s.size ≤ 100000) (hmax : MaxAt w) :
    Calls Tryz.prog 8 #[.agg #[v1, v2], .string s] w fun e w' =>
      e = .returned (.tuple #[labV (lpP (nms lv) (nms cp) s.data.toList).1 (lpP (nms lv) (nms cp) s.data.toList).2.1, .int .i64 (lpP (nms lv) (nms cp) s.data.toList).2.2]) ∧ Below w.heap.size w w' := by
  obtain ⟨R, hR⟩ : ∃ R, R = lpP (nms lv) (nms cp) s.data.toList := ⟨_, rfl⟩
  rw [← hR]
  unfold lpP at hR
  have hb2 := below2 w (.cells #[v1, v2] 24 (0, 0)) (.cells #[.int .i64 0, .int .u64 0] 27 (0, 0))
  have hg1 := heap_alloc2_new w (.cells #[v1, v2] 24 (0, 0)) (.cells #[.int .i64 0, .int .u64 0] 27 (0, 0))
  by_cases hL : latR (nms lv) (nms cp) = true
  · rw [if_pos hL] at hR
    have c1 := fun W (hb : Below w.heap.size w W) => new_ok v1 v2 lv cp W (h1.below hb) (h2.below hb) ((latR_iff _ _).1 hL)
    have c1 := c1 _ hb2
    have HB := Lib.hid (And.intro hb2 (And.intro hg1 (And.intro (hmax.below hb2) hR)))
    clear h1 h2 hb2 hg1 hml hL hmax hR
    go_enter Tryz.func8, Tryz.ntmps8
    go_wp2_with fail
    generalize (w.alloc (.cells #[v1, v2] 24 (0, 0))).alloc (.cells #[.int .i64 0, .int .u64 0] 27 (0, 0)) = w1 at *
    refine c1.mono ?_
    rintro e w2 ⟨g, rfl, hg, hn, hb⟩
    obtain ⟨hb1, hg1, hm1, hR⟩ := HB.out
    have hg2 := (hb.block _ (lt_of_block hg1)).trans hg1
    have hgm : g ≠ 0 := by
      obtain ⟨m, hm⟩ := hm1
      have := World.block_lt_of_cell? _ _ hm
      intro e; subst e; exact absurd this (by show ¬ 0 < w1.heap.size; omega)
    have c2 := nparse_any g lv cp s 0 w2 hn (by omega) hs (hm1.below hb) hgm
    rw [← hR] at c2
    have hs1 := hb1.size
    have hlt := lt_of_block hg1
    have HF := Lib.hid (And.intro (hb1.trans (hb.mono hb1.size)) (And.intro hg2 (show w.heap.size + 1 < g by omega)))
    clear hb hn hg2 c1 hg hs1 hb1 hg1 hm1 hR hlt hgm
    go_wp2_with fail
    refine c2.mono ?_
    rintro e w3 ⟨rfl, _, he⟩
    have hr3 := he.heap HF.out.2.1 (show ¬ w.heap.size + 1 = g by have := HF.out.2.2; omega)
    have HG := Lib.hid (And.intro (Eff.below HF.out.1 he HF.out.1.size (fun k hk => by have := HF.out.2.2; have : k = g := hk; omega)) hr3)
    have r0 : w3.cell? ⟨w.heap.size + 1, 0, none⟩ = some (.int .i64 0) := by rw [cell_of_row _ _ _ _ _ _ hr3]; rfl
    have r1 : w3.cell? ⟨w.heap.size + 1, 1, none⟩ = some (.int .u64 0) := by rw [cell_of_row _ _ _ _ _ _ hr3]; rfl
    have z0 : w3.frozen? ⟨w.heap.size + 1, 0, none⟩ = false := frozen_of_row _ _ _ _ _ hr3
    have z1 : w3.frozen? ⟨w.heap.size + 1, 1, none⟩ = false := frozen_of_row _ _ _ _ _ hr3
    clear he c2 hr3
    obtain ⟨a, m, x⟩ := R
    unfold labV
    go_wp2
    have hst := store_lab HG.out.2 (.int .i64 (a : Int)) (.int .u64 (m : Int))
    exact ret_lab2 rfl rfl rfl hst.1 rfl ⟨rfl, Eff.below HG.out.1 hst.2 HG.out.1.size (fun k hk => by have : k = w.heap.size + 1 := hk; omega)⟩
  · have hR0 : latR (nms lv) (nms cp) = false := by simpa using hL
    have c1 := fun W (hb : Below w.heap.size w W) => new_no v1 v2 lv cp W (h1.below hb) (h2.below hb) hml hR0
    have c1 := c1 _ hb2
    rw [if_neg hL] at hR
    subst hR
    have HB := Lib.hid (And.intro hb2 hg1)
    clear h1 h2 hb2 hg1 hml hL hR0 hmax
    go_enter Tryz.func8, Tryz.ntmps8
    go_wp2_with fail
    generalize (w.alloc (.cells #[v1, v2] 24 (0, 0))).alloc (.cells #[.int .i64 0, .int .u64 0] 27 (0, 0)) = w1 at *
    refine c1.mono ?_
    rintro e w2 ⟨rfl, hb⟩
    have hr3 := (hb.block _ (lt_of_block HB.out.2)).trans HB.out.2
    have HG := Lib.hid (And.intro (HB.out.1.trans (hb.mono HB.out.1.size)) hr3)
    have r0 : w2.cell? ⟨w.heap.size + 1, 0, none⟩ = some (.int .i64 0) := by rw [cell_of_row _ _ _ _ _ _ hr3]; rfl
    have r1 : w2.cell? ⟨w.heap.size + 1, 1, none⟩ = some (.int .u64 0) := by rw [cell_of_row _ _ _ _ _ _ hr3]; rfl
    have z0 : w2.frozen? ⟨w.heap.size + 1, 0, none⟩ = false := frozen_of_row _ _ _ _ _ hr3
    have z1 : w2.frozen? ⟨w.heap.size + 1, 1, none⟩ = false := frozen_of_row _ _ _ _ _ hr3
    clear hb c1 hr3
    go_wp2
    have hst := store_lab HG.out.2 (.int .i64 0) (.int .u64 0)
    exact ret_lab2 rfl rfl rfl hst.1 rfl ⟨rfl, Eff.below HG.out.1 hst.2 HG.out.1.size (fun k hk => by have : k = w.heap.size + 1 := hk; omega)⟩
end Go.Proofs.YtmcianehedhfeaaGreatDoor
