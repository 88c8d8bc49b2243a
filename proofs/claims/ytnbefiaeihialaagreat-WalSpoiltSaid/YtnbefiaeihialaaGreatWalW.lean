/- Package wal: find. -/
import Derived.Test.YtnbefiaeihialaaGreatWalV
set_option linter.unusedVariables false
set_option linter.unusedSimpArgs false
namespace Go.Proofs.YtnbefiaeihialaaGreat
open Go.RowKit
def needF (L j : Nat) : Nat := if j = 0 then 14 else 47 + L
def findV (o : Option (Nat × Nat × Bs)) : Value := match o with
  | none => .tuple #[.int .i64 0, .int .i64 0, .string ⟨#[]⟩, .bool false]
  | some (g, n, t) => .tuple #[.int .i64 g, .int .i64 n, .string ⟨t.toArray⟩, .bool true]
def FindP (s mb g D c : Nat) (R : List Value) (k : Dk) (st : St) (o : Option (Nat × Nat × Bs)) (w : World) (e : Ending) (w' : World) : Prop :=
  ∃ d' tab', e = .returned (findV o) ∧ StAt w' s mb g D c R k st d' tab' ∧ SumOk d' tab' ∧ Eff (fun x => x = s) w w'
/-- The worlds that find may come through. -/
def FindC (s mb g D c : Nat) (R : List Value) (k : Dk) (st : St) (w W : World) : Prop := ∃ d' tab', StAt W s mb g D c R k st d' tab' ∧ SumOk d' tab' ∧ Eff (fun x => x = s) w W
/-- A class of worlds, by names. -/
theorem classOf (C : World → Prop) : ∃ (I : Type) (f : I → World), ∀ W, C W ↔ ∃ i, W = f i :=
  ⟨{ W // C W }, Subtype.val, fun W => ⟨fun h => ⟨⟨W, h⟩, rfl⟩, fun ⟨i, e⟩ => e ▸ i.2⟩⟩
/-- A region that draws its order, whose operations and calls keep to a class of worlds and yield the same in each: one walk. -/
theorem wp_region_class {I : Type} (f : I → World) {P : Program} {id : Nat} {Q : Exit → Act → World → Prop} {a : Act} {w : World} {l : List Oper} (hm : P.follows .mixedOrders = true) (hB : Region.lexB .any l.toArray = true) (hC : ∃ i, w.drew = f i)
    (h : wpQuiet P l.toArray (fun w' => ∃ i, w' = f i) (fun a' => ∀ w', (∃ i, w' = f i) → Q .normal a' w') l a) : (Code.region id l.toArray true).wp P Q a w :=
  wp_region_quiet (C := fun w' => ∃ i, w' = f i) hm hB hC (by simpa using h)
theorem joinR_len {rd : Nat → Bs} {a : Nat} : ∀ q, (∀ i, i < q → (rd (a + i)).length = 64) → (joinR rd a q).length = 64 * q
  | 0, _ => rfl
  | q + 1, h => by unfold joinR; rw [List.length_append, joinR_len q (fun i hi => h i (by omega)), h q (by omega)]; omega
theorem results_tmp4 {fn : Func} {t u v x : Tmp} (h : fn.results = #[.tmp t, .tmp u, .tmp v, .tmp x]) (tmps : Array Value) (P : Program) (w : World) :
    (results fn tmps).run P w = .ok (.tuple #[tmps.getD t undef, tmps.getD u undef, tmps.getD v undef, tmps.getD x undef]) w := by
  simp [results, h]
theorem effL {b : Nat} {w w' : World} (h : Below b w w') : Eff (fun x => b ≤ x) w w' := ⟨h.os, h.tape, h.output, h.size, fun k _ hn => h.block k (Nat.lt_of_not_le hn)⟩
theorem blen_any (B b : Nat) (l : Bs) (w : World) (h : BB w B b l) : Calls Tryz.prog 59 #[.pointer (some ⟨b, 0, none⟩)] w fun e w' => e = .returned (.int .i64 l.length) ∧ w = w' := by
  have := Tryz.Builder_Len_f B b (Lib.byteCells l) w h
  rw [Lib.byteCells_length] at this
  exact this.mono fun _ _ ⟨h1, h2⟩ => ⟨h1, h2.symm⟩
set_option maxRecDepth 100000 in
set_option maxHeartbeats 16000000 in
theorem find_any (s mb g D c : Nat) (R : List Value) (k : Dk) (st : St) (d : Int) (tab : List Int) (side at_ : Nat) (w : World) (hst : StAt w s mb g D c R k st d tab) (hd : SumOk d tab) (hdn : k.down = false) (hf : st.from_ + 2 * st.half ≤ k.n) (hsd : side ≤ 1) (hat : at_ ≤ 100000) :
    Calls Tryz.prog 41 #[.pointer (some ⟨s, 0, none⟩), .int .i64 side, .int .i64 at_] w (FindP s mb g D c R k st (findF shaF (rdS k st.from_ st.half side) st.half at_) w) := by
  have hkn := hst.dk.ok.n2
  obtain ⟨F, hF⟩ : ∃ F, F = findF shaF (rdS k st.from_ st.half side) st.half at_ := ⟨_, rfl⟩
  rw [← hF]
  obtain ⟨rd, hrd⟩ : ∃ rd, rd = rdS k st.from_ st.half side := ⟨_, rfl⟩
  rw [← hrd] at hF
  obtain ⟨L, hL⟩ : ∃ L, L = lenF (rd at_) := ⟨_, rfl⟩
  obtain ⟨Q, hQ⟩ : ∃ Q, Q = secN (46 + L) := ⟨_, rfl⟩
  have hQ1 : 64 * Q ≥ 47 + L ∧ 64 * (Q - 1) < 47 + L ∧ 1 ≤ Q := by rw [hQ]; unfold secN; omega
  have hshN : side * st.half ≤ st.half := by
    have : side * st.half ≤ 1 * st.half := Nat.mul_le_mul_right _ hsd
    omega
  have hshe : (side : Int) * (st.half : Int) = ((side * st.half : Nat) : Int) := by simp
  have hsh0 : (0 : Int) ≤ (side : Int) * (st.half : Int) := Int.mul_nonneg (by omega) (by omega)
  have hsh1 : (side : Int) * (st.half : Int) ≤ 100000 := by omega
  have hrl : ∀ i, i < st.half → (rd i).length = 64 := fun i hi => by rw [hrd]; exact sec_len hst.dk.ok (by omega)
  have hf0 : (0 : Int) ≤ (st.from_ : Int) := by omega
  have ha0 : (0 : Int) ≤ (at_ : Int) := by omega
  have hmw1 : IntKind.i64.wrap ((side : Int) * (st.half : Int)) = (side : Int) * (st.half : Int) := by rw [IntKind.wrap_i64]; omega
  have hmw2 : IntKind.i64.wrap ((st.from_ : Int) + (side : Int) * (st.half : Int)) = (st.from_ : Int) + (side : Int) * (st.half : Int) := by rw [IntKind.wrap_i64]; omega
  have hmw3 : IntKind.i64.wrap ((st.from_ : Int) + (side : Int) * (st.half : Int) + (at_ : Int)) = (st.from_ : Int) + (side : Int) * (st.half : Int) + (at_ : Int) := by rw [IntKind.wrap_i64]; omega
  have crd : ∀ W i, DkAt W g D c R k → at_ + i < st.half → Calls Tryz.prog 60 #[.pointer (some ⟨g, 0, none⟩), .int .i64 ((st.from_ : Int) + (side : Int) * (st.half : Int) + (at_ : Int) + (i : Int))] W fun e w' => e = .returned (.tuple #[.string ⟨(rd (at_ + i)).toArray⟩, .int .i64 0]) ∧ W = w' := fun W i hW hi => by
    have h := read_in g D c R k (st.from_ + side * st.half + (at_ + i)) W hW hdn (by omega)
    rw [show ((st.from_ + side * st.half + (at_ + i) : Nat) : Int) = (st.from_ : Int) + (side : Int) * (st.half : Int) + (at_ : Int) + (i : Int) by rw [hshe]; omega] at h
    rw [hrd]; exact h
  have hS1 : StAt (w.alloc (.cells #[.pointer none, .slice none 0 0] 75 (0, 0))) s mb g D c R k st d tab := hst.below ((Below.refl _ w).alloc (Nat.le_refl _) _)
  have hbb := bb_new w w.heap.size (Nat.le_refl _)
  have hE1 := (Eff.refl (fun x => x = s) w).alloc (.cells #[.pointer none, .slice none 0 0] 75 (0, 0))
  have hsz : w.heap.size < (w.alloc (.cells #[.pointer none, .slice none 0 0] 75 (0, 0))).heap.size := by simp
  obtain ⟨b, hb⟩ : ∃ b, b = w.heap.size := ⟨_, rfl⟩
  rw [← hb] at hbb hsz
  have hlow : s < b ∧ g < b ∧ D < b ∧ mb < b := by
    have h1 := hst.mem.lt
    have h2 := lt_of_block hst.dk.mem
    have h3 := lt_of_block hst.dk.dat
    have h4 := hst.map.lt
    omega
  have H := Lib.hid (And.intro hst (And.intro hd (And.intro hlow hb)))
  have HF := Lib.hid (And.intro hF (And.intro hL hQ))
  have HRL := Lib.hid hrl
  have CRD := Lib.hid crd
  clear hst hd hrd hF hL hQ hrl crd hshe hlow hshN
  go_enter Tryz.func41, Tryz.ntmps41
  go_wp2
  rw [← hb]
  clear hb
  generalize w.alloc (.cells #[.pointer none, .slice none 0 0] 75 (0, 0)) = w1 at *
  have H1 := Lib.hid (And.intro hS1 (And.intro hbb hE1))
  clear hS1 hbb hE1
  go_loopw [11, 12] (fun x i wr => ∃ j : Nat, j ≤ Q ∧ i = .int .i64 j ∧ x = .int .i64 (needF L j) ∧ Hid (BB wr b b (joinR rd at_ j) ∧ Below b w1 wr ∧ (0 < j → at_ + j ≤ st.half))) (fun _ i _ => Q - (intOf i).toNat)
  case atStart => exact ⟨0, Nat.zero_le _, rfl, rfl, Lib.hid ⟨H1.out.2.1, Below.refl _ _, fun h => absurd h (by omega)⟩⟩
  case round =>
    obtain ⟨j, hj, rfl, rfl, hrl⟩ := hrel
    obtain ⟨wo, rfl⟩ : ∃ wo : World, wo = wr := ⟨_, rfl⟩
    have hj0 : (0 : Int) ≤ (j : Int) := by omega
    have hjlen : (joinR rd at_ j).length = 64 * j := joinR_len j (fun i hi => HRL.out _ (by have := hrl.out.2.2 (by omega); omega))
    have cb := blen_any b b _ wo hrl.out.1
    rw [hjlen] at cb
    have hS : StAt wo s mb g D c R k st d tab := H1.out.1.keep (effL hrl.out.2.1) (by have := H.out.2.2.1; omega) (by have := H.out.2.2.1; omega) (by have := H.out.2.2.1; omega) (by have := H.out.2.2.1; omega)
    have hj4 : j ≤ 4096 := by
      rcases Nat.eq_zero_or_pos j with h | h
      · omega
      · have := hrl.out.2.2 h; omega
    have hns : (0 : Int) ≤ (needF L j : Int) := by omega
    have hwj : IntKind.i64.wrap ((at_ : Int) + (j : Int)) = (at_ : Int) + (j : Int) := by rw [IntKind.wrap_i64]; omega
    have hwj2 : IntKind.i64.wrap ((j : Int) + 1) = (j : Int) + 1 := by rw [IntKind.wrap_i64]; omega
    have h2 : wo.cell? ⟨s, 2, none⟩ = some (.int .i64 st.half) := hS.mem.cells.2.2.1
    by_cases hlt : 64 * j < needF L j
    · have hjQ : j < Q := by unfold needF at hlt; split at hlt <;> omega
      have hlti : ((64 * j : Nat) : Int) < (needF L j : Int) := by omega
      have hlti2 : (64 : Int) * (j : Int) < (needF L j : Int) := by omega
      by_cases hend : (st.half : Int) ≤ (at_ : Int) + (j : Int)
      · have hF : F = none := by
          rw [HF.out.1]; unfold findF
          by_cases h : st.half ≤ at_
          · rw [if_pos h]
          · rw [if_neg h, ← HF.out.2.1, ← HF.out.2.2, if_pos (by omega)]
        have HR := Lib.hid (And.intro hF (And.intro hS (H1.out.2.2.trans' (effL hrl.out.2.1) (fun i hi e => by have h1 := H.out.2.2; omega))))
        clear hF hS hrl hjlen
        go_wp2_with (go_at_call 59; refine cb.mono ?_; rintro e w9 ⟨rfl, rfl⟩)
        (try simp only [Exit.inBlock, Exit.then])
        refine bodyPost_ret (results_tmp4 rfl _ _ _) rfl ?_
        rw [HR.out.1]
        exact ⟨d, tab, rfl, HR.out.2.1, H.out.2.1, HR.out.2.2⟩
      · have h0 : wo.cell? ⟨s, 0, none⟩ = some (.pointer (some ⟨g, 0, none⟩)) := hS.mem.cells.1
        have h1 : wo.cell? ⟨s, 1, none⟩ = some (.int .i64 st.from_) := hS.mem.cells.2.1
        have hwj3 : IntKind.i64.wrap ((st.from_ : Int) + (side : Int) * (st.half : Int) + (at_ : Int) + (j : Int)) = (st.from_ : Int) + (side : Int) * (st.half : Int) + (at_ : Int) + (j : Int) := by rw [IntKind.wrap_i64]; omega
        have cR := fun n => CRD.out (wo.drewN n) j (hS.dk.drewN n) (by omega)
        obtain ⟨SC, hSC⟩ : ∃ SC : ByteArray, SC = ⟨(rd (at_ + j)).toArray⟩ := ⟨_, rfl⟩
        rw [← hSC] at cR
        have hSCd : SC.data.toList = rd (at_ + j) := by rw [hSC]
        have hSCz : SC.size = 64 := by rw [← bsize, hSCd]; exact HRL.out _ (by omega)
        have HS := Lib.hid (And.intro hS hSCd)
        clear hSC hSCd hS
        go_wp2_with (go_at_call 59; refine cb.mono ?_; rintro e w9 ⟨rfl, rfl⟩)
        clear cb
        go_quiet ((go_at_call 60; with_reducible exact quietly (cR _)))
        have hS2 := HS.out.1.keep (S := fun _ => False) ((Eff.refl _ _).drewN nq) id id id id
        have hbb2 := bb_below hrl.out.1 (w' := wo.drewN nq) ⟨rfl, rfl, rfl, Nat.le_refl _, fun _ _ => rfl⟩
        have hbl2 : Below b w1 (wo.drewN nq) := ⟨hrl.out.2.1.os, hrl.out.2.1.tape, hrl.out.2.1.output, hrl.out.2.1.size, hrl.out.2.1.block⟩
        generalize wo.drewN nq = w3 at *
        have hbz : b ≤ w3.heap.size := by have := hbl2.size; omega
        have cw := wstr b b (joinR rd at_ j) SC w3 hbb2 (by rw [hjlen]; omega) hbz
        rw [HS.out.2] at cw
        have hjn : joinR rd at_ j ++ rd (at_ + j) = joinR rd at_ (j + 1) := rfl
        rw [hjn] at cw
        have cn := fun W => number_any (SC.extract 10 14) W (by rw [ByteArray.size_extract]; omega)
        have hln : j = 0 → numF (SC.extract 10 14).data.toList = L := fun h => by
          subst h
          rw [ext_list, HS.out.2, HF.out.2.1]; rfl
        have hLm : numF (SC.extract 10 14).data.toList < 4294967296 := by
          have h1 := numF_lt (SC.extract 10 14).data.toList
          have h2 : 256 ^ (SC.extract 10 14).data.toList.length ≤ 256 ^ 4 := Nat.pow_le_pow_right (by decide) (by rw [bsize, ByteArray.size_extract]; omega)
          omega
        generalize numF (SC.extract 10 14).data.toList = LL at *
        have HT := Lib.hid (And.intro hbl2 hln)
        clear hS2 hbb2 hbl2 hjlen cR hln hjn
        go_wp2_with fail
        refine cw.mono ?_
        rintro e w4 ⟨rfl, hbb4, hbl4, _⟩
        have HB := Lib.hid (And.intro hbb4 (HT.out.1.trans hbl4))
        clear cw hbb4 hbl4
        by_cases hj00 : j = 0
        · subst hj00
          obtain rfl := HT.out.2 rfl
          have hw5 : IntKind.i64.wrap (14 + (LL : Int)) = 14 + (LL : Int) := by rw [IntKind.wrap_i64]; omega
          have hw6 : IntKind.i64.wrap (14 + (LL : Int) + 32) = 14 + (LL : Int) + 32 := by rw [IntKind.wrap_i64]; omega
          have hw7 : IntKind.i64.wrap (14 + (LL : Int) + 32 + 1) = 14 + (LL : Int) + 32 + 1 := by rw [IntKind.wrap_i64]; omega
          go_wp2_with fail
          refine (cn _).mono ?_
          rintro e w5 ⟨rfl, hb5⟩
          have HB2 := Lib.hid (And.intro (bb_below HB.out.1 hb5) (HB.out.2.trans (hb5.mono (by have := HB.out.2.size; omega))))
          clear hb5 cn
          go_wp2
          refine ⟨⟨1, by omega, rfl, ?_, Lib.hid ⟨HB2.out.1, HB2.out.2, fun _ => by omega⟩⟩, by simp [intOf]; omega⟩
          have e : needF LL 1 = 47 + LL := rfl
          rw [e]; go_num
        · have hjn0 : ((j : Int) == 0) = false := by rw [Bool.eq_false_iff]; intro e; have := beq_iff_eq.1 e; omega
          go_wp2
          refine ⟨⟨j + 1, by omega, by go_num, ?_, Lib.hid ⟨HB.out.1, HB.out.2, fun _ => by omega⟩⟩, by simp [intOf]; omega⟩
          have e : needF L (j + 1) = needF L j := by unfold needF; rw [if_neg (by omega), if_neg hj00]
          rw [e]
    · have hj1 : 0 < j := by
        rcases Nat.eq_zero_or_pos j with h | h
        · subst h; exact absurd (show 64 * 0 < 14 by decide) hlt
        · exact h
      have hnd : needF L j = 47 + L := by unfold needF; rw [if_neg (by omega)]
      rw [hnd] at hlt ⊢
      obtain rfl : j = Q := by omega
      have hge := hrl.out.2.2 hj1
      have hF : F = if GoodR shaF (joinR rd at_ j) L then some (tellF (joinR rd at_ j) L) else none := by
        rw [HF.out.1]; unfold findF
        rw [if_neg (by omega), ← HF.out.2.1, ← HF.out.2.2, if_neg (by omega)]
      have hlti2 : ¬ ((64 : Int) * (j : Int) < 47 + (L : Int)) := by omega
      have cs := bstr b b (joinR rd at_ j) wo hrl.out.1 (by have := hrl.out.2.1.size; omega)
      obtain ⟨RS, hRS⟩ : ∃ RS : ByteArray, RS = ⟨(joinR rd at_ j).toArray⟩ := ⟨_, rfl⟩
      rw [← hRS] at cs
      have hRSd : RS.data.toList = joinR rd at_ j := by rw [hRS]
      have hRSz : RS.size = 64 * j := by rw [← bsize, hRSd, hjlen]
      rw [← hRSd] at hF
      have HR := Lib.hid (And.intro hF (And.intro hS (H1.out.2.2.trans' (effL hrl.out.2.1) (fun i hi e => by have h1 := H.out.2.2; omega))))
      have hbl := hrl.out.2.1
      clear hF hS hrl hjlen hRS hRSd h2 hwj hwj2 hnd
      have hL0 : (0 : Int) ≤ (L : Int) := by omega
      have hR64 : (64 : Int) ≤ (RS.size : Int) := by omega
      have hR63 : (63 : Int) ≤ (RS.size : Int) := by omega
      go_wp2_with (first | (go_at_call 59; refine cb.mono ?_; rintro e w9 ⟨rfl, rfl⟩) | (go_at_call 33; refine cs.mono ?_; rintro e w9 ⟨rfl, hb9, hl9, hk9⟩))
      have hb9b : Below b w1 w9 := hbl.trans hl9
      have HB := Lib.hid hb9b
      have hnw : IntKind.i64.wrap (47 + (L : Int) - 1) = 46 + (L : Int) := by rw [IntKind.wrap_i64]; omega
      obtain ⟨BD, hBD⟩ : ∃ BD : ByteArray, BD = (RS.extract 0 63 ++ RS.extract 64 RS.size).extract 0 (46 + L) := ⟨_, rfl⟩
      clear cs hb9 hl9 hk9 hbl hb9b
      go_quiet (fail)
      rw [show (47 : Int) + (L : Int) - 1 = 46 + (L : Int) by omega, show 47 + L - 1 = 46 + L by omega]
      rw [hRSz] at hBD
      rw [← hBD]
      have hBDd : BD.data.toList = bodyF RS.data.toList L := by
        rw [hBD, ext_list, ByteArray.data_append, Array.toList_append, ext_list, ext_list, List.drop_zero, Nat.sub_zero]
        unfold bodyF
        rw [List.drop_zero, List.take_of_length_le (l := RS.data.toList.drop 64) (by rw [List.length_drop, bsize, hRSz]; exact Nat.le_refl _)]
      have hBDz : BD.size = 46 + L := by
        rw [hBD, ByteArray.size_extract, ByteArray.size_append, ByteArray.size_extract, ByteArray.size_extract]; omega
      have hS10 : StAt (w9.drewN nq) s mb g D c R k st d tab := H1.out.1.keep (S := fun x => b ≤ x) ((effL HB.out).drewN nq) (by have := H.out.2.2.1; omega) (by have := H.out.2.2.1; omega) (by have := H.out.2.2.1; omega) (by have := H.out.2.2.1; omega)
      have hE10 : Eff (fun x => x = s) w (w9.drewN nq) := (H1.out.2.2.trans' (effL HB.out) (fun i hi e => by have h1 := H.out.2.2; omega)).drewN nq
      generalize w9.drewN nq = w10 at *
      have hm16 : ((RS.extract 63 64).toList == [77]) = decide (RS.data.toList.getD 63 0 = 77) := by
        rw [ByteArray.toList_eq, ext_list]
        have h63 : 63 < RS.data.toList.length := by rw [bsize, hRSz]; omega
        rw [List.drop_eq_getElem_cons h63, List.getD_eq_getElem?_getD, List.getElem?_eq_getElem h63]
        simp
        rw [Bool.eq_iff_iff, beq_iff_eq, decide_eq_true_iff]
      have hm2 : ((BD.extract 0 2).toList != [77, 71]) = !decide ((bodyF RS.data.toList L).take 2 = [77, 71]) := by
        rw [ByteArray.toList_eq, ext_list, hBDd, List.drop_zero]
        by_cases h : (bodyF RS.data.toList L).take 2 = [77, 71]
        · rw [h]; rfl
        · simp [h]
      have hm2' : ((BD.extract 0 2).toList == [77, 71]) = decide ((bodyF RS.data.toList L).take 2 = [77, 71]) := by
        have := hm2
        rw [bne] at this
        exact Bool.not_inj this
      have hHF := HR.out.1
      unfold GoodR at hHF
      have cS := fun W (hW : StB W s g st mb d 0 tab) => sum_any s g st mb d tab (BD.extract 0 (14 + L)) W hW H.out.2.1 (by rw [ByteArray.size_extract]; omega)
      have hb14 : (BD.extract 0 (14 + L)).data.toList = (bodyF RS.data.toList L).take (14 + L) := by rw [ext_list, hBDd, List.drop_zero, Nat.sub_zero]
      rw [hb14] at cS
      obtain ⟨SH, hSH⟩ : ∃ SH : ByteArray, SH = ⟨(shaF ((bodyF RS.data.toList L).take (14 + L))).toArray⟩ := ⟨_, rfl⟩
      have HSB := Lib.hid (And.intro hb14 hSH)
      rw [← hSH] at cS
      have hm3 : ((BD.extract (14 + L) (46 + L)).toList != SH.toList) = !decide ((bodyF RS.data.toList L).drop (14 + L) = shaF ((bodyF RS.data.toList L).take (14 + L))) := by
        rw [ByteArray.toList_eq, ByteArray.toList_eq, ext_list, hBDd, hSH]
        rw [List.take_of_length_le (by rw [List.length_drop, ← hBDd, bsize, hBDz]; omega)]
        by_cases h : (bodyF RS.data.toList L).drop (14 + L) = shaF ((bodyF RS.data.toList L).take (14 + L))
        · rw [h]; simp
        · simp [h]
      have hm3' : ((BD.extract (14 + L) (46 + L)).toList == SH.toList) = decide ((bodyF RS.data.toList L).drop (14 + L) = shaF ((bodyF RS.data.toList L).take (14 + L))) := by
        have := hm3
        rw [bne] at this
        exact Bool.not_inj this
      have ht2 : (BD.extract 2 6).data.toList = ((bodyF RS.data.toList L).drop 2).take 4 := by rw [ext_list, hBDd]
      have ht6 : (BD.extract 6 10).data.toList = ((bodyF RS.data.toList L).drop 6).take 4 := by rw [ext_list, hBDd]
      have htt : BD.extract 14 (14 + L) = ⟨(((bodyF RS.data.toList L).take (14 + L)).drop 14).toArray⟩ := by
        apply ba_ext; rw [ext_list, hBDd, List.drop_take]
      have cn2 := fun W => number_any (BD.extract 2 6) W (by rw [ByteArray.size_extract]; omega)
      have cn6 := fun W => number_any (BD.extract 6 10) W (by rw [ByteArray.size_extract]; omega)
      rw [ht2] at cn2
      rw [ht6] at cn6
      have htell : tellF RS.data.toList L = (numF (((bodyF RS.data.toList L).drop 2).take 4), numF (((bodyF RS.data.toList L).drop 6).take 4), ((bodyF RS.data.toList L).take (14 + L)).drop 14) := rfl
      rw [htell] at hHF
      generalize numF (((bodyF RS.data.toList L).drop 2).take 4) = G at *
      generalize numF (((bodyF RS.data.toList L).drop 6).take 4) = NU at *
      generalize ((bodyF RS.data.toList L).take (14 + L)).drop 14 = TX at *
      have hw32 : IntKind.i64.wrap (46 + (L : Int) - 32) = 14 + (L : Int) := by rw [IntKind.wrap_i64]; omega
      have hT1 : (14 + (L : Int)).toNat = 14 + L := by omega
      have hl1 : (14 : Int) ≤ 14 + (L : Int) := by omega
      have hl3 : (2 : Int) ≤ 46 + (L : Int) := by omega
      have hl4 : (6 : Int) ≤ 46 + (L : Int) := by omega
      have hl5 : (10 : Int) ≤ 46 + (L : Int) := by omega
      have hl6 : (0 : Int) ≤ 14 + (L : Int) := by omega
      have hl7 : (2 : Int) ≤ (BD.size : Int) := by omega
      have hl2 : 14 + (L : Int) ≤ 46 + (L : Int) := by omega
      have HX := Lib.hid (And.intro hHF (And.intro hS10 (And.intro hE10 (And.intro htt hSH))))
      clear hBD hBDd hb14 ht2 ht6 htt htell hSH hS10 hE10 hHF
      by_cases p1 : RS.data.toList.getD 63 0 = 77
      · rw [decide_eq_true p1] at hm16
        by_cases p2 : (bodyF RS.data.toList L).take 2 = [77, 71]
        · rw [decide_eq_true p2] at hm2 hm2'
          have cC : ∀ W, FindC s mb g D c R k st w W → Calls Tryz.prog 30 #[.pointer (some ⟨s, 0, none⟩), .string (BD.extract 0 (14 + L))] W fun e w' => e = .returned (.string SH) ∧ FindC s mb g D c R k st w w' := fun W hW => by
            obtain ⟨d', tab', h1, h2, h3⟩ := hW
            have h := sum_any s g st mb d' tab' (BD.extract 0 (14 + L)) W h1.mem h2 (by rw [ByteArray.size_extract]; omega)
            rw [HSB.out.1, ← HSB.out.2] at h
            exact h.mono fun e w' ⟨e1, e2, e3⟩ => ⟨e1, 1, tabF, h1.turn e3 e2 rfl, .inr ⟨rfl, rfl⟩, h3.trans e3⟩
          obtain ⟨I, f, hI⟩ := classOf (FindC s mb g D c R k st w)
          obtain ⟨i0, hi0⟩ := (hI w10.drew).1 ⟨d, tab, HX.out.2.1.keep (S := fun _ => False) (Eff.refl _ _).drew id id id id, H.out.2.1, HX.out.2.2.1.drew⟩
          haveI : Nonempty I := ⟨i0⟩
          have cI : ∀ i, Calls Tryz.prog 30 #[.pointer (some ⟨s, 0, none⟩), .string (BD.extract 0 (14 + L))] (f i) fun e w' => e = .returned (.string SH) ∧ ∃ i', w' = f i' := fun i => (cC (f i) ((hI _).2 ⟨i, rfl⟩)).mono fun e w' ⟨e1, e2⟩ => ⟨e1, (hI _).1 e2⟩
          have HI := Lib.hid (And.intro hI cI)
          have HP12 := Lib.hid (And.intro p1 p2)
          have HM3 := Lib.hid (And.intro hm3 hm3')
          clear hm3 hm3'
          have CN2 := Lib.hid cn2
          have CN6 := Lib.hid cn6
          clear cn2 cn6 hmw1 hmw2 hmw3 hsh0 hsh1 hf0 ha0 p1 p2 hnw hlt hj hm2 cC cI hI cS
          go_upto_region 18 with fail
          rw [hm16]
          refine wp_region_class f (by kernel_rfl) (by kernel_rfl) ⟨i0, hi0⟩ ?_
          repeat (go_big_quiet_step ((go_at_call 30; exact HI.out.2 _)))
          refine wpQuiet_nil ?_
          rintro wx ⟨ix, rfl⟩
          obtain ⟨d', tab', hS', hd', hE'⟩ := (HI.out.1 (f ix)).2 ⟨ix, rfl⟩
          generalize f ix = w12 at *
          have HY := Lib.hid (And.intro hS' (And.intro hd' hE'))
          obtain ⟨hm3, hm3'⟩ := HM3.out
          clear hS' hd' hE'
          by_cases p3 : (bodyF RS.data.toList L).drop (14 + L) = shaF ((bodyF RS.data.toList L).take (14 + L))
          · rw [decide_eq_true p3] at hm3 hm3'
            first | rw [hm3'] | rw [hm3]
            (try simp only [Bool.not_true, Bool.not_false])
            have HZ := Lib.hid (HX.out.1.trans (if_pos ⟨HP12.out.1, HP12.out.2, p3⟩))
            have cn2 : ∀ W, Calls Tryz.prog 35 #[.string (BD.extract 2 6)] W fun e w' => e = .returned (.int .i64 G) ∧ Below W.heap.size W w' := CN2.out
            have cn6 : ∀ W, Calls Tryz.prog 35 #[.string (BD.extract 6 10)] W fun e w' => e = .returned (.int .i64 NU) ∧ Below W.heap.size W w' := CN6.out
            clear p3
            go_upto_region 20 with fail
            have CN3 := Lib.hid cn2
            have CN7 := Lib.hid cn6
            clear cn2 cn6
            go_region_law (go_simp; go_at_call 35; (first | (with_reducible refine (CN3.out _).mono ?_) | (with_reducible refine (CN7.out _).mono ?_)); rintro e w13 ⟨rfl, hb13⟩)
            all_goals
              rename_i wA hbA
              have hb2 := ((Below.refl w12.heap.size w12).drew).trans (hbA.mono (Nat.le_refl _))
              have hb3 := hb2.trans (hb13.mono hb2.size)
              have HQ := Lib.hid (And.intro (HY.out.1.below hb3) (HY.out.2.2.trans (Eff.of_below hb3 _)))
              clear hbA hb13 hb2 hb3
              go_wp2
              (try simp only [Exit.inBlock, Exit.then])
              refine bodyPost_ret (results_tmp4 rfl _ _ _) rfl ?_
              rw [HZ.out]
              refine ⟨d', tab', ?_, HQ.out.1, HY.out.2.1, HQ.out.2⟩
              show Ending.returned (.tuple #[.int .i64 G, .int .i64 NU, .string (BD.extract 14 (14 + L)), .bool true]) = .returned (.tuple #[.int .i64 G, .int .i64 NU, .string ⟨TX.toArray⟩, .bool true])
              rw [HX.out.2.2.2.1]
          · rw [decide_eq_false p3] at hm3 hm3'
            first | rw [hm3'] | rw [hm3]
            (try simp only [Bool.not_true, Bool.not_false])
            have HZ := Lib.hid (HX.out.1.trans (if_neg (fun h => p3 h.2.2)))
            clear p3
            go_wp2
            (try simp only [Exit.inBlock, Exit.then])
            refine bodyPost_ret (results_tmp4 rfl _ _ _) rfl ?_
            rw [HZ.out]
            exact ⟨d', tab', rfl, HY.out.1, HY.out.2.1, HY.out.2.2⟩
        · rw [decide_eq_false p2] at hm2 hm2'
          have HZ := Lib.hid (HX.out.1.trans (if_neg (fun h => p2 h.2.1)))
          clear cS p1 p2 hm3 hm3' cn2 cn6
          go_upto_region 18 with fail
          rw [hm16]
          go_quiet (fail)
          go_wp2
          (try simp only [Exit.inBlock, Exit.then])
          refine bodyPost_ret (results_tmp4 rfl _ _ _) rfl ?_
          rw [HZ.out]
          exact ⟨d, tab, rfl, HX.out.2.1.keep (S := fun _ => False) ((Eff.refl _ _).drewN _) id id id id, H.out.2.1, HX.out.2.2.1.drewN _⟩
      · rw [decide_eq_false p1] at hm16
        have HZ := Lib.hid (HX.out.1.trans (if_neg (fun h => p1 h.1)))
        clear cS p1 hm2 hm3 hm2' hm3' cn2 cn6
        go_upto_region 18 with fail
        rw [hm16]
        go_quiet (fail)
        go_wp2
        (try simp only [Exit.inBlock, Exit.then])
        refine bodyPost_ret (results_tmp4 rfl _ _ _) rfl ?_
        rw [HZ.out]
        exact ⟨d, tab, rfl, HX.out.2.1.keep (S := fun _ => False) ((Eff.refl _ _).drewN _) id id id id, H.out.2.1, HX.out.2.2.1.drewN _⟩
end Go.Proofs.YtnbefiaeihialaaGreat
