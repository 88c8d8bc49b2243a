/- The document's lattice: Print. -/
import Derived.Test.YtmcianehedhfeaaGreatDoorRfC
import Derived.Test.YtmcianehedhfeaaGreatDoorMrkA
set_option linter.unusedVariables false
set_option linter.unusedSimpArgs false
namespace Go.Proofs.YtmcianehedhfeaaGreatDoor
open Go.RowKit
theorem fl_len : ∀ (l : List Bs), (∀ x ∈ l, x.length ≤ 16) → (fl l).length ≤ 17 * l.length
  | [], _ => by simp [fl]
  | x :: r, h => by
    have ih := fl_len r fun y hy => h y (List.mem_cons_of_mem _ hy)
    have := h x List.mem_cons_self
    rw [fl, List.length_cons, List.length_append, List.length_cons]; omega
theorem cat1 (x c : ByteArray) : (x ++ (⟨#[47]⟩ : ByteArray) ++ c).data.toList = x.data.toList ++ 47 :: c.data.toList := by simp
theorem cat2 (x c : ByteArray) : (x ++ (⟨#[47]⟩ : ByteArray) ++ (⟨#[47]⟩ : ByteArray) ++ c).data.toList = x.data.toList ++ 47 :: 47 :: c.data.toList := by simp
theorem ba_of {x : ByteArray} {l : Bs} (h : x.data.toList = l) : x = ⟨l.toArray⟩ := by subst h; simp
theorem str_get {l : List ByteArray} {j : Nat} (h : j < l.length) : (nms l)[j]'(by rw [nms_len]; exact h) = (str l j).data.toList := by
  unfold nms str
  rw [List.getElem_map, List.getD_eq_getElem?_getD, List.getElem?_eq_getElem h]; rfl
set_option maxRecDepth 100000 in
set_option maxHeartbeats 8000000 in
theorem rprint_any (v1 v2 : Value) (lv cp : List ByteArray) (a : Int) (m : Nat) (w : World) (h1 : SlIn w v1 lv) (h2 : SlIn w v2 cp) (hml : lv.length ≤ 9223372036854775807 ∧ cp.length ≤ 9223372036854775807) (hz : ∀ x ∈ lv ++ cp, x.size ≤ 9223372036854775807) (hmm : m < M64) :
    Calls Tryz.prog 7 #[.agg #[v1, v2], labV a m] w fun e w' => e = .returned (.tuple #[.string ⟨(lprT (nms lv) (nms cp) a m).toArray⟩, .int .i64 (lprE (nms lv) (nms cp) a m)]) ∧ Below w.heap.size w w' := by
  unfold labV
  obtain ⟨A, c, rfl, hA, hA0⟩ := id h1
  obtain ⟨B, q, rfl, hB, hB0⟩ := id h2
  have HIN := Lib.hid (And.intro hA (And.intro hB (And.intro h1 h2)))
  have HML := Lib.hid hml
  have HZ := Lib.hid hz
  clear hA hB hA0 hB0 h1 h2 hz
  generalize hn : lv.length = n at *
  generalize hk : cp.length = k at *
  obtain ⟨hnm, hkm⟩ := hml
  have HNK := Lib.hid (And.intro hn hk)
  have hn0 : (0 : Int) ≤ (n : Int) := by omega
  have hk0 : (0 : Int) ≤ (k : Int) := by omega
  clear hn hk
  have hlat := latR_iff (nms lv) (nms cp)
  obtain ⟨E, hE⟩ : ∃ E, E = lprE (nms lv) (nms cp) a m := ⟨_, rfl⟩
  obtain ⟨T, hT⟩ : ∃ T, T = lprT (nms lv) (nms cp) a m := ⟨_, rfl⟩
  rw [← hE, ← hT]
  unfold lprE at hE
  unfold lprT at hT
  have hinv := fun h => inL_inv (lv := nms lv) (cp := nms cp) (a := a) (m := m) h
  have hin2 : latR (nms lv) (nms cp) = false → inL (nms lv) (nms cp) a m = false := fun h => by unfold inL; rw [h]; rfl
  have hbx := And.intro (heap_alloc2_old w (.cells #[.slice A n c, .slice B k q] 24 (0, 0)) (.cells #[.int .i64 a, .int .u64 (m : Int)] 27 (0, 0))) (heap_alloc2_new w (.cells #[.slice A n c, .slice B k q] 24 (0, 0)) (.cells #[.int .i64 a, .int .u64 (m : Int)] 27 (0, 0)))
  have hb3 := below2 w (.cells #[.slice A n c, .slice B k q] 24 (0, 0)) (.cells #[.int .i64 a, .int .u64 (m : Int)] 27 (0, 0))
  go_enter Tryz.func7, Tryz.ntmps7
  go_wp2_with fail
  generalize ((w.alloc (.cells #[.slice A n c, .slice B k q] 24 (0, 0))).alloc (.cells #[.int .i64 a, .int .u64 (m : Int)] 27 (0, 0))) = w1 at *
  obtain ⟨C, hCd⟩ : ∃ C : World → Prop, C = fun w3 => Hid (Below w1.heap.size w1 w3) := ⟨_, rfl⟩
  have key2 : ∀ w3, C w3 → w3.cell? ⟨w.heap.size, 0, none⟩ = some (.slice A n c) ∧ w3.cell? ⟨w.heap.size, 1, none⟩ = some (.slice B k q) ∧ w3.cell? ⟨w.heap.size + 1, 0, none⟩ = some (.int .i64 a) ∧ w3.cell? ⟨w.heap.size + 1, 1, none⟩ = some (.int .u64 (m : Int)) ∧ C w3 := by
    intro w3 h
    have hb := h
    rw [hCd] at hb
    obtain ⟨x0, y0⟩ := agg_keep hbx.1 hb.out
    obtain ⟨x1, y1⟩ := agg_keep hbx.2 hb.out
    exact ⟨x0, y0, x1, y1, h⟩
  have hCs : ∀ w3, C w3 → C w3.drew := fun w3 h => by rw [hCd] at h ⊢; exact Lib.hid h.out.drew
  have hC2 : C w1 := by rw [hCd]; exact Lib.hid (Below.refl _ _)
  have hCb : ∀ w3, C w3 → Below w.heap.size w w3 := fun w3 h => by rw [hCd] at h; exact hb3.trans (h.out.mono hb3.size)
  have hCn : ∀ W W', C W → Below W.heap.size W W' → C W' := fun W W' h h' => by rw [hCd] at h ⊢; exact Lib.hid (h.out.trans (h'.mono h.out.size))
  have hCk : ∀ W o, C W → C (W.alloc o) := fun W o h => hCn W _ h ((Below.refl _ W).alloc (Nat.le_refl _) o)
  have HCK := Lib.hid hCk
  have hsl : ∀ W, C W → SlIn W (.slice A n c) lv ∧ SlIn W (.slice B k q) cp ∧ StrsIn W A n lv ∧ StrsIn W B k cp := fun W h => by have hb := hCb W h; exact ⟨HIN.out.2.2.1.below hb, HIN.out.2.2.2.below hb, HIN.out.1.below hb, HIN.out.2.1.below hb⟩
  have HSL := Lib.hid hsl
  clear hsl
  have HCB := Lib.hid hCb
  have HCN := Lib.hid hCn
  have HCS := Lib.hid hCs
  have HKY := Lib.hid key2
  clear hCb hCn hCs hCk key2 hbx hb3 hCd
  have cR := fun W (h : C W) => (rright_any (.slice A n c) (.slice B k q) lv cp W (HSL.out W h).1 (HSL.out W h).2.1 (by rw [HNK.out.1, HNK.out.2]; exact HML.out) HZ.out).mono fun e w3 ⟨he, hb⟩ => (⟨he, HCN.out W w3 h hb⟩ : _ ∧ C w3)
  have cI := fun W (h : C W) => (rin_any (.slice A n c) (.slice B k q) lv cp a m W (HSL.out W h).1 (HSL.out W h).2.1 (by rw [HNK.out.1, HNK.out.2]; exact HML.out) HZ.out hmm).mono fun e w3 ⟨he, hb⟩ => (⟨he, HCN.out W w3 h hb⟩ : _ ∧ C w3)
  have cH := fun (i : Nat) (hi : i < 64) W (h : C W) => (has_any a m i hmm hi W).mono fun e w3 ⟨he, hb⟩ => (⟨he, HCN.out W w3 h hb⟩ : _ ∧ C w3)
  unfold labV at cH cI
  generalize hL : latR (nms lv) (nms cp) = L at *
  generalize hI : inL (nms lv) (nms cp) a m = I at *
  have HL := Lib.hid hL
  have HI := Lib.hid hI
  have HE := Lib.hid hE
  have HT := Lib.hid hT
  have HV := Lib.hid hinv
  have HI2 := Lib.hid hin2
  clear hL hI hE hT hinv hin2 hlat hmm
  refine (cR _ hC2).mono ?_
  rintro e wa ⟨rfl, hCa⟩
  clear cR hC2
  obtain ⟨a0, a1, a2, a3, aC⟩ := HKY.out _ hCa
  cases L with
  | false =>
    obtain rfl := HI2.out rfl
    obtain rfl : E = 2 := HE.out
    obtain rfl : T = [] := HT.out
    clear cI cH
    go_wp2
    go_ret2
    exact ⟨rfl, HCB.out _ hCa⟩
  | true =>
    go_wp2_with fail
    refine (cI _ hCa).mono ?_
    rintro e wb ⟨rfl, hCb⟩
    clear cI
    clear a0 a1 a2 a3 aC
    obtain ⟨b0, b1, b2, b3, bC⟩ := HKY.out _ hCb
    cases I with
    | false =>
      obtain rfl : E = 8 := HE.out
      obtain rfl : T = [] := HT.out
      clear cH
      go_wp2
      go_ret2
      exact ⟨rfl, HCB.out _ hCb⟩
    | true =>
      obtain rfl : E = 0 := HE.out
      obtain ⟨hok, a, rfl, ha, hm2⟩ := HV.out rfl
      have hT2 : T = ltxt (nms lv) (nms cp) a m := HT.out
      rw [nms_len, HNK.out.1] at ha
      rw [nms_len, HNK.out.2] at hm2
      have hk64 : k ≤ 64 := by have := hok.c64; rw [nms_len, HNK.out.2] at this; exact this
      obtain ⟨hA, hB⟩ := (HSL.out _ hCb).2.2
      obtain ⟨bA, oA, rfl, hcA⟩ := hA.cells (by omega)
      have hca := hcA a ha
      have haz : (str lv a).data.toList.length ≤ 16 := by
        rw [← str_get (by rw [HNK.out.1]; exact ha)]
        exact (nmOk_len (hok.lvn (by rw [nms_len, HNK.out.1]; exact ha))).2
      rw [ltxt_eq (by rw [nms_len, HNK.out.1]; exact ha), str_get (by rw [HNK.out.1]; exact ha)] at hT2
      have hai : (a : Int) < (n : Int) := by omega
      have ha0 : (0 : Int) ≤ (a : Int) := by omega
      have hSa := bsize (str lv a)
      generalize str lv a = sa at *
      have HT2 := Lib.hid (And.intro hT2 (And.intro hok haz))
      have hsa : sa.size ≤ 16 := by omega
      clear hT2 hok haz hA hB hcA hSa
      go_wp2
      clear hca  b0 b1 b2 b3 bC
      go_loopw [6, 7, 8] (fun sv fv i wr => ∃ (j : Nat) (sB : ByteArray) (f : Bool), j ≤ k ∧ i = .int .i64 j ∧ sv = .string sB ∧ fv = .bool f ∧ sB.size ≤ 16 + 18 * j ∧ Hid (f = decide (selF (nms cp |>.take j) m = []) ∧ sB.data.toList = sa.data.toList ++ tl (selF ((nms cp).take j) m)) ∧ C wr) (fun _ _ i _ => k - (intOf i).toNat)
      case atStart => exact ⟨0, sa, true, Nat.zero_le _, rfl, rfl, rfl, by omega, Lib.hid ⟨by simp [selF], by simp [selF, tl]⟩, hCb⟩
      case round =>
        clear hCb
        obtain ⟨j, sB, f, hj, rfl, rfl, rfl, hsB, hst, hCr⟩ := hrel
        have hj0 : (0 : Int) ≤ (j : Int) := by omega
        obtain ⟨r0, r1, r2, r3, rC⟩ := HKY.out _ hCr
        by_cases hjk : j < k
        · have hji : (j : Int) < (k : Int) := by omega
          have c1 := cH j (by omega) _ hCr
          have hjc : j < (nms cp).length := by rw [nms_len, HNK.out.2]; exact hjk
          have hsel := selF_take (nms cp) m j hjc
          rw [str_get (by rw [HNK.out.2]; exact hjk)] at hsel
          have hcz : (str cp j).data.toList.length ≤ 16 := by
            rw [← str_get (by rw [HNK.out.2]; exact hjk)]
            exact (nmOk_len (HT2.out.2.1.cpn _ (List.getElem_mem hjc))).2
          cases hb : hasB m j with
          | false =>
            rw [if_neg (hasB_false.1 hb), List.append_nil] at hsel
            have HS := Lib.hid (And.intro hsel hst.out)
            rw [hb] at c1
            clear hb hsel hst hcz hjc
            go_wp2_with fail
            refine c1.mono ?_
            rintro e wc ⟨rfl, hCc⟩
            clear c1
            go_wp2
            go_roundw
            case rel => exact ⟨j + 1, sB, f, by omega, by go_num, rfl, rfl, by omega, Lib.hid ⟨by rw [HS.out.1]; exact HS.out.2.1, by rw [HS.out.1]; exact HS.out.2.2⟩, hCc⟩
            case measure => simp [intOf]; omega
          | true =>
            rw [if_pos (hasB_true.1 hb)] at hsel
            have htl := tl_snoc (selF ((nms cp).take j) m) (str cp j).data.toList
            rw [← hsel] at htl
            have hSc := bsize (str cp j)
            have hne : selF ((nms cp).take (j + 1)) m ≠ [] := by rw [hsel]; simp
            have HS := Lib.hid (And.intro htl (And.intro hne hst.out))
            rw [hb] at c1
            have HCC := Lib.hid (fun (W : World) (h : C W) => (HSL.out W h).2.2.2)
            have hcB : ∀ W, C W → ∃ bB oB, B = some ⟨bB, oB, none⟩ ∧ W.cell? ⟨bB, oB + j, none⟩ = some (.string (str cp j)) := fun W h => by
              obtain ⟨bB, oB, e, hc⟩ := (HCC.out W h).cells (by omega)
              exact ⟨bB, oB, e, hc j hjk⟩
            have HCB2 := Lib.hid hcB
            have hcs : (str cp j).size ≤ 16 := by omega
            clear hb hsel hst hcz hjc htl hne hcB HCC hSc
            generalize str cp j = x at *
            go_wp2_with fail
            refine c1.mono ?_
            rintro e wc ⟨rfl, hCc⟩
            clear c1 r0 r1 r2 r3 rC
            obtain ⟨c0, c1, c2, c3, cC⟩ := HKY.out _ hCc
            obtain ⟨bB, oB, rfl, hcx⟩ := HCB2.out _ hCc
            have hs1 : (sB ++ (⟨#[47]⟩ : ByteArray)).size ≤ 17 + 18 * j := by rw [ByteArray.size_append]; show _ + 1 ≤ _; omega
            have hs2 : (sB ++ (⟨#[47]⟩ : ByteArray) ++ (⟨#[47]⟩ : ByteArray)).size ≤ 18 + 18 * j := by rw [ByteArray.size_append]; show _ + 1 ≤ _; omega
            cases f with
            | true =>
              have hf := HS.out.2.2.1
              have hfin : (sB ++ (⟨#[47]⟩ : ByteArray) ++ (⟨#[47]⟩ : ByteArray) ++ x).size ≤ 16 + 18 * (j + 1) := by rw [ByteArray.size_append]; omega
              have HF := Lib.hid (And.intro hf hfin)
              clear hf hfin
              go_wp2
              go_roundw
              case rel => exact ⟨j + 1, _, false, by omega, by go_num, rfl, rfl, HF.out.2, Lib.hid ⟨(decide_eq_false HS.out.2.1).symm, by rw [cat2, HS.out.1, HS.out.2.2.2, if_pos (of_decide_eq_true HF.out.1.symm), of_decide_eq_true HF.out.1.symm]; simp [tl]⟩, hCc⟩
              case measure => simp [intOf]; omega
            | false =>
              have hf := HS.out.2.2.1
              have hfin : (sB ++ (⟨#[47]⟩ : ByteArray) ++ x).size ≤ 16 + 18 * (j + 1) := by rw [ByteArray.size_append]; omega
              have HF := Lib.hid (And.intro hf hfin)
              clear hf hfin
              go_wp2
              go_roundw
              case rel => exact ⟨j + 1, _, false, by omega, by go_num, rfl, rfl, HF.out.2, Lib.hid ⟨(decide_eq_false HS.out.2.1).symm, by rw [cat1, HS.out.1, HS.out.2.2.2, if_neg (of_decide_eq_false HF.out.1.symm)]; simp⟩, hCc⟩
              case measure => simp [intOf]; omega
        · obtain rfl : j = k := by omega
          have hfin : sB = ⟨T.toArray⟩ := ba_of (by
            rw [hst.out.2, HT2.out.1, List.take_of_length_le (by rw [nms_len, HNK.out.2]; exact Nat.le_refl _)])
          have HF := Lib.hid hfin
          have hjE : ¬ (j : Int) < (j : Int) := by omega
          clear hfin hst
          go_wp2
          go_ret2
          exact ⟨by rw [HF.out]; rfl, HCB.out _ hCr⟩
end Go.Proofs.YtmcianehedhfeaaGreatDoor
