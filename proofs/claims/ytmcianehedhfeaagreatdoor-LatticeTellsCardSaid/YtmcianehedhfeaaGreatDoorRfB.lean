/- The document's lattice: Right. -/
import Derived.Test.YtmcianehedhfeaaGreatDoorRfA
import Derived.Test.YtmcianehedhfeaaGreatDoorLatP0
import Derived.Deep.RegionHeld3
import Derived.Laws.AppendOwnNone
set_option linter.unusedVariables false
set_option linter.unusedSimpArgs false
namespace Go.Proofs.YtmcianehedhfeaaGreatDoor
open Go.RowKit
/-- append(v, x...) of a row of texts, as one step of a region that draws. -/
theorem step_appss {w : World} {ops : Array Oper} {o : Oper} {a : Act} {K : Act → World → Prop} {Q : Exit → Act → World → Prop} {E : Prop} (hgd : o.guard = none) (s x : Operand)
    (ho : o.op = .call { callee := .builtin .append, args := #[s, x], argTypes := #[22, 22] })
    (base : Nat) (v : Value) (l : List ByteArray) (hs : a.eval s = v) (hown : SSo w base v l)
    (A : Option Addr) (m c : Nat) (xs : List ByteArray) (hx : a.eval x = .slice A m c) (hin : StrsIn w A m xs)
    (hlen : l.length + m ≤ 1000000000000) (hbase : base ≤ w.heap.size) (hnil : A = none → c = 0)
    (h : ∀ v' w', SSo w' base v' (l ++ xs) → Below base w w' → K (a.put o.dst v') w') : if Region.wanted o (yielded ops a.tmps) = true then Oper.wp Tryz.prog o a w K Q else E := by
  have hw : Region.wanted o (yielded ops a.tmps) = true := by simp [Region.wanted, hgd]
  rw [if_pos hw]
  obtain ⟨i0, hi, hz0, hz1, hz2⟩ := info_parts Tryz.infoStr
  have hl := hin.len
  cases A with
  | none =>
    obtain rfl : c = 0 := hnil rfl
    have hm : m = 0 := by
      rcases Nat.eq_zero_or_pos m with h0 | h0
      · exact h0
      · obtain ⟨b, off, hA, _⟩ := hin.cells h0; cases hA
    subst hm
    obtain rfl : xs = [] := List.eq_nil_of_length_eq_zero hl
    have hrun := run_append_owned_none (P := Tryz.prog) (w := w) base 22 o.type 9 i0 1 Tryz.underlying22 hi v l.length (l.map Value.string) hown
    unfold Oper.wp
    simp [execOp, ho, resolve, invoke, builtin, hs, hx, hrun, Result.andThen]
    exact h v w (by rw [List.append_nil]; exact hown) (Below.refl _ _)
  | some ad =>
  have hc : ∀ j u, (xs.map Value.string)[j]? = some u → w.cell? (ad.add j) = some u := by
    intro j u hu
    rw [List.getElem?_map] at hu
    cases hj : xs[j]? with
    | none => rw [hj] at hu; cases hu
    | some y =>
      rw [hj] at hu
      cases hu
      have hjl := (List.getElem?_eq_some_iff.1 hj).1
      obtain ⟨b, off, hA, hc⟩ := hin.cells (by omega)
      cases hA
      rw [plain_add, hc j (by omega)]
      unfold str
      rw [List.getD_eq_getElem?_getD, hj]; rfl
  obtain ⟨v', w', hrun, r1, r2, _⟩ := run_append_own (P := Tryz.prog) w base 22 o.type 9 i0 (.string ⟨#[]⟩) 1 16 Tryz.underlying22 hi hz0 hz1 hz2 rfl (by decide) v l.length (l.map Value.string) hown ad m c (xs.map Value.string) (by rw [List.length_map]; omega) hc (by intro u hu; obtain ⟨y, _, rfl⟩ := List.mem_map.1 hu; rfl) (by unfold maxLen; omega) (by omega) hbase
  unfold Oper.wp
  simp [execOp, ho, resolve, invoke, builtin, hs, hx, hrun, Result.andThen]
  refine h v' w' ?_ ((Below.refl base w).grown r2 hbase fun k hk => (World.ownsRow.lt hown k hk).1)
  unfold SSo
  rw [List.length_append, List.map_append, hl]
  exact r1
theorem bytes_eq2 {x y : ByteArray} : (x.toList == y.toList) = decide (x.data.toList = y.data.toList) := by
  rw [Lib.toList_data, Lib.toList_data, Bool.eq_iff_iff, beq_iff_eq, decide_eq_true_iff]
theorem sso_zero (w : World) {base : Nat} (hB : base ≤ w.heap.size) : SSo (w.alloc (.cells #[] 9 (0, 0))) base (.slice (some ⟨w.heap.size, 0, none⟩) 0 0) [] :=
  ⟨rfl, .inr ⟨w.heap.size, 0, #[], rfl, hB, heap_alloc_new _ _, Nat.zero_le _, by unfold maxLen; omega, rfl, rfl⟩⟩
set_option maxRecDepth 100000 in
set_option maxHeartbeats 8000000 in
theorem rright_any (v1 v2 : Value) (lv cp : List ByteArray) (w : World) (h1 : SlIn w v1 lv) (h2 : SlIn w v2 cp) (hm : lv.length ≤ 9223372036854775807 ∧ cp.length ≤ 9223372036854775807) (hz : ∀ x ∈ lv ++ cp, x.size ≤ 9223372036854775807) :
    Calls Tryz.prog 11 #[.agg #[v1, v2]] w fun e w' => e = .returned (.bool (latR (nms lv) (nms cp))) ∧ Below w.heap.size w w' := by
  obtain ⟨A, c, rfl, hA, hA0⟩ := id h1
  obtain ⟨B, q, rfl, hB, hB0⟩ := id h2
  have HL := Lib.hid (And.intro h1 h2)
  have HZ := Lib.hid hz
  clear h1 h2 hz
  generalize hn : lv.length = n at *
  generalize hk : cp.length = k at *
  obtain ⟨R, hR⟩ : ∃ R, R = latR (nms lv) (nms cp) := ⟨_, rfl⟩
  rw [← hR]
  have hnm := hm.1
  have hkm := hm.2
  have HR := Lib.hid hR
  have HNK := Lib.hid (And.intro hn hk)
  have hn0 : (0 : Int) ≤ (n : Int) := by omega
  have hk0 : (0 : Int) ≤ (k : Int) := by omega
  clear hR hm hn hk
  by_cases hb : 1 ≤ n ∧ n ≤ 16 ∧ k ≤ 64
  · obtain ⟨g1, g2, g3⟩ := hb
    have i1 : ¬ (n : Int) < 1 := by omega
    have i2 : ¬ (16 : Int) < (n : Int) := by omega
    have i3 : ¬ (64 : Int) < (k : Int) := by omega
    have hb1 : Below w.heap.size w (w.alloc (.cells #[.slice A n c, .slice B k q] 24 (0, 0))) := (Below.refl _ w).alloc (Nat.le_refl _) _
    have hg1 := heap_alloc_new w (.cells #[.slice A n c, .slice B k q] 24 (0, 0))
    have HIN := Lib.hid (And.intro hA (And.intro hB (And.intro hA0 hB0)))
    clear hA hB hA0 hB0
    go_enter Tryz.func11, Tryz.ntmps11
    go_wp2_with fail
    generalize w.alloc (.cells #[.slice A n c, .slice B k q] 24 (0, 0)) = w1 at *
    obtain ⟨C, hCd⟩ : ∃ C : World → Prop, C = fun w3 => Hid (Below w1.heap.size w1 w3) := ⟨_, rfl⟩
    have key : ∀ w3, C w3 → w3.cell? ⟨w.heap.size, 0, none⟩ = some (.slice A n c) ∧ w3.cell? ⟨w.heap.size, 1, none⟩ = some (.slice B k q) ∧ C w3 := by
      intro w3 h
      have hb := h
      rw [hCd] at hb
      obtain ⟨x0, y0⟩ := agg_keep hg1 hb.out
      exact ⟨x0, y0, h⟩
    have hCs : ∀ w3, C w3 → C w3.drew := fun w3 h => by rw [hCd] at h ⊢; exact Lib.hid h.out.drew
    have hC2 : C w1 := by rw [hCd]; exact Lib.hid (Below.refl _ _)
    have hCk : ∀ W o, C W → C (W.alloc o) := fun W o h => by rw [hCd] at h ⊢; exact Lib.hid (h.out.alloc h.out.size o)
    have hCb : ∀ W W', C W → Below w1.heap.size W W' → C W' := fun W W' h h' => by rw [hCd] at h ⊢; exact Lib.hid (h.out.trans h')
    have hI1 : ∀ W, (W.cell? ⟨w.heap.size, 0, none⟩ = some (.slice A n c) ∧ W.cell? ⟨w.heap.size, 1, none⟩ = some (.slice B k q) ∧ C W) → StrsIn W A n lv ∧ w1.heap.size ≤ W.heap.size := fun W h => by
      have hx := h.2.2; rw [hCd] at hx
      exact ⟨(HIN.out.1.below hb1).below hx.out, hx.out.size⟩
    have hI2 : ∀ W, (W.cell? ⟨w.heap.size, 0, none⟩ = some (.slice A n c) ∧ W.cell? ⟨w.heap.size, 1, none⟩ = some (.slice B k q) ∧ C W) → StrsIn W B k cp := fun W h => by
      have hx := h.2.2; rw [hCd] at hx
      exact (HIN.out.2.1.below hb1).below hx.out
    have hw1 : w.heap.size ≤ w1.heap.size := hb1.size
    have hbw : ∀ W, C W → Below w.heap.size w W := fun W h => by rw [hCd] at h; exact hb1.trans (h.out.mono hw1)
    have HBW := Lib.hid hbw
    have KY := Lib.hid key
    have HCS := Lib.hid hCs
    have HCK := Lib.hid hCk
    have HCB := Lib.hid hCb
    have HI1 := Lib.hid hI1
    have HI2 := Lib.hid hI2
    have HLL : Hid (lv.length + k ≤ 1000000000000 ∧ ([] : List ByteArray).length + n ≤ 1000000000000) := Lib.hid ⟨by rw [HNK.out.1]; omega, by show 0 + n ≤ _; omega⟩
    clear key hCs hCk hCb hI1 hI2 hb1 hg1 hCd HL hbw
    obtain ⟨c0, c1, cC⟩ := KY.out _ hC2
    go_wp2_with fail
    clear c0 c1 cC
    go_region_held3 (fun w3 => w3.cell? ⟨w.heap.size, 0, none⟩ = some (.slice A n c) ∧ w3.cell? ⟨w.heap.size, 1, none⟩ = some (.slice B k q) ∧ C w3)
      ((refine KY.out _ ?_; repeat (first | exact hC2 | refine HCS.out _ ?_ | refine HCK.out _ _ ?_ | (refine HCB.out _ _ ?_ hb5) | (refine HCB.out _ _ ?_ hb6))))
      (first | (refine step_appss rfl (.tmp 22) (.tmp 24) rfl w1.heap.size _ [] rfl (sso_zero _ (by simp)) A n c lv rfl (HI1.out _ (by assumption)).1 HLL.out.2 (HI1.out _ (by assumption)).2 HIN.out.2.2.1 ?_; intro v5 w5 ho5 hb5) | (refine step_appss rfl (.tmp 25) (.tmp 27) rfl w1.heap.size _ _ rfl ho5 B k q cp rfl (HI2.out _ (by assumption)) HLL.out.1 (HI1.out _ (by assumption)).2 HIN.out.2.2.2 ?_; intro v6 w6 ho6 hb6))
    have hS6 : w6.cell? ⟨w.heap.size, 0, none⟩ = some (.slice A n c) ∧ w6.cell? ⟨w.heap.size, 1, none⟩ = some (.slice B k q) ∧ C w6 := by assumption
    have hw2 := HBW.out _ hS6.2.2
    rw [List.nil_append] at ho6
    obtain ⟨G, cap, rfl, hS, hcap, hmax⟩ := ho6.in_
    have hNl : (lv ++ cp).length = n + k := by rw [List.length_append, HNK.out.1, HNK.out.2]
    obtain ⟨b, off, rfl, hcell⟩ := hS.cells (by omega)
    have hNn := nms_app lv cp
    have hzz : ∀ j, j < (lv ++ cp).length → (str (lv ++ cp) j).size ≤ 9223372036854775807 := fun j hj => by
      unfold str
      rw [List.getD_eq_getElem?_getD, List.getElem?_eq_getElem hj]
      exact HZ.out _ (List.getElem_mem hj)
    generalize lv ++ cp = N at *
    generalize hNN : N.length = nn at *
    have HS := Lib.hid (And.intro hS (And.intro hw2 (And.intro hNl (And.intro hNn (And.intro hNN hzz)))))
    have hnn : (nn : Int) ≤ 80 := by omega
    have hnn0 : (0 : Int) ≤ (nn : Int) := by omega
    have hcapi : (nn : Int) ≤ (cap : Int) := by omega
    unfold maxLen at hmax
    clear hS hw2 hNl hNn hNN hcell hb5 hb6 ho5 ho6 i1 i2 i3 hS6 hzz HZ HIN HLL HI1 HI2 HCB HCK HCS KY HBW
    go_wp2
    go_loopw [4] (fun i wr => ∃ j : Nat, j ≤ nn ∧ i = .int .i64 j ∧ NmI (nms lv ++ nms cp) j ∧ Below w6.heap.size w6 wr) (fun i _ => nn - (intOf i).toNat)
    case atStart => exact ⟨0, Nat.zero_le _, rfl, NmI.zero _, Below.refl _ _⟩
    case round =>
      obtain ⟨j, hj, rfl, hI, hbl⟩ := hrel
      obtain ⟨hS, hw2, hNl, hNn, hNN, hzz⟩ := HS.out
      have hj0 : (0 : Int) ≤ (j : Int) := by omega
      by_cases hjn : j < nn
      · have hji : (j : Int) < (nn : Int) := by omega
        have hSr := hS.below hbl
        have hcell : ∀ W, Below wr.heap.size wr W → ∀ t, t < nn → W.cell? ⟨b, off + t, none⟩ = some (.string (str N t)) := fun W hW t ht => by
          obtain ⟨b', off', e, hc⟩ := (hSr.below hW).cells (by omega)
          cases e; exact hc t ht
        have hget : ∀ t (ht : t < (nms lv ++ nms cp).length), (nms lv ++ nms cp)[t]'ht = (str N t).data.toList := fun t ht => by
          have h2 : t < N.length := by have := ht; rw [← hNn, nms_len] at this; exact this
          simp only [← hNn]
          unfold nms str
          rw [List.getElem_map, List.getD_eq_getElem?_getD, List.getElem?_eq_getElem h2]; rfl
        have hjM : j < (nms lv ++ nms cp).length := by rw [← hNn, nms_len]; omega
        have c7 := name_any (str N j) wr (hzz j (by omega))
        have hcj := hcell wr (Below.refl _ _) j hjn
        have hbad : nmOk (str N j).data.toList = false → R = false := fun h => HR.out.trans (latR_bad hjM (.inl (by rw [hget]; exact h)))
        have hbad2 : ∀ t, t < j → str N t = str N j → R = false := fun t ht h => HR.out.trans (latR_bad hjM (.inr (by
          have ht2 : t < (nms lv ++ nms cp).length := by omega
          rw [hget j hjM, ← h, ← hget t ht2, List.mem_iff_getElem]
          exact ⟨t, by rw [List.length_take]; omega, by rw [List.getElem_take]⟩)))
        have hnext : nmOk (str N j).data.toList = true → (∀ t, t < j → str N t ≠ str N j) → NmI (nms lv ++ nms cp) (j + 1) := fun h h' => hI.next hjM (by rw [hget]; exact h) (fun hm => by
          obtain ⟨t, ht, e⟩ := List.mem_iff_getElem.1 hm
          rw [List.length_take] at ht
          rw [List.getElem_take, hget t (by omega), hget j hjM] at e
          exact h' t (by omega) (ByteArray.ext (Array.ext' e)))
        have HBD := Lib.hid (And.intro hbad (And.intro hbad2 hnext))
        have HCL := Lib.hid hcell
        have HW := Lib.hid (hw2.trans (hbl.mono hw2.size))
        have HBL := Lib.hid hbl
        clear hI hbl hS hw2 hNl hNn hNN hbad hbad2 hnext hSr HS hget hjM hcell hzz
        obtain ⟨wo, rfl⟩ : ∃ wo : World, wo = wr := ⟨_, rfl⟩
        cases hv : nmOk (str N j).data.toList with
        | false =>
          rw [hv] at c7
          obtain rfl := HBD.out.1 hv
          clear hv
          generalize str N j = x at *
          go_wp2_with fail
          refine c7.mono ?_
          rintro e w7 ⟨rfl, rfl⟩
          clear c7
          go_wp2
          go_ret
          exact ⟨rfl, HW.out⟩
        | true =>
          rw [hv] at c7
          have HNX := Lib.hid (HBD.out.2.2 hv)
          clear hv
          generalize hxj : str N j = x at *
          have HXJ := Lib.hid hxj
          clear hxj
          go_wp2_with fail
          refine c7.mono ?_
          rintro e w7 ⟨rfl, rfl⟩
          clear c7 hcj
          go_wp2
          go_loopw [5] (fun i wx => ∃ t : Nat, t ≤ j ∧ i = .int .i64 t ∧ Hid (∀ u, u < t → str N u ≠ x) ∧ Below wo.heap.size wo wx) (fun i _ => j - (intOf i).toNat)
          case atStart => exact ⟨0, Nat.zero_le _, rfl, Lib.hid (fun u hu => absurd hu (by omega)), Below.refl _ _⟩
          case round =>
            obtain ⟨t, ht, rfl, hall, hbl⟩ := hrel
            have ht0 : (0 : Int) ≤ (t : Int) := by omega
            by_cases htj : t < j
            · have hti : (t : Int) < (j : Int) := by omega
              have hti2 : (t : Int) < (nn : Int) := by omega
              have e1 := HCL.out _ hbl t (by omega)
              have e2 := HCL.out _ hbl j hjn
              rw [HXJ.out] at e2
              have HB := Lib.hid hbl
              have hb2 := HBD.out.2.1 t htj
              generalize hy : str N t = y at *
              have HY := Lib.hid hy
              by_cases hxy : y = x
              · subst hxy
                obtain rfl := hb2 rfl
                clear hy hbl hb2
                go_wp2
                go_quiet (fail)
                go_wp2
                go_ret
                exact ⟨rfl, Below.drewN' (HW.out.trans (HB.out.mono HW.out.size)) _⟩
              · have hne : (y.toList == x.toList) = false := by
                  rw [bytes_eq2, decide_eq_false]
                  intro e
                  exact hxy (ByteArray.ext (Array.ext' e))
                clear hy hbl hb2 hxy
                go_wp2
                go_quiet (fail)
                go_wp2
                go_roundw
                case rel => exact ⟨t + 1, by omega, by go_num, Lib.hid (fun u hu => by
                  by_cases e : u = t
                  · subst e; rw [HY.out]; intro e2; rw [e2] at hne; simp at hne
                  · exact hall.out u (by omega)), Below.drewN' HB.out _⟩
                case measure => simp [intOf]; omega
            · obtain rfl : t = j := by omega
              have H9 := Lib.hid (HNX.out hall.out)
              have H8 := Lib.hid (HBL.out.trans (hbl.mono HBL.out.size))
              have htE : ¬ (t : Int) < (t : Int) := by omega
              clear hbl hall
              go_wp2
              go_roundw
              case rel => exact ⟨t + 1, by omega, by go_num, H9.out, H8.out⟩
              case measure => simp [intOf]; omega
      · have hjE : ¬ (j : Int) < (nn : Int) := by omega
        have hR1 : R = true := HR.out.trans (hI.done (by rw [← hNn, nms_len, hNN]; omega) (by rw [nms_len, HNK.out.1]; omega) (by rw [nms_len, HNK.out.1]; omega) (by rw [nms_len, HNK.out.2]; omega))
        subst hR1
        have HW := Lib.hid (hw2.trans (hbl.mono hw2.size))
        clear hI hbl hS hw2 hNl hNn hNN hzz
        go_wp2
        go_ret
        exact ⟨rfl, HW.out⟩
  · have hb2 : R = false := HR.out.trans (latR_len (by rw [nms_len, nms_len, HNK.out.1, HNK.out.2]; exact hb))
    subst hb2
    clear hA hB hA0 hB0
    rcases (show (n : Int) < 1 ∨ (¬ (n : Int) < 1 ∧ (16 : Int) < (n : Int)) ∨ (¬ (n : Int) < 1 ∧ ¬ (16 : Int) < (n : Int) ∧ (64 : Int) < (k : Int)) by omega) with h | ⟨h, h'⟩ | ⟨h, h', h''⟩
    all_goals
      clear hb
      go_enter Tryz.func11, Tryz.ntmps11
      go_wp2
      go_ret
      exact ⟨rfl, (Below.refl _ w).alloc (Nat.le_refl _) _⟩
end Go.Proofs.YtmcianehedhfeaaGreatDoor
