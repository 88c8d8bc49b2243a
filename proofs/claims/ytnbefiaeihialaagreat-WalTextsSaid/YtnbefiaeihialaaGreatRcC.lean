/- The document's log: Parse. -/
import Derived.Test.YtnbefiaeihialaaGreatRcB
import Derived.Deep.RegionLawGrows
set_option linter.unusedVariables false
set_option linter.unusedSimpArgs false
namespace Go.Proofs.YtnbefiaeihialaaGreat
open Go.RowKit
theorem drop_byte (s : ByteArray) (a : Nat) (h : a < s.size) : s.data.toList.drop a = s[a]'h :: s.data.toList.drop (a + 1) := by
  rw [List.drop_eq_getElem_cons (by rw [bsize]; exact h)]; rfl
theorem pa1_short (s : ByteArray) (a : Nat) (h : s.size < a + 5) : pa1 (s.data.toList.drop a) = none := by
  unfold pa1
  rw [if_pos (.inl (by rw [List.length_drop, bsize]; omega))]
theorem numF_pair (x y : UInt8) : numF [x, y] = x.toNat * 256 + y.toNat := by simp [numF]
theorem pa1_at (s : ByteArray) (a : Nat) (h5 : a + 5 ≤ s.size) (x0 x1 x2 x3 x4 : UInt8) (h0 : s[a]'(by omega) = x0) (h1 : s[a + 1]'(by omega) = x1) (h2 : s[a + 2]'(by omega) = x2) (h3 : s[a + 3]'(by omega) = x3) (h4 : s[a + 4]'(by omega) = x4)
    (K V : Nat) (hK : K = x1.toNat * 256 + x2.toNat) (hV : V = x3.toNat * 256 + x4.toNat) :
    pa1 (s.data.toList.drop a) = if 1 < x0.toNat then none else if s.size < a + 5 + K + V ∨ (x0.toNat = 1 ∧ 0 < V) then none else some (⟨s.extract (a + 5) (a + 5 + K), s.extract (a + 5 + K) (a + 5 + K + V), decide (x0.toNat = 1)⟩, s.data.toList.drop (a + 5 + K + V)) := by
  have e : s.data.toList.drop a = x0 :: x1 :: x2 :: x3 :: x4 :: s.data.toList.drop (a + 5) := by
    rw [drop_byte s a (by omega), drop_byte s (a + 1) (by omega), drop_byte s (a + 1 + 1) (by omega), drop_byte s (a + 1 + 1 + 1) (by omega), drop_byte s (a + 1 + 1 + 1 + 1) (by omega), h0]
    rw [show s[a + 1]'(by omega) = x1 from h1, show s[a + 1 + 1]'(by omega) = x2 from h2, show s[a + 1 + 1 + 1]'(by omega) = x3 from h3, show s[a + 1 + 1 + 1 + 1]'(by omega) = x4 from h4]
  have hl : (s.data.toList.drop a).length = s.size - a := by rw [List.length_drop, bsize]
  have n1 : numF (((s.data.toList.drop a).drop 1).take 2) = K := by rw [e, hK]; exact numF_pair x1 x2
  have n3 : numF (((s.data.toList.drop a).drop 3).take 2) = V := by rw [e, hV]; exact numF_pair x3 x4
  have g0 : (s.data.toList.drop a).getD 0 0 = x0 := by rw [e]; rfl
  unfold pa1
  rw [hl, g0, n1, n3]
  have d5 : (s.data.toList.drop a).drop 5 = s.data.toList.drop (a + 5) := by rw [List.drop_drop]
  have d6 : (s.data.toList.drop a).drop (5 + K) = s.data.toList.drop (a + 5 + K) := by rw [List.drop_drop]; congr 1; omega
  have d7 : (s.data.toList.drop a).drop (5 + K + V) = s.data.toList.drop (a + 5 + K + V) := by rw [List.drop_drop]; congr 1; omega
  rw [d5, d6, d7]
  by_cases hb : 1 < x0.toNat
  · rw [if_pos hb, if_pos (.inr hb)]
  · rw [if_neg hb, if_neg (by omega)]
    have e1 : s.extract (a + 5) (a + 5 + K) = ⟨((s.data.toList.drop (a + 5)).take K).toArray⟩ := by
      apply ba_ext; rw [ext_list, Nat.add_sub_cancel_left]
    have e2 : s.extract (a + 5 + K) (a + 5 + K + V) = ⟨((s.data.toList.drop (a + 5 + K)).take V).toArray⟩ := by
      apply ba_ext; rw [ext_list, Nat.add_sub_cancel_left]
    rw [e1, e2]
    by_cases hc : s.size < a + 5 + K + V ∨ (x0.toNat = 1 ∧ 0 < V)
    · rw [if_pos hc, if_pos (hc.elim (fun h => .inl (by omega)) .inr)]
    · rw [if_neg hc, if_neg (fun h => hc (h.elim (fun h => .inl (by omega)) .inr))]
/-- Between the rounds: what is parsed so far. -/
def PaR (s : ByteArray) (a : Nat) (cs : List Ch) : Prop := paT s.data.toList = (paT (s.data.toList.drop a)).map (cs ++ ·) ∧ cs.length ≤ a ∧ a ≤ s.size
theorem PaR.zero (s : ByteArray) : PaR s 0 [] := ⟨by rw [List.drop_zero]; cases paT s.data.toList <;> rfl, Nat.le_refl _, Nat.zero_le _⟩
theorem drop_ne {s : ByteArray} {a : Nat} (h : a < s.size) : s.data.toList.drop a ≠ [] := by rw [drop_byte s a h]; exact fun h => by cases h
theorem PaR.bad {s : ByteArray} {a : Nat} {cs : List Ch} (h : PaR s a cs) (hn : a < s.size) (hp : pa1 (s.data.toList.drop a) = none) : paT s.data.toList = none := by rw [h.1, paT_cons (drop_ne hn), hp]; rfl
theorem PaR.next {s : ByteArray} {a a2 : Nat} {cs : List Ch} {c : Ch} (h : PaR s a cs) (hn : a < s.size) (h2 : a < a2) (h3 : a2 ≤ s.size) (hp : pa1 (s.data.toList.drop a) = some (c, s.data.toList.drop a2)) : PaR s a2 (cs ++ [c]) := by
  refine ⟨?_, by have := h.2.1; rw [List.length_append]; simp; omega, h3⟩
  rw [h.1, paT_cons (drop_ne hn), hp]
  show ((paT (s.data.toList.drop a2)).map (c :: ·)).map _ = _
  rw [Option.map_map]
  congr 1
  funext x
  simp
theorem PaR.done {s : ByteArray} {cs : List Ch} (h : PaR s s.size cs) : paT s.data.toList = some cs := by
  rw [h.1, List.drop_of_length_le (by rw [bsize]; exact Nat.le_refl _), paT_nil]; simp
set_option maxRecDepth 100000 in
set_option maxHeartbeats 16000000 in
theorem rparse_any (s : ByteArray) (w : World) (hs : s.size ≤ 1000000) :
    Calls Tryz.prog 12 #[.string s] w fun e w' => ∃ v, CHr w' w.heap.size v (parseL s.data.toList) ∧ e = .returned (.tuple #[v, .int .i64 (parseC s.data.toList)]) ∧ Below w.heap.size w w' := by
  have hs0 : (0 : Int) ≤ (s.size : Int) := by omega
  obtain ⟨PL, hPL⟩ : ∃ x, x = parseL s.data.toList := ⟨_, rfl⟩
  obtain ⟨PC, hPC⟩ : ∃ x, x = parseC s.data.toList := ⟨_, rfl⟩
  rw [← hPL, ← hPC]
  have hbad : paT s.data.toList = none → PL = [] ∧ PC = 2 := fun h => by rw [hPL, hPC]; unfold parseL parseC; rw [h]; exact ⟨rfl, rfl⟩
  have hgood : ∀ cs, paT s.data.toList = some cs → PL = cs ∧ PC = 0 := fun cs h => by rw [hPL, hPC]; unfold parseL parseC; rw [h]; exact ⟨rfl, rfl⟩
  have HBD := Lib.hid hbad
  have HGD := Lib.hid hgood
  clear hbad hgood hPL hPC
  go_enter Tryz.func12, Tryz.ntmps12
  go_wp2
  go_loopw [4, 5] (fun v i wr => ∃ (a : Nat) (cs : List Ch), i = .int .i64 a ∧ a ≤ s.size ∧ Hid (CHr wr w.heap.size v cs ∧ PaR s a cs ∧ Below w.heap.size w wr)) (fun _ i _ => s.size - mzInt i)
  case atStart => exact ⟨0, [], rfl, Nat.zero_le _, Lib.hid ⟨CHr.nil _ _, PaR.zero s, Below.refl _ _⟩⟩
  case round =>
    obtain ⟨a, cs, rfl, ha, hrl⟩ := hrel
    have ha0 : (0 : Int) ≤ (a : Int) := by omega
    by_cases hlt : a < s.size
    · have hli : (a : Int) < (s.size : Int) := by omega
      have HBL := Lib.hid hrl.out.2.2
      by_cases h5 : (s.size : Int) < (a : Int) + 5
      · have HF := Lib.hid (HBD.out (hrl.out.2.1.bad hlt (pa1_short s a (by omega))))
        clear hrl
        go_wp2
        go_ret2
        rw [HF.out.1, HF.out.2]
        exact ⟨_, CHr.nil _ _, rfl, HBL.out⟩
      · have h5' : a + 5 ≤ s.size := by omega
        obtain ⟨x0, hx0⟩ : ∃ x, s[a]'hlt = x := ⟨_, rfl⟩
        obtain ⟨x1, hx1⟩ : ∃ x, s[a + 1]'(by omega) = x := ⟨_, rfl⟩
        obtain ⟨x2, hx2⟩ : ∃ x, s[a + 2]'(by omega) = x := ⟨_, rfl⟩
        obtain ⟨x3, hx3⟩ : ∃ x, s[a + 3]'(by omega) = x := ⟨_, rfl⟩
        obtain ⟨x4, hx4⟩ : ∃ x, s[a + 4]'(by omega) = x := ⟨_, rfl⟩
        obtain ⟨K, hK⟩ : ∃ K, K = x1.toNat * 256 + x2.toNat := ⟨_, rfl⟩
        obtain ⟨V, hV⟩ : ∃ V, V = x3.toNat * 256 + x4.toNat := ⟨_, rfl⟩
        have hpa := pa1_at s a h5' x0 x1 x2 x3 x4 hx0 hx1 hx2 hx3 hx4 K V hK hV
        have hb1 := x1.toNat_lt
        have hb2 := x2.toNat_lt
        have hb3 := x3.toNat_lt
        have hb4 := x4.toNat_lt
        by_cases hc1 : (1 : Int) < (x0.toNat : Int)
        · have HF := Lib.hid (HBD.out (hrl.out.2.1.bad hlt (by rw [hpa, if_pos (by omega)])))
          clear hrl hpa hK hV
          go_wp2
          go_ret2
          rw [HF.out.1, HF.out.2]
          exact ⟨_, CHr.nil _ _, rfl, HBL.out⟩
        · have HPA := Lib.hid hpa
          have hKi : (x1.toNat : Int) * 256 + (x2.toNat : Int) = (K : Int) := by omega
          have hVi : (x3.toNat : Int) * 256 + (x4.toNat : Int) = (V : Int) := by omega
          have hK0 : (0 : Int) ≤ (K : Int) := by omega
          have hV0 : (0 : Int) ≤ (V : Int) := by omega
          have hKV : K < 65536 ∧ V < 65536 := by omega
          have HKi := Lib.hid (And.intro hKi hVi)
          clear hpa hK hV hKi hVi
          have hT1 : ((a : Int) + 1).toNat = a + 1 := by omega
          have hT2 : ((a : Int) + 2).toNat = a + 2 := by omega
          have hT3 : ((a : Int) + 3).toNat = a + 3 := by omega
          have hT4 : ((a : Int) + 4).toNat = a + 4 := by omega
          go_upto_region 6 with fail
          go_quiet (fail)
          rw [HKi.out.1]
          go_upto_region 7 with fail
          go_quiet (fail)
          rw [HKi.out.2]
          have hOW := fun (n : Nat) => hrl.out.1.below (Below.drewN' (Below.refl wr.heap.size wr) n)
          have hBW := fun (n : Nat) => Below.drewN' HBL.out n
          have HOW := Lib.hid (And.intro hOW (And.intro hBW hrl.out.2.1))
          clear hOW hBW hrl hT1 hT2 hT3 hT4 hx1 hx2 hx3 hx4
          by_cases hlen : (s.size : Int) < (a : Int) + 5 + (K : Int) + (V : Int)
          · have HF := Lib.hid (HBD.out (HOW.out.2.2.bad hlt (by rw [HPA.out, if_neg (by omega), if_pos (.inl (by omega))])))
            go_wp2
            go_ret2
            rw [HF.out.1, HF.out.2]
            exact ⟨_, CHr.nil _ _, rfl, HOW.out.2.1 _⟩
          · obtain ⟨g, hg⟩ : ∃ g : Bool, ((x0.toNat : Int) == 1) = g := ⟨_, rfl⟩
            have hgi : decide (x0.toNat = 1) = g := by rw [← hg]; exact Bool.eq_iff_iff.2 (by rw [decide_eq_true_iff, beq_iff_eq]; omega)
            have hgx : x0.toNat = 1 ↔ g = true := by rw [← hgi, decide_eq_true_iff]
            by_cases hgv : g = true ∧ 0 < V
            · obtain ⟨hg1, hv⟩ := hgv
              subst hg1
              have hvi : (0 : Int) < (V : Int) := by omega
              have HF := Lib.hid (HBD.out (HOW.out.2.2.bad hlt (by rw [HPA.out, if_neg (by omega), if_pos (.inr ⟨hgx.2 rfl, hv⟩)])))
              clear hgi hgx
              go_wp2
              go_ret2
              rw [HF.out.1, HF.out.2]
              exact ⟨_, CHr.nil _ _, rfl, HOW.out.2.1 _⟩
            · have hp : pa1 (s.data.toList.drop a) = some (⟨s.extract (a + 5) (a + 5 + K), s.extract (a + 5 + K) (a + 5 + K + V), g⟩, s.data.toList.drop (a + 5 + K + V)) := by
                rw [HPA.out, if_neg (by omega), if_neg (fun h => h.elim (fun h => by omega) (fun h => hgv ⟨hgx.1 h.1, h.2⟩)), hgi]
              have hnx := HOW.out.2.2.next hlt (show a < a + 5 + K + V by omega) (by omega) hp
              have hcl : cs.length + 1 ≤ 1000000000 := by have := HOW.out.2.2.2.1; omega
              have HN := Lib.hid hnx
              have hT1 : ((a : Int) + 5).toNat = a + 5 := by omega
              have hT2 : ((a : Int) + 5 + (K : Int)).toNat = a + 5 + K := by omega
              have hT3 : ((a : Int) + 5 + (K : Int) + (V : Int)).toNat = a + 5 + K + V := by omega
              have hl1 : (a : Int) + 5 + (K : Int) ≤ (s.size : Int) := by omega
              have hl2 : (a : Int) + 5 + (K : Int) + (V : Int) ≤ (s.size : Int) := by omega
              have hl3 : (0 : Int) ≤ (a : Int) + 5 := by omega
              have hl4 : (0 : Int) ≤ (a : Int) + 5 + (K : Int) := by omega
              have hl5 : (a : Int) + 5 ≤ (a : Int) + 5 + (K : Int) := by omega
              have hl6 : (a : Int) + 5 + (K : Int) ≤ (a : Int) + 5 + (K : Int) + (V : Int) := by omega
              have hw1 : IntKind.i64.wrap ((a : Int) + 5) = (a : Int) + 5 := by rw [IntKind.wrap_i64]; omega
              have hw2 : IntKind.i64.wrap ((a : Int) + 5 + (K : Int)) = (a : Int) + 5 + (K : Int) := by rw [IntKind.wrap_i64]; omega
              have hw3 : IntKind.i64.wrap ((a : Int) + 5 + (K : Int) + (V : Int)) = (a : Int) + 5 + (K : Int) + (V : Int) := by rw [IntKind.wrap_i64]; omega
              clear hnx hp hgi hgx
              cases g
              all_goals
                first
                  | (have hv : ¬ (0 : Int) < (V : Int) := fun h => hgv ⟨rfl, by omega⟩
                     clear hgv
                     go_upto_region 10 with fail)
                  | (clear hgv
                     go_upto_region 10 with fail)
                have hOW2 := fun n => (HOW.out.1 n).drew
                have hBW2 := fun n => (HOW.out.2.1 n).drew
                have HO2 := Lib.hid (And.intro hOW2 (And.intro hBW2 (fun n => (hBW2 n).size)))
                clear hOW2 hBW2
                go_region_law (refine step_appCr rfl (.tmp 66) (.tmp 92) rfl w.heap.size _ cs rfl (s.extract (a + 5) (a + 5 + K)) (s.extract (a + 5 + K) (a + 5 + K + V)) _ (HO2.out.1 _) rfl hcl (HO2.out.2.2 _) ?_; intro v7 w7 ho7 hb7)
                all_goals
                  have HG := Lib.hid (And.intro ho7 ((HO2.out.2.1 _).trans hb7))
                  clear ho7 hb7
                  go_wp2
                  go_roundw
                  case rel => exact ⟨a + 5 + K + V, _, by go_num, by omega, Lib.hid ⟨HG.out.1, HN.out, HG.out.2⟩⟩
                  case measure => simp [mzInt]; omega
    · obtain rfl : a = s.size := by omega
      have hE : ¬ (s.size : Int) < (s.size : Int) := by omega
      have HF := Lib.hid (And.intro hrl.out (HGD.out cs (hrl.out.2.1.done)))
      clear hrl
      go_wp2
      go_ret2
      rw [HF.out.2.1, HF.out.2.2]
      exact ⟨_, HF.out.1.1, rfl, HF.out.1.2.2⟩
end Go.Proofs.YtnbefiaeihialaaGreat
