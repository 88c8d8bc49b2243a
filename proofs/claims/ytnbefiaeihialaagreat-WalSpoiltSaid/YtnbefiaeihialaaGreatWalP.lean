/- Package wal: own rows of changes; Parse. -/
import Derived.Test.YtnbefiaeihialaaGreatWalO
import Derived.Maps.AppendAt
set_option linter.unusedVariables false
set_option linter.unusedSimpArgs false
namespace Go.Proofs.YtnbefiaeihialaaGreat
open Go.RowKit
def ccells : List Ch → List Value
  | [] => []
  | c :: r => .string c.key :: .string c.val :: .bool c.gone :: ccells r
theorem ccells_app (a b : List Ch) : ccells (a ++ b) = ccells a ++ ccells b := by induction a with | nil => rfl | cons x y ih => simp [ccells, ih]
theorem ccells_len (a : List Ch) : (ccells a).length = a.length * 3 := by induction a with | nil => rfl | cons x y ih => simp [ccells, ih]; omega
theorem ccells_at : ∀ (a : List Ch) (j : Nat), j < a.length → (ccells a)[j * 3]? = some (.string (ch a j).key) ∧ (ccells a)[j * 3 + 1]? = some (.string (ch a j).val) ∧ (ccells a)[j * 3 + 2]? = some (.bool (ch a j).gone)
  | f :: r, 0, _ => ⟨rfl, rfl, rfl⟩
  | f :: r, j + 1, h => by
    have ih := ccells_at r j (Nat.lt_of_succ_lt_succ h)
    have e : ch (f :: r) (j + 1) = ch r j := rfl
    rw [e, show (j + 1) * 3 = j * 3 + 1 + 1 + 1 by omega]
    exact ih
/-- A slice of changes of the call's own. -/
def CHo (w : World) (base : Nat) (v : Value) (l : List Ch) : Prop := w.ownsRow base 25 3 v l.length (ccells l)
theorem CHo.nil (w : World) (base : Nat) : CHo w base (.slice none 0 0) [] := ⟨rfl, .inl ⟨rfl, rfl⟩⟩
theorem CHo.shape {w : World} {base : Nat} {v : Value} {l : List Ch} (h : CHo w base v l) : ∃ ao cap, v = .slice ao l.length cap := by
  rcases h.2 with ⟨hv, hn⟩ | ⟨g, cap, cur, hv, _⟩
  · exact ⟨none, 0, by rw [hv, hn]⟩
  · exact ⟨_, _, hv⟩
theorem CHo.in_ {w : World} {base n c : Nat} {A : Option Addr} {l : List Ch} (h : CHo w base (.slice A n c) l) : ChsIn w A n l := by
  rcases h.2 with ⟨hv, hn⟩ | ⟨g, cap, cur, hv, hb, hg, hn, hm, hsz, ht⟩
  · obtain ⟨rfl, rfl, rfl⟩ := Value.slice.inj hv
    exact ⟨hn, by omega, fun h => absurd h (by omega)⟩
  · obtain ⟨rfl, rfl, rfl⟩ := Value.slice.inj hv
    refine ⟨rfl, by unfold maxLen at hm; omega, fun h0 => ⟨g, 0, rfl, fun j hj => ?_⟩⟩
    obtain ⟨q1, q2, q3⟩ := ccells_at l j hj
    rw [← ht] at q1 q2 q3
    rw [List.getElem?_take, if_pos (by omega)] at q1 q2 q3
    rw [Array.getElem?_toList] at q1 q2 q3
    rw [cell_of_row _ _ _ _ _ _ hg, cell_of_row _ _ _ _ _ _ hg, cell_of_row _ _ _ _ _ _ hg, Nat.zero_add]
    exact ⟨q1, q2, q3⟩
theorem CHo.below {w w' : World} {base : Nat} {v : Value} {l : List Ch} (h : CHo w base v l) (hb : Below w.heap.size w w') : CHo w' base v l :=
  Eff.own (Eff.of_below hb (fun _ => False)) h (fun _ _ x => x)
theorem CHo.drew {w : World} {base : Nat} {v : Value} {l : List Ch} (h : CHo w base v l) : CHo w.drew base v l := h.below (Below.refl _ _).drew
theorem Tryz.infoCh : (Tryz.prog.info? 25).map (fun i => (i.zero, i.size, i.bytes)) = some (some (.agg #[.string ⟨#[]⟩, .string ⟨#[]⟩, .bool false]), 3, 40) := by kernel_rfl
/-- append(v, c) of one change in a region that draws its order: its cells lie in a new block. -/
theorem step_appCh {w : World} {ops : Array Oper} {o : Oper} {a : Act} {K : Act → World → Prop} {Q : Exit → Act → World → Prop} {E : Prop} (hgd : o.guard = none) (s x : Operand)
    (ho : o.op = .call { callee := .builtin .append, args := #[s, x], argTypes := #[22, 22] })
    (base : Nat) (v : Value) (l : List Ch) (hs : a.eval s = v) (f1 f2 : ByteArray) (g : Bool) (hown : CHo w base v l)
    (hx : a.eval x = .slice (some ⟨w.heap.size, 0, none⟩) 1 1)
    (hlen : l.length + 1 ≤ 1000000000) (hbase : base ≤ w.heap.size)
    (h : ∀ v' w', CHo w' base v' (l ++ [⟨f1, f2, g⟩]) → Below base w w' → K (a.put o.dst v') w') : if Region.wanted o (yielded ops a.tmps) = true then Oper.wp Tryz.prog o a (w.alloc (.cells #[.string f1, .string f2, .bool g] 25 (0, 0))) K Q else E := by
  have hw : Region.wanted o (yielded ops a.tmps) = true := by simp [Region.wanted, hgd]
  rw [if_pos hw]
  obtain ⟨i0, hi, hz0, hz1, hz2⟩ := info_parts Tryz.infoCh
  obtain ⟨v', w', hrun, r1, r2, _⟩ := run_append_own (P := Tryz.prog) (w.alloc (.cells #[.string f1, .string f2, .bool g] 25 (0, 0))) base 22 o.type 25 i0 (.agg #[.string ⟨#[]⟩, .string ⟨#[]⟩, .bool false]) 3 40 Tryz.underlying22 hi hz0 hz1 hz2 rfl (by decide) v l.length (ccells l) (World.ownsRow.alloc hown _) ⟨w.heap.size, 0, none⟩ 1 1 [.string f1, .string f2, .bool g] rfl (by
    intro j u hu
    have h1 := heap_alloc_new w (.cells #[.string f1, .string f2, .bool g] 25 (0, 0))
    match j, hu with
    | 0, hu =>
      simp at hu
      subst hu
      rw [show (⟨w.heap.size, 0, none⟩ : Addr).add 0 = ⟨w.heap.size, 0, none⟩ by rfl, cell_of_row _ _ _ _ _ _ h1]
      rfl
    | 1, hu =>
      simp at hu
      subst hu
      rw [show (⟨w.heap.size, 0, none⟩ : Addr).add 1 = ⟨w.heap.size, 1, none⟩ by rfl, cell_of_row _ _ _ _ _ _ h1]
      rfl
    | 2, hu =>
      simp at hu
      subst hu
      rw [show (⟨w.heap.size, 0, none⟩ : Addr).add 2 = ⟨w.heap.size, 2, none⟩ by rfl, cell_of_row _ _ _ _ _ _ h1]
      rfl
    | n + 3, hu => simp at hu) (by intro u hu; simp at hu; rcases hu with rfl | rfl | rfl <;> rfl) (by unfold maxLen; omega) (by omega) (by simp; omega)
  unfold Oper.wp
  simp [execOp, ho, resolve, invoke, builtin, hs, hx, hrun, Result.andThen]
  refine h v' w' ?_ (((Below.refl base w).alloc hbase _).grown r2 (by simp; omega) fun k hk => (World.ownsRow.lt hown k hk).1)
  unfold CHo
  rw [List.length_append, ccells_app]
  exact r1
def szOf : Value → Nat
  | .string s => s.size
  | _ => 0
/-- What Parse keeps: cs are read off, r is left. -/
def PaI (s r : ByteArray) (cs : List Ch) : Prop := paT s.data.toList = (paT r.data.toList).map (cs ++ ·) ∧ cs.length + r.size ≤ s.size
theorem PaI.zero (s : ByteArray) : PaI s s [] := ⟨by cases paT s.data.toList <;> rfl, by simp⟩
theorem PaI.bad {s r : ByteArray} {cs : List Ch} (h : PaI s r cs) (hn : r.data.toList ≠ []) (hp : pa1 r.data.toList = none) : paT s.data.toList = none := by rw [h.1, paT_cons hn, hp]; rfl
theorem PaI.next {s r r2 : ByteArray} {cs : List Ch} {c : Ch} (h : PaI s r cs) (hn : r.data.toList ≠ []) (hp : pa1 r.data.toList = some (c, r2.data.toList)) : PaI s r2 (cs ++ [c]) := by
  have hl := pa1_lt hp
  rw [bsize, bsize] at hl
  refine ⟨?_, by have := h.2; rw [List.length_append]; simp; omega⟩
  rw [h.1, paT_cons hn, hp]
  show ((paT r2.data.toList).map (c :: ·)).map _ = _
  rw [Option.map_map]
  congr 1
  funext x
  simp
theorem PaI.done {s r : ByteArray} {cs : List Ch} (h : PaI s r cs) (hn : r.data.toList = []) : paT s.data.toList = some cs := by rw [h.1, hn, paT_nil]; simp
def parseC (s : Bs) : Int := match paT s with | none => 2 | some _ => 0
def parseL (s : Bs) : List Ch := (paT s).getD []
set_option maxRecDepth 100000 in
set_option maxHeartbeats 16000000 in
theorem parse_any (s : ByteArray) (w : World) (hs : s.size ≤ 1000000) :
    Calls Tryz.prog 11 #[.string s] w fun e w' => ∃ v, CHo w' w.heap.size v (parseL s.data.toList) ∧ e = .returned (.tuple #[v, .int .i64 (parseC s.data.toList)]) ∧ Below w.heap.size w w' := by
  go_enter Tryz.func11, Tryz.ntmps11
  go_wp2
  go_loopw [0, 4] (fun x y wr => ∃ (r : ByteArray) (cs : List Ch), x = .string r ∧ Hid (CHo wr w.heap.size y cs ∧ PaI s r cs ∧ Below w.heap.size w wr)) (fun x _ _ => szOf x)
  case atStart => exact ⟨s, [], rfl, Lib.hid ⟨CHo.nil _ _, PaI.zero s, Below.refl _ _⟩⟩
  case round =>
    obtain ⟨r, cs, rfl, hrl⟩ := hrel
    have hr0 : (0 : Int) ≤ (r.size : Int) := by omega
    by_cases hne : r.data.toList = []
    · have hem : r.toList.isEmpty = true := by rw [ByteArray.toList_eq]; rw [hne]; rfl
      have hpt := hrl.out.2.1.done hne
      have HF := Lib.hid (And.intro hrl.out (show parseL s.data.toList = cs ∧ parseC s.data.toList = 0 by unfold parseL parseC; rw [hpt]; exact ⟨rfl, rfl⟩))
      clear hrl hne hpt
      go_wp2
      go_ret2
      rw [HF.out.2.1, HF.out.2.2]
      exact ⟨_, HF.out.1.1, rfl, HF.out.1.2.2⟩
    · have hem : r.toList.isEmpty = false := by rw [ByteArray.toList_eq]; simpa using hne
      have hbad : pa1 r.data.toList = none → parseL s.data.toList = [] ∧ parseC s.data.toList = 2 := fun h => by
        have := hrl.out.2.1.bad hne h
        unfold parseL parseC; rw [this]; exact ⟨rfl, rfl⟩
      have hbl := hrl.out.2.2
      by_cases h5 : (r.size : Int) < 5
      · have HF := Lib.hid (And.intro hbl (hbad (by unfold pa1; rw [bsize, if_pos (.inl (by omega))])))
        clear hrl hbl hbad hne
        go_wp2
        go_ret2
        rw [HF.out.2.1, HF.out.2.2]
        exact ⟨_, CHo.nil _ _, rfl, HF.out.1⟩
      · have h05 : 0 < r.size := by omega
        obtain ⟨c, hc⟩ : ∃ c, r[0]'h05 = c := ⟨_, rfl⟩
        have hgd : r.data.toList.getD 0 0 = c := by
          rw [← hc, List.getD_eq_getElem?_getD, List.getElem?_eq_getElem (by rw [bsize]; exact h05)]; rfl
        by_cases hc1 : (1 : Int) < (c.toNat : Int)
        · have HF := Lib.hid (And.intro hbl (hbad (by unfold pa1; rw [hgd, if_pos (.inr (by omega))])))
          clear hrl hbl hbad hne hgd
          go_wp2
          go_ret2
          rw [HF.out.2.1, HF.out.2.2]
          exact ⟨_, CHo.nil _ _, rfl, HF.out.1⟩
        · obtain ⟨g, hg⟩ : ∃ g : Bool, ((c.toNat : Int) == 1) = g := ⟨_, rfl⟩
          have hgi : c.toNat = 1 ↔ g = true := by rw [← hg, beq_iff_eq]; omega
          obtain ⟨K, hK⟩ : ∃ K, K = numF ((r.data.toList.drop 1).take 2) := ⟨_, rfl⟩
          obtain ⟨V, hV⟩ : ∃ V, V = numF ((r.data.toList.drop 3).take 2) := ⟨_, rfl⟩
          have hKm : K < 65536 := by
            have h1 := numF_lt ((r.data.toList.drop 1).take 2)
            have h2 : 256 ^ ((r.data.toList.drop 1).take 2).length ≤ 256 ^ 2 := Nat.pow_le_pow_right (by decide) (by rw [List.length_take]; omega)
            omega
          have hVm : V < 65536 := by
            have h1 := numF_lt ((r.data.toList.drop 3).take 2)
            have h2 : 256 ^ ((r.data.toList.drop 3).take 2).length ≤ 256 ^ 2 := Nat.pow_le_pow_right (by decide) (by rw [List.length_take]; omega)
            omega
          have c1 : ∀ W, Calls Tryz.prog 35 #[.string (r.extract 1 3)] W fun e w' => e = .returned (.int .i64 K) ∧ Below W.heap.size W w' := fun W => by
            have h := number_any (r.extract 1 3) W (by rw [ByteArray.size_extract]; omega)
            rw [ext_list, ← hK] at h; exact h
          have c2 : ∀ W, Calls Tryz.prog 35 #[.string (r.extract 3 5)] W fun e w' => e = .returned (.int .i64 V) ∧ Below W.heap.size W w' := fun W => by
            have h := number_any (r.extract 3 5) W (by rw [ByteArray.size_extract]; omega)
            rw [ext_list, ← hV] at h; exact h
          have hpa : pa1 r.data.toList = if r.size < 5 + K + V ∨ (g = true ∧ 0 < V) then none else some (⟨r.extract 5 (5 + K), r.extract (5 + K) (5 + K + V), g⟩, (r.extract (5 + K + V) r.size).data.toList) := by
            unfold pa1
            have hdg : decide (c.toNat = 1) = g := by cases g <;> simp_all
            have e1 : r.extract 5 (5 + K) = ⟨((r.data.toList.drop 5).take K).toArray⟩ := by
              apply ba_ext; rw [ext_list, Nat.add_sub_cancel_left]
            have e2 : r.extract (5 + K) (5 + K + V) = ⟨((r.data.toList.drop (5 + K)).take V).toArray⟩ := by
              apply ba_ext; rw [ext_list, Nat.add_sub_cancel_left]
            have e3 : (r.extract (5 + K + V) r.size).data.toList = r.data.toList.drop (5 + K + V) := by
              rw [ext_list, List.take_of_length_le (by rw [List.length_drop, bsize]; omega)]
            rw [hgd, bsize, if_neg (by omega), ← hK, ← hV, e1, e2, e3, hdg]
            simp only [hgi]
          have HB := Lib.hid (And.intro hbl (And.intro hbad hpa))
          have HR := Lib.hid (And.intro hrl.out.1 (And.intro hrl.out.2.1 hne))
          have C1 := Lib.hid c1
          have C2 := Lib.hid c2
          have hK0 : (0 : Int) ≤ (K : Int) := by omega
          have hV0 : (0 : Int) ≤ (V : Int) := by omega
          have hw1 : IntKind.i64.wrap (5 + (K : Int)) = 5 + (K : Int) := by rw [IntKind.wrap_i64]; omega
          have hw2 : IntKind.i64.wrap (5 + (K : Int) + (V : Int)) = 5 + (K : Int) + (V : Int) := by rw [IntKind.wrap_i64]; omega
          have hr5 : (5 : Int) ≤ (r.size : Int) := by omega
          have hr3 : (3 : Int) ≤ (r.size : Int) := by omega
          clear hrl hbl hbad hne hgd hgi hK hV hpa c1 c2
          go_upto_region 5 with fail
          go_region_law (go_simp; go_at_call 35; (first | (with_reducible refine (C1.out _).mono ?_) | (with_reducible refine (C2.out _).mono ?_)); rintro e w9 ⟨rfl, hb9⟩)
          all_goals
            rename_i wA hbA
            have hb2 := (HB.out.1.drew).trans (hbA.mono HB.out.1.drew.size)
            have hb3 := hb2.trans (hb9.mono hb2.size)
            have hown := (HR.out.1.drew.below hbA).below hb9
            have HO := Lib.hid (And.intro hown hb3)
            clear hbA hb9 hb2 hb3 hown C1 C2
            by_cases hlen : (r.size : Int) < 5 + (K : Int) + (V : Int)
            · have HF := Lib.hid (And.intro HO.out.2 (HB.out.2.1 (by rw [HB.out.2.2, if_pos (.inl (by omega))])))
              go_wp2
              go_ret2
              rw [HF.out.2.1, HF.out.2.2]
              exact ⟨_, CHo.nil _ _, rfl, HF.out.1⟩
            · by_cases hgv : g = true ∧ (0 : Int) < (V : Int)
              · obtain ⟨rfl, hv⟩ := hgv
                have HF := Lib.hid (And.intro HO.out.2 (HB.out.2.1 (by rw [HB.out.2.2, if_pos (.inr ⟨rfl, by omega⟩)])))
                go_wp2
                go_ret2
                rw [HF.out.2.1, HF.out.2.2]
                exact ⟨_, CHo.nil _ _, rfl, HF.out.1⟩
              · have hp2 := HB.out.2.2
                rw [if_neg (by rintro (h | ⟨h, h2⟩); omega; exact hgv ⟨h, by omega⟩)] at hp2
                have hnx := HR.out.2.1.next HR.out.2.2 hp2
                have hT1 : (5 + (K : Int)).toNat = 5 + K := by omega
                have hT2 : (5 + (K : Int) + (V : Int)).toNat = 5 + K + V := by omega
                have hl1 : (5 + (K : Int)) ≤ (r.size : Int) := by omega
                have hl2 : (5 + (K : Int) + (V : Int)) ≤ (r.size : Int) := by omega
                have hl3 : (0 : Int) ≤ 5 + (K : Int) := by omega
                have hl4 : (0 : Int) ≤ 5 + (K : Int) + (V : Int) := by omega
                have hl5 : (5 : Int) ≤ 5 + (K : Int) := by omega
                have hl6 : 5 + (K : Int) ≤ 5 + (K : Int) + (V : Int) := by omega
                have hcl : cs.length + 1 ≤ 1000000000 := by have := HR.out.2.1.2; omega
                have HN := Lib.hid hnx
                clear hnx hp2
                cases g
                all_goals
                  first
                    | (have hv : ¬ (0 : Int) < (V : Int) := fun h => hgv ⟨rfl, h⟩
                       clear hgv
                       go_upto_region 8 with fail)
                    | (clear hgv
                       go_upto_region 8 with fail)
                  go_region_law (refine step_appCh rfl (.tmp 39) (.tmp 56) rfl w.heap.size _ cs rfl (r.extract 5 (5 + K)) (r.extract (5 + K) (5 + K + V)) _ HO.out.1.drew rfl hcl HO.out.2.drew.size ?_; intro v' w7 ho7 hb7)
                  all_goals
                    have HG := Lib.hid (And.intro ho7 (HO.out.2.drew.trans hb7))
                    clear ho7 hb7
                    go_wp2
                    refine ⟨⟨_, _, rfl, Lib.hid ⟨HG.out.1, HN.out, HG.out.2⟩⟩, ?_⟩
                    show (r.extract (5 + K + V) r.size).size < r.size
                    rw [ByteArray.size_extract]; omega
end Go.Proofs.YtnbefiaeihialaaGreat
