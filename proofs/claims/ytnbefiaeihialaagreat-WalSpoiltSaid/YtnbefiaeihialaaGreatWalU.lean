/- Package wal: whole; Keys. -/
import Derived.Test.YtnbefiaeihialaaGreatWalT
set_option linter.unusedVariables false
set_option linter.unusedSimpArgs false
namespace Go.Proofs.YtnbefiaeihialaaGreat
open Go.RowKit
/-- append(v, c) of one change: its cells lie in a new block. -/
theorem wp_appCh {w : World} {ops : Array Oper} {rest : List Oper} {o : Oper} {a : Act} {Q : Exit → Act → World → Prop} (hgd : o.guard = none) (s x : Operand)
    (ho : o.op = .call { callee := .builtin .append, args := #[s, x], argTypes := #[22, 22] })
    (base : Nat) (v : Value) (l : List Ch) (hs : a.eval s = v) (f1 f2 : ByteArray) (g : Bool) (hown : CHo w base v l)
    (hx : a.eval x = .slice (some ⟨w.heap.size, 0, none⟩) 1 1)
    (hlen : l.length + 1 ≤ 1000000000) (hbase : base ≤ w.heap.size)
    (h : ∀ v' w', CHo w' base v' (l ++ [⟨f1, f2, g⟩]) → Below base w w' → wpList Tryz.prog ops Q rest (a.put o.dst v') w') : wpList Tryz.prog ops Q (o :: rest) a (w.alloc (.cells #[.string f1, .string f2, .bool g] 25 (0, 0))) :=
  wpList_plain hgd fun K hK => by
    have := step_appCh (ops := #[]) (K := K) (Q := Q) (E := False) hgd s x ho base v l hs f1 f2 g hown hx hlen hbase fun v' w' q1 q2 => hK _ _ (h v' w' q1 q2)
    rw [if_pos (by simp [Region.wanted, hgd])] at this
    exact this
theorem find_at : ∀ {M : List Pr} (h : Srt M) {j : Nat} (hj : j < M.length), findM M M[j].1 = some M[j].2
  | p :: r, h, 0, _ => by rw [findM_cons]; exact if_pos rfl
  | p :: r, h, j + 1, hj => by
    have hj2 : j < r.length := Nat.lt_of_succ_lt_succ hj
    show findM (p :: r) r[j].1 = some r[j].2
    rw [findM_cons, if_neg (ltB_ne ((List.pairwise_cons.1 h).1 _ (List.getElem_mem hj2)))]
    exact find_at h.tail hj2
theorem SSo.cellAt {w : World} {base n cap : Nat} {ao : Option Addr} {l : List ByteArray} (h : SSo w base (.slice ao n cap) l) {j : Nat} (hj : j < l.length) : ∃ g, ao = some ⟨g, 0, none⟩ ∧ w.cell? ⟨g, j, none⟩ = some (.string l[j]) := by
  obtain ⟨g, cap', hv, _, hs⟩ := SSo.strs h (by omega)
  obtain ⟨rfl, rfl, rfl⟩ := Value.slice.inj hv
  exact ⟨g, rfl, hs.cell j hj⟩
theorem SSo.below {w w' : World} {base : Nat} {v : Value} {l : List ByteArray} (h : SSo w base v l) (hb : Below w.heap.size w w') : SSo w' base v l :=
  Eff.own (Eff.of_below hb (fun _ => False)) h (fun _ _ x => x)
set_option maxRecDepth 100000 in
theorem MapB.look {w : World} {mb : Nat} {M : List Pr} (h : MapB w mb M) {k v : ByteArray} (hk : k.size ≤ 1000000) (hf : findM M k = some v) :
    (Instr.lookup 91 (.map (some mb)) (.string k) false).run Tryz.prog w = .ok (.string v) w := by
  have hKk := Go.WideMaps.keyOf_string_mk (P := Tryz.prog) (k := 9) Tryz.underlying9 (s := k) (by unfold maxLen; omega)
  have hz0 := plainElem_string (H := Unit) (P := Tryz.prog) (e := 9) Tryz.underlying9 (s := ⟨#[]⟩) (by decide)
  obtain ⟨x, ps, hrun, hv⟩ := World.ownsMap.lookup h Tryz.keyStr Tryz.underlying91 (Tryz.zeroStr w) hz0 hKk
  have e1 : (toD (H := Unit) M).atKey (.string k.data.toList) (.lit (.string (⟨#[]⟩ : ByteArray).data.toList)) = .lit (.string ((findM M k).getD ⟨#[]⟩).data.toList) := toD_at M k
  rw [e1, hf] at hv
  obtain ⟨t, rfl, ht, _⟩ := plainElem_string_inv Tryz.underlying9 hv
  have e2 : t = v := by
    have h1 := congrArg Prod.fst ht
    injection h1 with h1
    injection h1 with h1
    exact (ba_ext h1).symm
  rw [hrun, e2]
set_option maxRecDepth 100000 in
set_option maxHeartbeats 16000000 in
theorem whole_any (mb : Nat) (M : List Pr) (w : World) (hm : MapB w mb M) (hs : Srt M) (hok : MOk M) (hl : M.length ≤ 100000) :
    Calls Tryz.prog 46 #[.map (some mb)] w fun e w' => e = .returned (.string ⟨(whole M).toArray⟩) ∧ Below w.heap.size w w' := by
  have ck := mkeys_any mb w
  have cs := sorted_any mb M w hm hs (by omega)
  have H := Lib.hid (And.intro hm (And.intro hs hok))
  obtain ⟨RS, hRS⟩ : ∃ RS : ByteArray, RS = ⟨(whole M).toArray⟩ := ⟨_, rfl⟩
  rw [← hRS]
  have HRS := Lib.hid hRS
  clear hm hs hok hRS
  go_enter Tryz.func46, Tryz.ntmps46
  go_wp2_with fail
  refine ck.mono ?_
  rintro e w1 ⟨rfl, rfl⟩
  clear ck
  go_wp2_with fail
  refine cs.mono ?_
  rintro e w2 ⟨v, rfl, hso, hb2⟩
  obtain ⟨ao, cap, rfl⟩ := hso.shape
  rw [List.length_map] at *
  obtain ⟨N, hN⟩ : ∃ N, N = M.length := ⟨_, rfl⟩
  rw [← hN] at hso hl ⊢
  have hN0 : (0 : Int) ≤ (N : Int) := by omega
  have H2 := Lib.hid (And.intro hso (And.intro hb2 hN))
  clear cs hso hb2 hN
  go_wp2
  go_loopw [3, 12] (fun x i wr => ∃ j : Nat, j ≤ N ∧ i = .int .i64 j ∧ Hid (CHo wr w2.heap.size x ((M.map prOf).take j) ∧ Below w2.heap.size w2 wr)) (fun _ i _ => N - (intOf i).toNat)
  case atStart => exact ⟨0, Nat.zero_le _, rfl, Lib.hid ⟨CHo.nil _ _, Below.refl _ _⟩⟩
  case round =>
    obtain ⟨j, hj, rfl, hrl⟩ := hrel
    have hj0 : (0 : Int) ≤ (j : Int) := by omega
    by_cases hlt : j < N
    · have hji : (j : Int) < (N : Int) := by omega
      have hjl : j < M.length := by rw [← H2.out.2.2]; exact hlt
      obtain ⟨g, rfl, ec⟩ := (H2.out.1.below hrl.out.2).cellAt (j := j) (by rw [List.length_map]; exact hjl)
      rw [List.getElem_map] at ec
      have hfa := find_at H.out.2.1 hjl
      have hps := H.out.2.2 M[j] (List.getElem_mem hjl)
      have hb3 := H2.out.2.1.trans (hrl.out.2.mono H2.out.2.1.size)
      have hlk := (H.out.1.below hb3).look (k := M[j].1) (by omega) hfa
      have htk : (M.map prOf).take (j + 1) = (M.map prOf).take j ++ [prOf M[j]] := by
        rw [List.take_succ_eq_append_getElem (by rw [List.length_map]; exact hjl), List.getElem_map]
      have htl : ((M.map prOf).take j).length + 1 ≤ 1000000000 := by rw [List.length_take]; omega
      generalize M[j] = p at *
      obtain ⟨K, V⟩ := p
      dsimp only at ec hlk
      have HT := Lib.hid (And.intro htk hb3)
      clear hfa hps hb3 htk
      go_wp2_with (at_builtin; refine wp_appCh rfl (.tmp 16) (.tmp 22) rfl w2.heap.size _ _ rfl K V false hrl.out.1 rfl htl hrl.out.2.size ?_)
      intro v' w7 hown7 hb7
      have HF := Lib.hid (And.intro hown7 hb7)
      clear hown7 hb7
      go_wp2
      refine ⟨⟨j + 1, by omega, by go_num, Lib.hid ⟨by rw [HT.out.1]; exact HF.out.1, hrl.out.2.trans HF.out.2⟩⟩, ?_⟩
      simp [intOf]; omega
    · obtain rfl : j = N := by omega
      have hjE : ¬ (j : Int) < (j : Int) := by omega
      have hx : (M.map prOf).take j = M.map prOf := by rw [H2.out.2.2, ← List.length_map (f := prOf)]; exact List.take_length
      have hch := hrl.out.1
      rw [hx] at hch
      obtain ⟨A3, c3, rfl⟩ := hch.shape
      have hin := hch.in_
      rw [List.length_map, ← H2.out.2.2] at *
      have cp := print_any A3 j c3 (M.map prOf) wr hin hl
      have hps : printS (M.map prOf) = ⟨(whole M).toArray⟩ := if_pos H.out.2.2.chs
      rw [hps] at cp
      rw [← HRS.out] at cp
      have hb3 := H2.out.2.1.trans (hrl.out.2.mono H2.out.2.1.size)
      have HB := Lib.hid hb3
      clear hb3 hin hch hx hps hrl
      go_wp2_with fail
      refine cp.mono ?_
      rintro e w8 ⟨rfl, hb8⟩
      have HF := Lib.hid (HB.out.trans (hb8.mono HB.out.size))
      clear cp hb8
      go_wp2
      go_ret
      exact ⟨rfl, HF.out⟩
def pxB (p k : ByteArray) : Bool := p.data.toList.isPrefixOf k.data.toList
set_option maxRecDepth 100000 in
set_option maxHeartbeats 16000000 in
theorem keys_any (s g : Nat) (st : St) (mb : Nat) (d : Int) (tab : List Int) (p : ByteArray) (w : World) (h : StB w s g st mb d 0 tab) (hm : MapB w mb st.M) (hs : Srt st.M) (hl : st.M.length ≤ 100000) :
    Calls Tryz.prog 23 #[.pointer (some ⟨s, 0, none⟩), .string p] w fun e w' => ∃ v, e = .returned v ∧ SSo w' w.heap.size v (keysM st.M p) ∧ Below w.heap.size w w' := by
  obtain ⟨c0, c1, c2, c3, c4, c5, c6, c7, c8, c9⟩ := h.cells
  have ck := mkeys_any mb w
  have cs := sorted_any mb st.M w hm hs (by omega)
  obtain ⟨L, hL⟩ : ∃ L, L = st.M.map (·.1) := ⟨_, rfl⟩
  rw [← hL] at cs
  have hLl : L.length = st.M.length := by rw [hL, List.length_map]
  have hkM : keysM st.M p = L.filter (pxB p) := by rw [hL]; rfl
  rw [← hLl] at hl
  rw [hkM]
  clear h hm hs hL hLl hkM c0 c1 c2 c3 c4 c5 c6 c8 c9
  go_enter Tryz.func23, Tryz.ntmps23
  go_wp2_with fail
  refine ck.mono ?_
  rintro e w1 ⟨rfl, rfl⟩
  clear ck
  go_wp2_with fail
  refine cs.mono ?_
  rintro e w2 ⟨v, rfl, hso, hb2⟩
  obtain ⟨ao, cap, rfl⟩ := hso.shape
  obtain ⟨N, hN⟩ : ∃ N, N = L.length := ⟨_, rfl⟩
  rw [← hN] at hso hl ⊢
  have hN0 : (0 : Int) ≤ (N : Int) := by omega
  have H2 := Lib.hid (And.intro hso (And.intro hb2 hN))
  clear cs hso hb2 hN c7
  go_wp2
  go_loopw [5, 15] (fun x i wr => ∃ j : Nat, j ≤ N ∧ i = .int .i64 j ∧ Hid (SSo wr w2.heap.size x ((L.take j).filter (pxB p)) ∧ Below w2.heap.size w2 wr)) (fun _ i _ => N - (intOf i).toNat)
  case atStart => exact ⟨0, Nat.zero_le _, rfl, Lib.hid ⟨SSo.nil _ _, Below.refl _ _⟩⟩
  case round =>
    obtain ⟨j, hj, rfl, hrl⟩ := hrel
    obtain ⟨wo, rfl⟩ : ∃ wo : World, wo = wr := ⟨_, rfl⟩
    have hj0 : (0 : Int) ≤ (j : Int) := by omega
    by_cases hlt : j < N
    · have hji : (j : Int) < (N : Int) := by omega
      have hjl : j < L.length := by rw [← H2.out.2.2]; exact hlt
      obtain ⟨gb, rfl, ec⟩ := (H2.out.1.below hrl.out.2).cellAt hjl
      have htk := List.take_succ_eq_append_getElem hjl
      generalize L[j] = k at *
      have cp := Tryz.strings_HasPrefix k p wo
      have hpe : Lib.hasPrefix k.data.toList p.data.toList = pxB p k := rfl
      rw [hpe] at cp
      have htl : ((L.take j).filter (pxB p)).length + 1 ≤ 1000000000000 := by
        have h1 := List.length_filter_le (pxB p) (L.take j)
        rw [List.length_take] at h1
        omega
      have hfl : (L.take (j + 1)).filter (pxB p) = (L.take j).filter (pxB p) ++ if pxB p k = true then [k] else [] := by
        rw [htk, List.filter_append]
        congr 1
        by_cases hq : pxB p k = true
        · rw [if_pos hq, List.filter_cons_of_pos hq]; rfl
        · rw [if_neg hq, List.filter_cons_of_neg hq]; rfl
      generalize pxB p k = q at *
      have HT := Lib.hid hfl
      clear htk hpe hfl
      go_wp2_with fail
      refine cp.mono ?_
      rintro e w7 ⟨rfl, rfl⟩
      clear cp
      cases q with
      | false =>
        go_wp2
        go_roundw
        case rel => exact ⟨j + 1, by omega, by go_num, Lib.hid ⟨by rw [HT.out]; simpa using hrl.out.1, hrl.out.2⟩⟩
        case measure => simp [intOf]; omega
      | true =>
        go_wp2_with (at_builtin; refine wp_appstr rfl (.tmp 22) (.tmp 24) rfl w2.heap.size _ _ rfl k hrl.out.1 rfl htl hrl.out.2.size ?_)
        intro v' w8 hown8 hb8
        have HF := Lib.hid (And.intro hown8 hb8)
        clear hown8 hb8
        go_wp2
        go_roundw
        case rel => exact ⟨j + 1, by omega, by go_num, Lib.hid ⟨by rw [HT.out]; simpa using HF.out.1, hrl.out.2.trans HF.out.2⟩⟩
        case measure => simp [intOf]; omega
    · obtain rfl : j = N := by omega
      have hjE : ¬ (j : Int) < (j : Int) := by omega
      have hx : L.take j = L := by rw [H2.out.2.2]; exact List.take_length
      rw [hx] at hrl
      have hb3 := H2.out.2.1.trans (hrl.out.2.mono H2.out.2.1.size)
      have hbs := H2.out.2.1.size
      have HF := Lib.hid (And.intro hrl.out.1 (And.intro hb3 hbs))
      clear hrl hb3 hbs hx
      go_wp2
      go_ret
      refine ⟨_, rfl, ?_, HF.out.2.1⟩
      have hrow := HF.out.1
      rcases hrow.2 with ⟨h1, h2⟩ | ⟨gg, cap, cur, h1, h2, h3⟩
      · exact ⟨hrow.1, .inl ⟨h1, h2⟩⟩
      · exact ⟨hrow.1, .inr ⟨gg, cap, cur, h1, Nat.le_trans HF.out.2.2 h2, h3⟩⟩
end Go.Proofs.YtnbefiaeihialaaGreat
