/- The document's log: two, Print. -/
import Derived.Test.YtnbefiaeihialaaGreatWalAd
import Derived.Lib.AppendStr
import Derived.Deep.RegionHeld3
set_option linter.unusedVariables false
set_option linter.unusedSimpArgs false
namespace Go.Proofs.YtnbefiaeihialaaGreat
open Go.RowKit
/-- append(v, s...) of a string as one step of a region that draws. -/
theorem step_apps {w : World} {ops : Array Oper} {o : Oper} {a : Act} {K : Act → World → Prop} {Q : Exit → Act → World → Prop} {E : Prop} (hgd : o.guard = none) (sl x : Operand)
    (ho : o.op = .call { callee := .builtin .append, args := #[sl, x], argTypes := #[73, 9] })
    (base : Nat) (v : Value) (l : Bs) (hs : a.eval sl = v) (hown : BS w base v l) (s : ByteArray) (hx : a.eval x = .string s)
    (hlen : l.length + s.size ≤ 70368744177664) (hbase : base ≤ w.heap.size)
    (h : ∀ v' w', BS w' base v' (l ++ s.data.toList) → Below base w w' → K (a.put o.dst v') w') : if Region.wanted o (yielded ops a.tmps) = true then Oper.wp Tryz.prog o a w K Q else E := by
  have hw : Region.wanted o (yielded ops a.tmps) = true := by simp [Region.wanted, hgd]
  rw [if_pos hw]
  obtain ⟨i0, hi, hz0, hz1, hz2⟩ := info_parts Tryz.infoU8
  obtain ⟨v', w', hr, h2, h3, h4⟩ := Lib.run_append_own_string (P := Tryz.prog) w base 73 9 o.type 5 i0 Tryz.underlying73 Tryz.underlying9 hi hz0 hz1 hz2 v l.length (bcells l) hown s (by unfold maxLen; omega) (by omega) hbase
  unfold Oper.wp
  simp [execOp, ho, resolve, invoke, builtin, hs, hx, hr, Result.andThen]
  refine h v' w' ?_ (hown.grown (v' := v') (m := s.data.toList) h3 hbase).below
  unfold BS
  have hsz : s.data.toList.length = s.size := by rw [Array.length_toList]; rfl
  rw [bcells_append, List.length_append, hsz]
  exact h2
theorem two_bytes (n : Nat) : bigF n 2 = [UInt8.ofNat (n / 256), UInt8.ofNat n] := by
  unfold bigF bigF bigF
  rw [Nat.pow_one, Nat.pow_zero, Nat.div_one]
set_option maxRecDepth 100000 in
set_option maxHeartbeats 4000000 in
theorem two_any (n : Nat) (w : World) (hn : n ≤ 65535) :
    Calls Tryz.prog 34 #[.int .i64 n] w fun e w' => e = .returned (.string ⟨(bigF n 2).toArray⟩) ∧ Below w.heap.size w w' := by
  have hn0 : (0 : Int) ≤ (n : Int) := by omega
  have hb : Below w.heap.size w (w.alloc (.cells #[.int .u8 (UInt8.ofNat (n / 256)).toNat, .int .u8 (UInt8.ofNat n).toNat] 5 (0, 0))) := (Below.refl _ w).alloc (Nat.le_refl _) _
  have hcv : (convert 73 9 (.slice (some ⟨w.heap.size, 0, none⟩) 2 2)).run Tryz.prog (w.alloc (.cells #[.int .u8 (UInt8.ofNat (n / 256)).toNat, .int .u8 (UInt8.ofNat n).toNat] 5 (0, 0))) = .ok (.string ⟨(bigF n 2).toArray⟩) (w.alloc (.cells #[.int .u8 (UInt8.ofNat (n / 256)).toNat, .int .u8 (UInt8.ofNat n).toNat] 5 (0, 0))) := by
    refine conv_new (R := []) (T := 5) (fz := (0, 0)) (l := bigF n 2) ?_ (bigF_len _ _)
    rw [heap_alloc_new, two_bytes]; rfl
  have e1 : ((UInt8.ofNat (n / 256)).toNat : Int) = (n : Int) / 256 := by
    have : (UInt8.ofNat (n / 256)).toNat = n / 256 % 256 := by simp
    rw [this]; omega
  have e2 : ((UInt8.ofNat n).toNat : Int) = (n : Int) % 256 := by
    have : (UInt8.ofNat n).toNat = n % 256 := by simp
    rw [this]; omega
  rw [e1, e2] at hb hcv
  obtain ⟨RR, hRR⟩ : ∃ R : ByteArray, R = ⟨(bigF n 2).toArray⟩ := ⟨_, rfl⟩
  rw [← hRR] at hcv ⊢
  have HB := Lib.hid hb
  have hw1 : IntKind.u8.wrap ((n : Int) / 256) = (n : Int) / 256 := by rw [IntKind.wrap_u8]; omega
  have hw2 : IntKind.u8.wrap ((n : Int) % 256) = (n : Int) % 256 := by rw [IntKind.wrap_u8]; omega
  clear hb hRR e1 e2
  go_enter Tryz.func34, Tryz.ntmps34
  go_wp2
  go_ret
  exact ⟨rfl, HB.out⟩
set_option maxRecDepth 100000 in
set_option maxHeartbeats 16000000 in
theorem rprint_any (A : Option Addr) (n c : Nat) (xs : List Ch) (w : World) (h : ChsIn w A n xs) (hn : n ≤ 100000) :
    Calls Tryz.prog 9 #[.slice A n c] w fun e w' => e = .returned (.tuple #[.string (printS xs), .int .i64 (printC xs)]) ∧ Below w.heap.size w w' := by
  have hn0 : (0 : Int) ≤ (n : Int) := by omega
  have hl := h.len
  have H := Lib.hid (And.intro h hl)
  obtain ⟨PS, hPS⟩ : ∃ x, x = printS xs := ⟨_, rfl⟩
  obtain ⟨PC, hPC⟩ : ∃ x, x = printC xs := ⟨_, rfl⟩
  rw [← hPS, ← hPC]
  have HP := Lib.hid (And.intro hPS hPC)
  clear h hl hPS hPC
  go_enter Tryz.func9, Tryz.ntmps9
  go_wp2
  go_loopw [4, 5] (fun v i wr => ∃ j : Nat, j ≤ n ∧ i = .int .i64 j ∧ Hid (BS wr w.heap.size v (prT (xs.take j)) ∧ Below w.heap.size w wr ∧ ChsOk (xs.take j))) (fun _ i _ => n - mzInt i)
  case atStart => exact ⟨0, Nat.zero_le _, rfl, Lib.hid ⟨BS.nil _ _, Below.refl _ _, fun x hx => by simp at hx⟩⟩
  case round =>
    obtain ⟨j, hj, rfl, hrl⟩ := hrel
    obtain ⟨hbs, hbl, hok⟩ := hrl.out
    have hj0 : (0 : Int) ≤ (j : Int) := by omega
    by_cases hlt : j < n
    · have hji : (j : Int) < (n : Int) := by omega
      obtain ⟨b, off, rfl, hc⟩ := (H.out.1.below hbl).cells (by omega)
      obtain ⟨e1, e2, e3⟩ := hc j hlt
      have hjl : j < xs.length := by rw [H.out.2]; exact hlt
      have hpt := prT_take hjl
      have hno := not_ok hjl
      have hin : ∀ x, x = ch xs j → x.Ok → ChsOk (xs.take (j + 1)) := fun x hx hx2 y hy => by
        rw [List.take_succ_eq_append_getElem hjl] at hy
        rcases List.mem_append.1 hy with h | h
        · exact hok y h
        · rw [List.mem_singleton.1 h, ← ch_get hjl, ← hx]; exact hx2
      have hin2 := hin _ rfl
      obtain ⟨cc, hcc⟩ : ∃ cc, cc = ch xs j := ⟨_, rfl⟩
      rw [← hcc] at e1 e2 e3 hpt hno hin2
      have HCH := Lib.hid hcc
      clear hcc hin
      obtain ⟨K, V, gn⟩ := cc
      dsimp only at e1 e2 e3
      have hK0 : (0 : Int) ≤ (K.size : Int) := by omega
      have hV0 : (0 : Int) ≤ (V.size : Int) := by omega
      have HPT := Lib.hid (And.intro hpt (And.intro hno hin2))
      have hpl : (prT (xs.take j)).length ≤ 13107500000 := by
        have h1 := prT_len_le hok
        have h2 : (xs.take j).length = j := by rw [List.length_take]; omega
        rw [h2] at h1
        omega
      have HBS := Lib.hid hbs
      have HBL := Lib.hid hbl
      have HOK := Lib.hid hok
      have hz := hbl.size
      have hbad : ¬ (K.size ≤ 65535 ∧ V.size ≤ 65535) → PS = ⟨#[]⟩ ∧ PC = 3 := fun h => by
        have hb : ¬ ChsOk xs := HPT.out.2.1 h
        rw [HP.out.1, HP.out.2]
        unfold printS printC
        rw [if_neg hb, if_neg hb]; exact ⟨rfl, rfl⟩
      have HBD := Lib.hid hbad
      clear hbad hpt hno hin2 hbs hbl hok hc hrl
      by_cases hk : (65535 : Int) < (K.size : Int)
      · have HF := Lib.hid (HBD.out (by omega))
        go_wp2
        go_ret2
        rw [HF.out.1, HF.out.2]
        exact ⟨rfl, HBL.out⟩
      · by_cases hk2 : (65535 : Int) < (V.size : Int)
        · have HF := Lib.hid (HBD.out (by omega))
          go_wp2
          go_ret2
          rw [HF.out.1, HF.out.2]
          exact ⟨rfl, HBL.out⟩
        · have hlen1 : (prT (xs.take j)).length + 1 ≤ 70368744177664 := by omega
          obtain ⟨N2, hN2⟩ : ∃ s : ByteArray, s = ⟨(bigF K.size 2).toArray⟩ := ⟨_, rfl⟩
          have c1 : ∀ W, Calls Tryz.prog 34 #[.int .i64 (K.size : Nat)] W fun e w' => e = .returned (.string N2) ∧ Below W.heap.size W w' := fun W => by rw [hN2]; exact two_any K.size W (by omega)
          have z2 : N2.size = 2 := by rw [hN2, lsize, bigF_len]
          have o1 : ¬ (9223372036854775807 < 4 + K.size) := by omega
          have C1 := Lib.hid c1
          clear c1
          cases gn with
          | true =>
          obtain ⟨N3, hN3⟩ : ∃ s : ByteArray, s = ⟨(bigF 0 2).toArray⟩ := ⟨_, rfl⟩
          have c2 : ∀ W, Calls Tryz.prog 34 #[.int .i64 0] W fun e w' => e = .returned (.string N3) ∧ Below W.heap.size W w' := fun W => by rw [hN3]; exact two_any 0 W (by omega)
          have z3 : N3.size = 2 := by rw [hN3, lsize, bigF_len]
          have C2 := Lib.hid c2
          have hlenS : (prT (xs.take j) ++ [1]).length + (N2 ++ N3 ++ K).size ≤ 70368744177664 := by rw [List.length_append, ByteArray.size_append, ByteArray.size_append]; simp; omega
          have HN := Lib.hid (And.intro hN2 hN3)
          clear c2 hN2 hN3
          go_wp2_with (at_builtin; refine wp_app1 rfl (.tmp 33) (.tmp 34) rfl w.heap.size _ (prT (xs.take j)) rfl 1 1 rfl HBS.out rfl hlen1 hz ?_)
          intro v5 w5 ho5 hc5
          have hb5 := hc5.below
          have hE0 := HBL.out.trans hb5
          obtain ⟨C, hCd⟩ : ∃ C : World → Prop, C = fun W => Hid (Below w5.heap.size w5 W) := ⟨_, rfl⟩
          obtain ⟨E, hEd⟩ : ∃ E : World → Prop, E = fun W => Hid (Below w.heap.size w W) := ⟨_, rfl⟩
          have key : ∀ W, E W → W.cell? ⟨b, off + j * 3, none⟩ = some (.string K) ∧ W.cell? ⟨b, off + j * 3 + 1, none⟩ = some (.string V) ∧ E W := fun W hE => by
            have hb : Hid (Below w.heap.size w W) := by rw [hEd] at hE; exact hE
            obtain ⟨b', off', hA, hc'⟩ := (H.out.1.below hb.out).cells (by omega)
            obtain ⟨k1, k2, _⟩ := hc' j hlt
            obtain ⟨rfl, rfl⟩ : b = b' ∧ off = off' := by injection hA with h; injection h with h1 h2; exact ⟨h1, h2⟩
            rw [← HCH.out] at k1 k2
            exact ⟨k1, k2, hE⟩
          have hE5 : E w5 := by rw [hEd]; exact Lib.hid hE0
          have hC5 : C w5 := by rw [hCd]; exact Lib.hid (Below.refl _ _)
          have hES : ∀ W, E W → E W.drew := fun W h => by rw [hEd] at h ⊢; exact Lib.hid h.out.drew
          have hEB : ∀ W W', E W → Below W.heap.size W W' → E W' := fun W W' h h' => by rw [hEd] at h ⊢; exact Lib.hid (h.out.trans (h'.mono h.out.size))
          have hEB2 : ∀ W W', E W → Below w.heap.size W W' → E W' := fun W W' h h' => by rw [hEd] at h ⊢; exact Lib.hid (h.out.trans h')
          have hCS : ∀ W, C W → C W.drew := fun W h => by rw [hCd] at h ⊢; exact Lib.hid h.out.drew
          have hCB : ∀ W W', C W → Below W.heap.size W W' → C W' := fun W W' h h' => by rw [hCd] at h ⊢; exact Lib.hid (h.out.trans (h'.mono h.out.size))
          have hz5 := hE0.size
          have hOW : ∀ W, C W → BS W w.heap.size v5 (prT (xs.take j) ++ [1]) ∧ w.heap.size ≤ W.heap.size := fun W h => by
            rw [hCd] at h
            exact ⟨ho5.below h.out, Nat.le_trans hz5 h.out.size⟩
          have hEo : ∀ W, E W → Below w.heap.size w W := fun W h => by rw [hEd] at h; exact h.out
          have KY := Lib.hid key
          have HES := Lib.hid hES
          have HEB := Lib.hid hEB
          have HEB2 := Lib.hid hEB2
          have HCS := Lib.hid hCS
          have HCB := Lib.hid hCB
          have HOW := Lib.hid hOW
          have HEO := Lib.hid hEo
          clear key hES hEB hEB2 hCS hCB hOW hEo hCd hEd hE0 hb5 hc5 ho5 hz5 e1 e2
          obtain ⟨m0, m1, _⟩ := KY.out _ hE5
          go_upto_region 9 with fail
          clear m0 m1
          go_region_held3 (fun w3 => w3.cell? ⟨b, off + j * 3, none⟩ = some (.string K) ∧ w3.cell? ⟨b, off + j * 3 + 1, none⟩ = some (.string V) ∧ E w3)
            ((refine KY.out _ ?_; repeat (first | exact hE5 | refine HES.out _ ?_ | (refine HEB.out _ _ ?_ (by assumption)) | (refine HEB2.out _ _ ?_ (by assumption)))))
            (first | (go_at_call 34; (first | (with_reducible refine (C1.out _).mono ?_) | (with_reducible refine (C2.out _).mono ?_)); rintro e w6 ⟨rfl, hb6⟩) | (refine step_apps rfl (.tmp 36) (.tmp 51) rfl w.heap.size v5 (prT (xs.take j) ++ [1]) rfl (HOW.out _ (by repeat (first | exact hC5 | refine HCS.out _ ?_ | (refine HCB.out _ _ ?_ (by assumption))))).1 (N2 ++ N3 ++ K) rfl hlenS (HOW.out _ (by repeat (first | exact hC5 | refine HCS.out _ ?_ | (refine HCB.out _ _ ?_ (by assumption))))).2 ?_; intro v9 w9 ho9 hb9))
          all_goals
            have hS9 : w9.cell? ⟨b, off + j * 3, none⟩ = some (.string K) ∧ w9.cell? ⟨b, off + j * 3 + 1, none⟩ = some (.string V) ∧ E w9 := by assumption
            have hb9' := HEO.out _ hS9.2.2
            have hpx : prT (xs.take j) ++ [1] ++ (N2 ++ N3 ++ K).data.toList = prT (xs.take (j + 1)) := by
              rw [HPT.out.1]
              unfold pr1
              rw [HN.out.1, HN.out.2]
              simp
            rw [hpx] at ho9
            have hok2 := HPT.out.2.2 ⟨by show K.size ≤ _; omega, by show V.size ≤ _; omega⟩
            have HF := Lib.hid (And.intro ho9 (And.intro hb9' hok2))
            clear ho9 hb9 hb9' hpx hS9 hok2
            go_wp2
            go_roundw
            case rel => exact ⟨j + 1, by omega, by go_num, HF⟩
            case measure => simp [mzInt]; omega
          | false =>
          obtain ⟨N3, hN3⟩ : ∃ s : ByteArray, s = ⟨(bigF V.size 2).toArray⟩ := ⟨_, rfl⟩
          have c2 : ∀ W, Calls Tryz.prog 34 #[.int .i64 (V.size : Nat)] W fun e w' => e = .returned (.string N3) ∧ Below W.heap.size W w' := fun W => by rw [hN3]; exact two_any V.size W (by omega)
          have z3 : N3.size = 2 := by rw [hN3, lsize, bigF_len]
          have o2 : ¬ (9223372036854775807 < 4 + K.size + V.size) := by omega
          have C2 := Lib.hid c2
          have hlenS : (prT (xs.take j) ++ [0]).length + (N2 ++ N3 ++ K ++ V).size ≤ 70368744177664 := by rw [List.length_append, ByteArray.size_append, ByteArray.size_append, ByteArray.size_append]; simp; omega
          have HN := Lib.hid (And.intro hN2 hN3)
          clear c2 hN2 hN3
          go_wp2_with (at_builtin; refine wp_app1 rfl (.tmp 53) (.tmp 54) rfl w.heap.size _ (prT (xs.take j)) rfl 0 0 rfl HBS.out rfl hlen1 hz ?_)
          intro v5 w5 ho5 hc5
          have hb5 := hc5.below
          have hE0 := HBL.out.trans hb5
          obtain ⟨C, hCd⟩ : ∃ C : World → Prop, C = fun W => Hid (Below w5.heap.size w5 W) := ⟨_, rfl⟩
          obtain ⟨E, hEd⟩ : ∃ E : World → Prop, E = fun W => Hid (Below w.heap.size w W) := ⟨_, rfl⟩
          have key : ∀ W, E W → W.cell? ⟨b, off + j * 3, none⟩ = some (.string K) ∧ W.cell? ⟨b, off + j * 3 + 1, none⟩ = some (.string V) ∧ E W := fun W hE => by
            have hb : Hid (Below w.heap.size w W) := by rw [hEd] at hE; exact hE
            obtain ⟨b', off', hA, hc'⟩ := (H.out.1.below hb.out).cells (by omega)
            obtain ⟨k1, k2, _⟩ := hc' j hlt
            obtain ⟨rfl, rfl⟩ : b = b' ∧ off = off' := by injection hA with h; injection h with h1 h2; exact ⟨h1, h2⟩
            rw [← HCH.out] at k1 k2
            exact ⟨k1, k2, hE⟩
          have hE5 : E w5 := by rw [hEd]; exact Lib.hid hE0
          have hC5 : C w5 := by rw [hCd]; exact Lib.hid (Below.refl _ _)
          have hES : ∀ W, E W → E W.drew := fun W h => by rw [hEd] at h ⊢; exact Lib.hid h.out.drew
          have hEB : ∀ W W', E W → Below W.heap.size W W' → E W' := fun W W' h h' => by rw [hEd] at h ⊢; exact Lib.hid (h.out.trans (h'.mono h.out.size))
          have hEB2 : ∀ W W', E W → Below w.heap.size W W' → E W' := fun W W' h h' => by rw [hEd] at h ⊢; exact Lib.hid (h.out.trans h')
          have hCS : ∀ W, C W → C W.drew := fun W h => by rw [hCd] at h ⊢; exact Lib.hid h.out.drew
          have hCB : ∀ W W', C W → Below W.heap.size W W' → C W' := fun W W' h h' => by rw [hCd] at h ⊢; exact Lib.hid (h.out.trans (h'.mono h.out.size))
          have hz5 := hE0.size
          have hOW : ∀ W, C W → BS W w.heap.size v5 (prT (xs.take j) ++ [0]) ∧ w.heap.size ≤ W.heap.size := fun W h => by
            rw [hCd] at h
            exact ⟨ho5.below h.out, Nat.le_trans hz5 h.out.size⟩
          have hEo : ∀ W, E W → Below w.heap.size w W := fun W h => by rw [hEd] at h; exact h.out
          have KY := Lib.hid key
          have HES := Lib.hid hES
          have HEB := Lib.hid hEB
          have HEB2 := Lib.hid hEB2
          have HCS := Lib.hid hCS
          have HCB := Lib.hid hCB
          have HOW := Lib.hid hOW
          have HEO := Lib.hid hEo
          clear key hES hEB hEB2 hCS hCB hOW hEo hCd hEd hE0 hb5 hc5 ho5 hz5 e1 e2
          obtain ⟨m0, m1, _⟩ := KY.out _ hE5
          go_upto_region 11 with fail
          clear m0 m1
          go_region_held3 (fun w3 => w3.cell? ⟨b, off + j * 3, none⟩ = some (.string K) ∧ w3.cell? ⟨b, off + j * 3 + 1, none⟩ = some (.string V) ∧ E w3)
            ((refine KY.out _ ?_; repeat (first | exact hE5 | refine HES.out _ ?_ | (refine HEB.out _ _ ?_ (by assumption)) | (refine HEB2.out _ _ ?_ (by assumption)))))
            (first | (go_at_call 34; (first | (with_reducible refine (C1.out _).mono ?_) | (with_reducible refine (C2.out _).mono ?_)); rintro e w6 ⟨rfl, hb6⟩) | (refine step_apps rfl (.tmp 56) (.tmp 83) rfl w.heap.size v5 (prT (xs.take j) ++ [0]) rfl (HOW.out _ (by repeat (first | exact hC5 | refine HCS.out _ ?_ | (refine HCB.out _ _ ?_ (by assumption))))).1 (N2 ++ N3 ++ K ++ V) rfl hlenS (HOW.out _ (by repeat (first | exact hC5 | refine HCS.out _ ?_ | (refine HCB.out _ _ ?_ (by assumption))))).2 ?_; intro v9 w9 ho9 hb9))
          all_goals
            have hS9 : w9.cell? ⟨b, off + j * 3, none⟩ = some (.string K) ∧ w9.cell? ⟨b, off + j * 3 + 1, none⟩ = some (.string V) ∧ E w9 := by assumption
            have hb9' := HEO.out _ hS9.2.2
            have hpx : prT (xs.take j) ++ [0] ++ (N2 ++ N3 ++ K ++ V).data.toList = prT (xs.take (j + 1)) := by
              rw [HPT.out.1]
              unfold pr1
              rw [HN.out.1, HN.out.2]
              simp
            rw [hpx] at ho9
            have hok2 := HPT.out.2.2 ⟨by show K.size ≤ _; omega, by show V.size ≤ _; omega⟩
            have HF := Lib.hid (And.intro ho9 (And.intro hb9' hok2))
            clear ho9 hb9 hb9' hpx hS9 hok2
            go_wp2
            go_roundw
            case rel => exact ⟨j + 1, by omega, by go_num, HF⟩
            case measure => simp [mzInt]; omega
    · obtain rfl : j = n := by omega
      have hjE : ¬ (j : Int) < (j : Int) := by omega
      have hx : xs.take j = xs := by rw [← H.out.2, List.take_length]
      rw [hx] at hbs hok
      have hcv := hbs.conv
      have hps : PS = ⟨(prT xs).toArray⟩ := HP.out.1.trans (if_pos hok)
      have hpc : PC = 0 := HP.out.2.trans (if_pos hok)
      rw [← hps] at hcv
      have HF := Lib.hid (And.intro hbl hpc)
      clear hrl hbs hbl hok hx hps hpc
      go_wp2
      go_ret2
      rw [HF.out.2]
      exact ⟨rfl, HF.out.1⟩
end Go.Proofs.YtnbefiaeihialaaGreat
