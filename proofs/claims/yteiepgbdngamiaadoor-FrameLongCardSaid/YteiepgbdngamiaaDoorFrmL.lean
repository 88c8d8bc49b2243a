/- Package frame's law folder: FrameLong. -/
import Derived.Test.YteiepgbdngamiaaDoorFrmK
import Derived.Room.Make
set_option linter.unusedVariables false
set_option linter.unusedSimpArgs false
namespace Go.Proofs.YteiepgbdngamiaaDoor
open Go.RowKit
def PairFeedE (W0 : World) (F G : Nat) (v1 v2 : Value) (r1 r2 : List UInt8) (n1 n2 : Int) (s : List UInt8) (w : World) (e : Ending) (w' : World) : Prop :=
  ∃ vo v', e = .returned vo ∧ LV w' w.heap.size vo ((initL (r1 ++ s)).map mkLn) ∧ Pair W0 w' F G v' v2 (restL (r1 ++ s)) r2 (n1 + s.length) n2 ∧ (∀ B v ls, LV w B v ls → LV w' B v ls) ∧ Eff (FS F v1) w w'
theorem Pair.feedE {W0 w : World} {F G : Nat} {v1 v2 : Value} {r1 r2 : List UInt8} {n1 n2 : Int} (h : Pair W0 w F G v1 v2 r1 r2 n1 n2) (s : ByteArray) (hr : IR r1 [] r1) (hf1 : 0 ≤ n1) (hf2 : n1 ≤ 1000000000) (hrl : r1.length ≤ 1000000) (hs : s.size ≤ 1000000) :
    Calls Tryd.prog 13 #[.pointer (some ⟨F, 0, none⟩), .string s] w (PairFeedE W0 F G v1 v2 r1 r2 n1 n2 s.data.toList w) := by
  refine (feed_any F F v1 r1 n1 s w h.f hr (Nat.le_of_lt (lt_of_block h.f.mem)) hf1 hf2 hrl hs).mono fun e w' hh => ?_
  obtain ⟨vo, v', a, b, c, d, o⟩ := hh
  exact ⟨vo, v', a, b, h.step d c o, fun B v ls hl => hl.keepF h.f d, d⟩
def PairFeedE2 (W0 : World) (F G : Nat) (v1 v2 : Value) (r1 r2 : List UInt8) (n1 n2 : Int) (s : List UInt8) (w : World) (e : Ending) (w' : World) : Prop :=
  ∃ vo v', e = .returned vo ∧ LV w' w.heap.size vo ((initL (r2 ++ s)).map mkLn) ∧ Pair W0 w' F G v1 v' r1 (restL (r2 ++ s)) n1 (n2 + s.length) ∧ (∀ B v ls, LV w B v ls → LV w' B v ls) ∧ Eff (FS G v2) w w'
theorem Pair.feedE2 {W0 w : World} {F G : Nat} {v1 v2 : Value} {r1 r2 : List UInt8} {n1 n2 : Int} (h : Pair W0 w F G v1 v2 r1 r2 n1 n2) (s : ByteArray) (hr : IR r2 [] r2) (hf1 : 0 ≤ n2) (hf2 : n2 ≤ 1000000000) (hrl : r2.length ≤ 1000000) (hs : s.size ≤ 1000000) :
    Calls Tryd.prog 13 #[.pointer (some ⟨G, 0, none⟩), .string s] w (PairFeedE2 W0 F G v1 v2 r1 r2 n1 n2 s.data.toList w) := by
  refine (h.swap.feedE s hr hf1 hf2 hrl hs).mono fun e w' hh => ?_
  obtain ⟨vo, v', a, b, c, d, o⟩ := hh
  exact ⟨vo, v', a, b, c.swap, d, o⟩
theorem noEnd_rep {c : UInt8} (h : c ≠ 13) (k : Nat) : noEnd (List.replicate k c) := by
  induction k with
  | zero => rfl
  | succ k ih =>
    rw [List.replicate_succ]
    exact noEnd_cons ih fun t e => by injection e with e1 _; exact h e1
theorem long_ir {l : List UInt8} (h : noEnd l) (b : List UInt8) : initL (l ++ 13 :: 10 :: b) = l :: initL b ∧ restL (l ++ 13 :: 10 :: b) = restL b := by
  have h1 := lns_line b h
  have h2 := IR.of b
  unfold IR at h2
  rw [h2] at h1
  exact IR.eq (s := l ++ 13 :: 10 :: b) (I := l :: initL b) (r := restL b) h1
theorem fill_step {j k : Nat} {c : UInt8} (h : j < k) : (bcells (List.replicate j c ++ List.replicate (k - j) 0)).toArray.setIfInBounds j (.int .u8 c.toNat) = (bcells (List.replicate (j + 1) c ++ List.replicate (k - (j + 1)) 0)).toArray := by
  rw [List.setIfInBounds_toArray]
  congr 1
  have e : k - j = (k - (j + 1)) + 1 := by omega
  rw [e, List.replicate_succ, bcells_append, bcells_append]
  have hl : (bcells (List.replicate j c)).length = j := by rw [bcells_length, List.length_replicate]
  rw [List.set_append_right _ _ (by omega), hl, Nat.sub_self, List.replicate_succ', bcells_append, List.append_assoc]
  rfl
set_option maxRecDepth 100000 in
set_option maxHeartbeats 20000000 in
theorem long_all (n c : Int) (t : ByteArray) (w : World) (hm : MaxAt w) (wn : (Lit.int .u16 n).wf = true) (wc : (Lit.int .u8 c).wf = true) (wt : t.size ≤ maxLen) :
    Calls Tryd.prog 8 #[.int .u16 n, .int .u8 c, .string t] w fun e w' => e = .returned (.bool true) ∧ Below w.heap.size w w' := by
  have hn : 0 ≤ n ∧ n ≤ 65535 := by simpa [Lit.wf, IntKind.min, IntKind.max, IntKind.signed, IntKind.bits] using wn
  have hc : 0 ≤ c ∧ c ≤ 255 := by simpa [Lit.wf, IntKind.min, IntKind.max, IntKind.signed, IntKind.bits] using wc
  obtain ⟨cc, rfl⟩ : ∃ cc : UInt8, c = cc.toNat := ⟨UInt8.ofNat c.toNat, by rw [UInt8.toNat_ofNat']; omega⟩
  obtain ⟨m, rfl⟩ : ∃ m : Nat, n = m := ⟨n.toNat, by omega⟩
  unfold maxLen at wt
  have HM := Lib.hid hm
  have c1 := awake_any w hm
  clear hm wc hc wn
  by_cases ht : t.size ≤ 1000
  · by_cases h13 : cc = 13
    · obtain ⟨t1, -⟩ := u8T (n := 13) h13 rfl
      have hti : (t.size : Int) ≤ 1000 := by omega
      clear h13
      go_enter Tryd.func8, Tryd.ntmps8
      go_wp2_with fail
      refine c1.mono ?_
      rintro e w1 ⟨rfl, hb1⟩
      go_wp2
      go_ret
      exact ⟨rfl, hb1⟩
    · by_cases h10 : cc = 10
      · obtain ⟨t1, -⟩ := u8T (n := 10) h10 rfl
        obtain ⟨t2, -⟩ := u8F (n := 13) h13 rfl
        have hti : (t.size : Int) ≤ 1000 := by omega
        clear h13 h10
        go_enter Tryd.func8, Tryd.ntmps8
        go_wp2_with fail
        refine c1.mono ?_
        rintro e w1 ⟨rfl, hb1⟩
        go_wp2
        go_ret
        exact ⟨rfl, hb1⟩
      · obtain ⟨t1, -⟩ := u8F (n := 10) h10 rfl
        obtain ⟨t2, -⟩ := u8F (n := 13) h13 rfl
        have hti : (t.size : Int) ≤ 1000 := by omega
        have htz := bsize t
        have hmod : ((m : Int)).tmod 1200 = ((m % 1200 : Nat) : Int) := by
          rw [Int.tmod_eq_emod_of_nonneg (by omega)]; omega
        have hk : m % 1200 < 1200 := Nat.mod_lt _ (by decide)
        generalize hkk : m % 1200 = k at *
        have hw1 : IntKind.u16.wrap (k : Int) = (k : Int) := by
          unfold IntKind.wrap; simp [IntKind.bits, IntKind.signed]; omega
        have hw2 : IntKind.i64.wrap (k : Int) = (k : Int) := IntWalk.i64_in _ (by omega)
        have hmk : ∀ W : World, (Instr.makeSlice 52 (.int .i64 (k : Int)) (.int .i64 (k : Int))).run Tryd.prog W = .ok (.slice (some ⟨W.heap.size, 0, none⟩) k k) (W.alloc (.cells (madeCells #[.int .u8 0] k) 5)) := fun W =>
          run_make_row' 52 5 (.int .u8 0) 1 Tryd.underlying52 Tryd.infoU8 rfl .i64 .i64 k (by omega) (by omega) W
        clear hkk
        go_enter Tryd.func8, Tryd.ntmps8
        go_wp2_with fail
        refine c1.mono ?_
        rintro e w1 ⟨rfl, hb1⟩
        have hz : (madeCells #[Value.int .u8 0] k) = (bcells (List.replicate 0 cc ++ List.replicate (k - 0) 0)).toArray := by rw [List.replicate_zero, List.nil_append, Nat.sub_zero, ← bcells_zero]
        rw [hz] at hmk
        clear hz
        go_wp2
        obtain ⟨g, hg⟩ : ∃ g, g = w1.heap.size := ⟨_, rfl⟩
        rw [← hg]
        have HG := Lib.hid hg
        have hm0 : (w1.alloc (.cells (bcells (List.replicate 0 cc ++ List.replicate (k - 0) 0)).toArray 5)).heap[g]? = some (.cells (bcells (List.replicate 0 cc ++ List.replicate (k - 0) 0)).toArray 5 (0, 0)) := by rw [hg]; exact heap_alloc_new _ _
        have hbw : Below w.heap.size w (w1.alloc (.cells (bcells (List.replicate 0 cc ++ List.replicate (k - 0) 0)).toArray 5)) := hb1.alloc hb1.size _
        have hgw : w.heap.size ≤ g := by rw [hg]; exact hb1.size
        have H0 := Lib.hid (And.intro hm0 hbw)
        clear hm0 hbw hg hb1 hmk c1 hmod
        go_loopw [9] (fun i wr => ∃ j : Nat, j ≤ k ∧ i = .int .i64 j ∧ wr.heap[g]? = some (.cells (bcells (List.replicate j cc ++ List.replicate (k - j) 0)).toArray 5 (0, 0)) ∧ Below w.heap.size w wr) (fun i _ => k - (intOf i).toNat)
        case atStart => exact ⟨0, Nat.zero_le _, rfl, H0.out.1, H0.out.2⟩
        case round =>
          clear H0
          obtain ⟨j, hj, rfl, hmj, hbj⟩ := hrel
          have hj0 : (0 : Int) ≤ (j : Int) := by omega
          by_cases hlt : j < k
          · have hj1 : (j : Int) < (k : Int) := by omega
            have hfz := frozen_of_row _ g j _ _ hmj
            have hcl : wr.cell? ⟨g, j, none⟩ = some (.int .u8 0) := by
              rw [cell_of_row _ _ _ _ _ _ hmj, List.getElem?_toArray]
              rw [bcells_get (by simp; omega), List.getElem_append_right (by simp)]
              simp
            have hnx := setCell_heap hmj j (.int .u8 cc.toNat)
            rw [fill_step hlt] at hnx
            have HN := Lib.hid (And.intro hnx (hbj.setCell (p := ⟨g, j, none⟩) hgw (.int .u8 cc.toNat)))
            clear hmj hbj hnx
            go_wp2
            go_roundw
            case rel => exact ⟨j + 1, by omega, by go_num, HN.out.1, HN.out.2⟩
            case measure => simp [intOf]; omega
          · obtain rfl : j = k := by omega
            rw [Nat.sub_self, List.replicate_zero, List.append_nil] at hmj
            have hgl : g < wr.heap.size := lt_of_block hmj
            have c2 := new_any wr
            go_wp2_with fail
            refine c2.mono ?_
            rintro e w2 ⟨rfl, hf2, hb2⟩
            have c3 := new_any w2
            have HF2 := Lib.hid hf2
            have HB2 := Lib.hid hb2
            clear c2 hf2 hb2
            go_wp2_with fail
            refine c3.mono ?_
            rintro e w3 ⟨rfl, hf3, hb3⟩
            have HP := Lib.hid (Pair.new hbj HF2.out HB2.out hf3 hb3)
            have hm3 : w3.heap[g]? = some (.cells (bcells (List.replicate j cc)).toArray 5 (0, 0)) := by
              rw [hb3.block g (by have := HB2.out.size; omega), HB2.out.block g hgl]; exact hmj
            have hne1 : g ≠ wr.heap.size := by omega
            have hne2 : g ≠ w2.heap.size := by have := HB2.out.size; omega
            generalize wr.heap.size = F at *
            generalize w2.heap.size = G at *
            clear hmj hbj c3 HF2 HB2 hf3 hb3 hgl
            have hns : noEnd (List.replicate j cc) := noEnd_rep h13 j
            obtain ⟨S, hS⟩ : ∃ S : ByteArray, S = ⟨(List.replicate j cc).toArray⟩ := ⟨_, rfl⟩
            have hSl : S.data.toList = List.replicate j cc := by rw [hS]
            have hSz : S.size = j := by rw [hS, lsize, List.length_replicate]
            have hcv : ∀ W : World, W.heap[g]? = some (.cells (bcells (List.replicate j cc)).toArray 5 (0, 0)) → (convert 52 9 (.slice (some ⟨g, 0, none⟩) j j)).run Tryd.prog W = .ok (.string S) W := by
              intro W hW
              rw [hS]
              exact conv_new (R := []) (by rw [List.append_nil]; exact hW) List.length_replicate
            have hcv3 := hcv w3 hm3
            have hXl : (S ++ (⟨#[13, 10]⟩ : ByteArray) ++ t).data.toList = List.replicate j cc ++ 13 :: 10 :: t.data.toList := by simp [hSl]
            have hXz : (S ++ (⟨#[13, 10]⟩ : ByteArray) ++ t).size ≤ 1000000 := by
              rw [ByteArray.size_append, ByteArray.size_append, hSz]; show j + 2 + t.size ≤ _; omega
            have hir := long_ir hns t.data.toList
            have c4 := HP.out.feedE (S ++ (⟨#[13, 10]⟩ : ByteArray) ++ t) rfl (by omega) (by omega) (by simp) hXz
            unfold PairFeedE at c4
            rw [hXl, List.nil_append, hir.1, hir.2] at c4
            have hml := mkLn_cases (List.replicate j cc)
            rw [← hS, List.length_replicate] at hml
            have hSi : (S.size : Int) = j := by omega
            have HMM := Lib.hid (And.intro hm3 (And.intro hne1 hne2))
            clear hS hSl hXl hXz hir hns hm3
            go_wp2_with fail
            refine c4.mono ?_
            rintro e w4 ⟨vo1, v1, rfl, hlv1, hp, -, he4⟩
            have hm4 : w4.heap[g]? = some (.cells (bcells (List.replicate j cc)).toArray 5 (0, 0)) := he4.heap HMM.out.1 (by rintro (e | e); exact HMM.out.2.1 e; simp [Value.ownBlock] at e)
            have c5 := hp.feedE2 t rfl (by omega) (by omega) (by simp) (by omega)
            unfold PairFeedE2 at c5
            rw [List.nil_append] at c5
            obtain ⟨ao1, cap1, rfl, hc11, hc12⟩ := hlv1.shape
            have HL1 := Lib.hid hlv1
            clear c4 hp hlv1 he4 hcv3 HP
            go_wp2_with fail
            refine c5.mono ?_
            rintro e w5 ⟨vo2, v2, rfl, hlv2, hp, hk5, he5⟩
            have hm5 : w5.heap[g]? = some (.cells (bcells (List.replicate j cc)).toArray 5 (0, 0)) := he5.heap hm4 (by rintro (e | e); exact HMM.out.2.2 e; simp [Value.ownBlock] at e)
            obtain ⟨ao2, cap2, rfl, hc21, hc22⟩ := hlv2.shape
            have hcv5 := fun n => hcv (w5.drewN n) hm5
            have HL : Hid (LV w5 w3.heap.size (.slice ao1 (mkLn (List.replicate j cc) :: (initL t.data.toList).map mkLn).length cap1) (mkLn (List.replicate j cc) :: (initL t.data.toList).map mkLn) ∧ LV w5 w4.heap.size (.slice ao2 ((initL t.data.toList).map mkLn).length cap2) ((initL t.data.toList).map mkLn)) := ⟨hk5 _ _ _ HL1.out, hlv2⟩
            have hrl := rest_len t.data.toList
            have hil := init_few t.data.toList
            have ca := fun n => waiting_any _ _ _ _ _ (w5.drewN n) (hp.f.belowW (Below.drewN' (Below.refl _ w5) n)) (by omega)
            have cb := fun n => waiting_any _ _ _ _ _ (w5.drewN n) (hp.g.belowW (Below.drewN' (Below.refl _ w5) n)) (by omega)
            have HB := Lib.hid hp.bel
            obtain ⟨g2, rfl, q0, q1⟩ := HL.out.1.cell (j := 0) (by simp)
            rw [show (mkLn (List.replicate j cc) :: (initL t.data.toList).map mkLn)[0]'(by simp) = mkLn (List.replicate j cc) from rfl] at q0 q1
            rw [Nat.zero_mul] at q0 q1
            rw [Nat.zero_add] at q1
            obtain ⟨N, hN⟩ : ∃ N, N = (initL t.data.toList).length := ⟨_, rfl⟩
            simp only [List.map_cons, List.length_cons, List.length_map] at hc11 hc21 ⊢
            rw [← hN] at hc11 hc21 hil ⊢
            have hN1 : ((N + 1 : Nat) : Int) = (N : Int) + 1 := by omega
            have hN2 : (0 : Int) < (N : Int) + 1 := by omega
            have HN := Lib.hid hN
            have hNb : (N : Int) ≤ 1000 := by omega
            clear hcv hm4 hm5 he5 hk5 hp hlv2 c5 HL1 hN
            rcases hml with ⟨hl, he⟩ | ⟨hl, he⟩
            · obtain ⟨z, hz⟩ : ∃ z : ByteArray, z = ⟨#[]⟩ := ⟨_, rfl⟩
              rw [← hz] at he
              rw [he] at q0 q1
              have hd : decide ((998 : Int) < (j : Int)) = true := decide_eq_true (by omega)
              clear he hz
              go_wp2
              go_quiet ((first | (go_at_call 15; with_reducible exact quietly (ca _)) | (go_at_call 15; with_reducible exact quietly (cb _))))
              clear ca cb hcv5 q0 q1
              go_wp2
              go_loopw [14] (fun i wr => ∃ (k d : Nat), k ≤ N ∧ i = .int .i64 k ∧ wr = w5.drewN d) (fun i _ => N - (intOf i).toNat)
              case atStart => exact ⟨0, nq, Nat.zero_le _, rfl, rfl⟩
              case round =>
                obtain ⟨k, d, hk, rfl, rfl⟩ := hrel
                have hk0 : (0 : Int) ≤ k := by omega
                by_cases hlt2 : k < N
                · have hkl : k < ((initL t.data.toList).map mkLn).length := by rw [List.length_map, ← HN.out]; exact hlt2
                  have hkl1 : k + 1 < (mkLn (List.replicate j cc) :: (initL t.data.toList).map mkLn).length := by rw [List.length_cons]; omega
                  have hk1 : (k : Int) < N := by omega
                  have hk2 : (k : Int) + 1 < (N : Int) + 1 := by omega
                  have hk3 : (0 : Int) ≤ (k : Int) + 1 := by omega
                  obtain ⟨g3, e3, p2, p2'⟩ := HL.out.1.cell hkl1
                  cases e3
                  obtain ⟨g4, rfl, p3, p3'⟩ := HL.out.2.cell hkl
                  rw [List.getElem_cons_succ] at p2 p2'
                  generalize ((initL t.data.toList).map mkLn)[k] = y at *
                  clear hkl hkl1
                  go_wp2
                  go_quiet (fail)
                  go_wp2
                  go_roundw
                  case rel => exact ⟨k + 1, d + nq, by omega, by go_num, by first | rfl | rw [World.drewN_drewN]⟩
                  case measure => simp [intOf]; omega
                · obtain rfl : k = N := by omega
                  go_wp2
                  go_ret
                  exact ⟨rfl, Below.drewN' HB.out _⟩
            · rw [he] at q0 q1
              have hd : decide ((998 : Int) < (j : Int)) = false := decide_eq_false (by omega)
              clear he
              go_wp2
              go_quiet ((first | (go_at_call 15; with_reducible exact quietly (ca _)) | (go_at_call 15; with_reducible exact quietly (cb _))))
              clear ca cb hcv5 q0 q1
              go_wp2
              go_loopw [14] (fun i wr => ∃ (k d : Nat), k ≤ N ∧ i = .int .i64 k ∧ wr = w5.drewN d) (fun i _ => N - (intOf i).toNat)
              case atStart => exact ⟨0, nq, Nat.zero_le _, rfl, rfl⟩
              case round =>
                obtain ⟨k, d, hk, rfl, rfl⟩ := hrel
                have hk0 : (0 : Int) ≤ k := by omega
                by_cases hlt2 : k < N
                · have hkl : k < ((initL t.data.toList).map mkLn).length := by rw [List.length_map, ← HN.out]; exact hlt2
                  have hkl1 : k + 1 < (mkLn (List.replicate j cc) :: (initL t.data.toList).map mkLn).length := by rw [List.length_cons]; omega
                  have hk1 : (k : Int) < N := by omega
                  have hk2 : (k : Int) + 1 < (N : Int) + 1 := by omega
                  have hk3 : (0 : Int) ≤ (k : Int) + 1 := by omega
                  obtain ⟨g3, e3, p2, p2'⟩ := HL.out.1.cell hkl1
                  cases e3
                  obtain ⟨g4, rfl, p3, p3'⟩ := HL.out.2.cell hkl
                  rw [List.getElem_cons_succ] at p2 p2'
                  generalize ((initL t.data.toList).map mkLn)[k] = y at *
                  clear hkl hkl1
                  go_wp2
                  go_quiet (fail)
                  go_wp2
                  go_roundw
                  case rel => exact ⟨k + 1, d + nq, by omega, by go_num, by first | rfl | rw [World.drewN_drewN]⟩
                  case measure => simp [intOf]; omega
                · obtain rfl : k = N := by omega
                  go_wp2
                  go_ret
                  exact ⟨rfl, Below.drewN' HB.out _⟩
  · have hti : (1000 : Int) < (t.size : Int) := by omega
    clear ht
    go_enter Tryd.func8, Tryd.ntmps8
    go_wp2_with fail
    refine c1.mono ?_
    rintro e w1 ⟨rfl, hb1⟩
    go_wp2
    go_ret
    exact ⟨rfl, hb1⟩
end Go.Proofs.YteiepgbdngamiaaDoor
