/- Package sector's law folder: SectorPlays' walk. -/
import Derived.Test.YtolkofnlihbncaaSpF
import Derived.Deep.CutBlock
import Derived.Deep.DeepCutAuto
set_option linter.unusedVariables false
set_option linter.unusedSimpArgs false
namespace Go.Proofs.Ytolkofnlihbncaa
open Go.RowKit
def mzI : Value → Nat
  | .int _ i => i.toNat
  | _ => 0
set_option maxRecDepth 100000 in
set_option maxHeartbeats 16000000 in
theorem plays_law (N : Nat) (A : Option Addr) (l c : Nat) (ys : List Act) (w : World) (h1 : ActsAt w A l ys) (hf : Fewish ys) (hN1 : 1 ≤ N) (hN2 : N ≤ 300) :
    Calls Try.prog 6 #[.int .i64 N, .slice A l c] w fun e w' => e = .returned (.bool true) ∧ Below w.heap.size w w' := by
  have hl : l ≤ 200 := by rw [← h1.len]; exact hf.1
  have hN0 : (0 : Int) ≤ (N : Int) := by omega
  have haw := awake_any w
  have H1 := Lib.hid h1
  have HF := Lib.hid hf
  clear h1 hf
  go_enter Try.func6, Try.ntmps6
  go_wp2_with fail
  refine haw.mono ?_
  rintro e w1 ⟨rfl, hb1⟩
  go_wp2_with fail
  refine (few_true A l c ys w1 (H1.out.below hb1) HF.out).mono ?_
  rintro e _ ⟨rfl, rfl⟩
  go_wp2_with fail
  refine (new_in N w1 (by omega) (by omega)).mono ?_
  rintro e w2 ⟨rfl, hb2, hk⟩
  have cn := rnew_any N w2 hN1 (by omega)
  obtain ⟨g, hg⟩ : ∃ g, g = w1.heap.size + 1 := ⟨_, rfl⟩
  rw [← hg] at hk ⊢
  have HB := Lib.hid (And.intro hb1 (And.intro hb2 (And.intro hk hg)))
  clear hb1 hb2 hk hg haw
  go_wp2_with fail
  refine cn.mono ?_
  rintro e w3 ⟨sl, rfl, ho3, hb3⟩
  obtain ⟨G, cc, rfl, hG, hGs, hc1, hc2⟩ := ho3.row (by rw [secL_len]; exact hN1)
  have hln : (secL (newK N)).length = N := secL_len _
  rw [hln] at ho3 ⊢
  have hw1 : w.heap.size ≤ w1.heap.size := HB.out.1.size
  have hw2 : w1.heap.size ≤ w2.heap.size := HB.out.2.1.size
  have hw3 : w2.heap.size ≤ w3.heap.size := hb3.size
  have hb30 : Below w.heap.size w w3 := (HB.out.1.trans (HB.out.2.1.mono hw1)).trans (hb3.mono (by omega))
  have hP0 : PlI w w3.heap.size N 0 g w1.heap.size (N * 64) [] (newK N) (some ⟨G, 0, none⟩) cc (newK N) (w3.alloc (.cells #[.slice (some ⟨G, 0, none⟩) N cc, .int .i64 (newK N).cut, .int .i64 (newK N).torn, .int .i64 (newK N).since, .bool (newK N).down, .int .i64 (newK N).all] 44 (0, 0))) :=
    ⟨(HB.out.2.2.1.below hb3).below ((Below.refl _ _).alloc (Nat.le_refl _) _), rfl, heap_alloc_new _ _, ((ho3.mono (by omega)).below ((Below.refl _ _).alloc (Nat.le_refl _) _)), ⟨hN1, by show N ≤ 4096; omega, zeros_len _⟩, rfl, hb30.alloc hb30.size _, ⟨Int.le_refl 0, Int.le_refl 0, Int.le_refl 0, Int.le_refl 0⟩, ⟨Int.le_refl 0, Int.le_refl 0, Int.le_refl 0, Int.le_refl 0⟩, ⟨hb30.size, by have := HB.out.2.2.2; omega, hw1⟩⟩
  have HP0 := Lib.hid hP0
  obtain ⟨bm, hbm⟩ : ∃ bm, bm = w3.heap.size := ⟨_, rfl⟩
  have HBM := Lib.hid hbm
  clear cn hP0 ho3 hb3 hb30 hG hGs hln hc1 hc2
  unfold dkV
  go_wp2
  rw [← hbm] at HP0 ⊢
  clear hbm
  generalize w3.alloc (.cells #[.slice (some ⟨G, 0, none⟩) N cc, .int .i64 (newK N).cut, .int .i64 (newK N).torn, .int .i64 (newK N).since, .bool (newK N).down, .int .i64 (newK N).all] 44 (0, 0)) = w4 at *
  go_loopw [5, 8] (fun d i wr => ∃ (j g D c : Nat) (R : List Value) (k : Dk) (A' : Option Addr) (cc : Nat), j ≤ l ∧ i = .int .i64 j ∧ d = .pointer (some ⟨g, 0, none⟩) ∧ Hid (PlI w bm N j g D c R k A' cc k wr)) (fun _ i _ => l - mzI i)
  case atStart => exact ⟨0, g, w1.heap.size, N * 64, [], newK N, some ⟨G, 0, none⟩, cc, Nat.zero_le _, rfl, rfl, HP0⟩
  case round =>
    clear HP0 HB
    obtain ⟨j, g, D, c, R, k, A', cc, hj, rfl, rfl, hrl⟩ := hrel
    have hj0 : (0 : Int) ≤ (j : Int) := by omega
    by_cases hlt : j < l
    · have hji : (j : Int) < (l : Int) := by omega
      obtain ⟨b1, o1, rfl, hc1⟩ := H1.out.cells (by omega)
      obtain ⟨q1, q2, q3, q4, q5⟩ := act_cells hrl.out.below (hc1 j hlt)
      have hsz := (hc1 j hlt).1.s
      clear hc1
      generalize act ys j = ac at *
      obtain ⟨kd, at0, dd, ca, ct⟩ := ac
      simp only at q1 q2 q3 q4 q5 hsz
      obtain ⟨s1, s2, s3, s4⟩ := hrl.out.s1
      have hwz := hrl.out.below.size
      have hP9 := hrl.out.mono ((Below.refl wr.heap.size wr).alloc (Nat.le_refl _) (.cells #[.int .i64 kd, .int .i64 at0, .string dd, .int .i64 ca, .int .i64 ct] 36 (0, 0))) (Int.le_refl (j : Int))
      have z1 : (wr.alloc (.cells #[.int .i64 kd, .int .i64 at0, .string dd, .int .i64 ca, .int .i64 ct] 36 (0, 0))).cell? ⟨wr.heap.size, 1, none⟩ = some (.int .i64 at0) := by rw [cell_of_row _ _ _ _ _ _ (heap_alloc_new _ _)]; rfl
      have z2 : (wr.alloc (.cells #[.int .i64 kd, .int .i64 at0, .string dd, .int .i64 ca, .int .i64 ct] 36 (0, 0))).cell? ⟨wr.heap.size, 2, none⟩ = some (.string dd) := by rw [cell_of_row _ _ _ _ _ _ (heap_alloc_new _ _)]; rfl
      have z3 : (wr.alloc (.cells #[.int .i64 kd, .int .i64 at0, .string dd, .int .i64 ca, .int .i64 ct] 36 (0, 0))).cell? ⟨wr.heap.size, 3, none⟩ = some (.int .i64 ca) := by rw [cell_of_row _ _ _ _ _ _ (heap_alloc_new _ _)]; rfl
      have z4 : (wr.alloc (.cells #[.int .i64 kd, .int .i64 at0, .string dd, .int .i64 ca, .int .i64 ct] 36 (0, 0))).cell? ⟨wr.heap.size, 4, none⟩ = some (.int .i64 ct) := by rw [cell_of_row _ _ _ _ _ _ (heap_alloc_new _ _)]; rfl
      have HP9 := Lib.hid hP9
      have Z := Lib.hid (And.intro z1 (And.intro z2 (And.intro z3 z4)))
      clear hP9 z1 z2 z3 z4
      go_upto_block 2 with fail
      clear q1 q2 q3 q4 q5
      generalize wr.alloc (.cells #[.int .i64 kd, .int .i64 at0, .string dd, .int .i64 ca, .int .i64 ct] 36 (0, 0)) = w9 at *
      obtain ⟨b9, hb9⟩ : ∃ b9, b9 = wr.heap.size := ⟨_, rfl⟩
      have hbg : b9 ≠ g := by have := lt_of_block hrl.out.dk.mem; omega
      have hbn : bm ≠ b9 := by have := lt_of_block hrl.out.var; omega
      rw [← hb9] at Z ⊢
      clear hb9
      obtain ⟨z1, z2, z3, z4⟩ := Z.out
      go_cut [5] (fun d wx => ∃ (g D c : Nat) (R : List Value) (k : Dk) (A' : Option Addr) (cc : Nat), d = .pointer (some ⟨g, 0, none⟩) ∧ Hid (PlI w bm N ((j + 1 : Nat) : Int) g D c R k A' cc k wx))
      case first =>
        by_cases k0 : kd = 0
        · subst k0
          have hIN := HP9.out
          have cw := rwrite_any A' N cc w.heap.size k at0 dd w9 hIN.ok hIN.mn hIN.own hsz s1 (by omega) s3 (by omega) hIN.below.size
          have hwa := writeK_all k at0 dd.data.toList
          have hwo := writeK_ok hIN.ok at0 dd.data.toList
          have hwn := writeK_n k at0 dd.data.toList
          obtain ⟨K2, hK2⟩ : ∃ K2, K2 = writeK k at0 dd.data.toList := ⟨_, rfl⟩
          obtain ⟨C2, hC2⟩ : ∃ C2, C2 = writeC k at0 dd.data.toList := ⟨_, rfl⟩
          rw [← hK2] at cw hwa hwo hwn
          rw [← hC2] at cw
          obtain ⟨⟨m0, m1, m2, m3, m4, m5⟩, _⟩ := hIN.cells
          have HK := Lib.hid (And.intro hK2 (And.intro hC2 (And.intro hwa (And.intro hwo hwn))))
          clear hK2 hC2 hwa hwo hwn hIN
          unfold dkV at cw
          go_wp2_with fail
          refine cw.mono ?_
          rintro e w10 ⟨A2, c2, rfl, ho2, hb2⟩
          clear cw m0 m1 m2 m3 m4 m5
          have hB11 : Below w9.heap.size w9 (w10.alloc (.cells #[.slice A2 N c2, .int .i64 K2.cut, .int .i64 K2.torn, .int .i64 K2.since, .bool K2.down, .int .i64 K2.all] 44 (0, 0))) := hb2.alloc hb2.size _
          have ho11 : SSo (w10.alloc (.cells #[.slice A2 N c2, .int .i64 K2.cut, .int .i64 K2.torn, .int .i64 K2.since, .bool K2.down, .int .i64 K2.all] 44 (0, 0))) w.heap.size (.slice A2 N c2) (secL K2) := ho2.alloc _
          have hm11 := heap_alloc_new w10 (.cells #[.slice A2 N c2, .int .i64 K2.cut, .int .i64 K2.torn, .int .i64 K2.since, .bool K2.down, .int .i64 K2.all] 44 (0, 0))
          have H11 := Lib.hid (And.intro hB11 (And.intro ho11 hm11))
          clear hB11 ho11 hm11 ho2 hb2
          go_upto_region 18 with fail
          clear z1 z2 z3 z4
          generalize w10.alloc (.cells #[.slice A2 N c2, .int .i64 K2.cut, .int .i64 K2.torn, .int .i64 K2.since, .bool K2.down, .int .i64 K2.all] 44 (0, 0)) = w11 at *
          have HP11 := Lib.hid (HP9.out.mono H11.out.1 (Int.le_refl _))
          obtain ⟨m0, m1, m2, m3, m4, m5⟩ := dk_cells H11.out.2.2
          obtain ⟨⟨v0, v1, v2, v3, v4, v5⟩, f0, f1, f2, f3, f4, f5⟩ := HP11.out.cells
          have hP12 := HP11.out.ref H11.out.2.1 HK.out.2.2.2.1 HK.out.2.2.2.2 (m' := ((j + 1 : Nat) : Int)) (by omega) (by have := HK.out.2.2.1; omega)
          have hE12 := six_eff (w := w11) (b := bm) (.slice A2 N c2) (.int .i64 K2.cut) (.int .i64 K2.torn) (.int .i64 K2.since) (.bool K2.down) (.int .i64 K2.all)
          have zz := fun (o : Nat) (v : Value) (hv : w9.cell? ⟨b9, o, none⟩ = some v) => hE12.cell ((H11.out.1.cell (p := ⟨b9, o, none⟩) (World.block_lt_of_cell? _ _ hv)).trans hv) (fun e => hbn e.symm)
          have zz1 := zz 1 _ Z.out.1
          have zz2 := zz 2 _ Z.out.2.1
          have HP12 := Lib.hid (And.intro hP12 (And.intro zz1 zz2))
          clear hP12 hE12 zz zz1 zz2
          go_upto_region 19 with fail
          clear m0 m1 m2 m3 m4 m5 v0 v1 v2 v3 v4 v5 f0 f1 f2 f3 f4 f5
          generalize (((((w11.setCell ⟨bm, 0, none⟩ (.slice A2 N c2)).setCell ⟨bm, 1, none⟩ (.int .i64 K2.cut)).setCell ⟨bm, 2, none⟩ (.int .i64 K2.torn)).setCell ⟨bm, 3, none⟩ (.int .i64 K2.since)).setCell ⟨bm, 4, none⟩ (.bool K2.down)).setCell ⟨bm, 5, none⟩ (.int .i64 K2.all) = w12 at *
          obtain ⟨hP12, zz1, zz2⟩ := HP12.out
          have cd := write_any g D c R k at0 dd w12 hP12.dk hsz s1 (by omega) s3 (by omega)
          rw [← HK.out.1, ← HK.out.2.1] at cd
          clear hP12
          go_wp2_with fail
          refine cd.mono ?_
          rintro e w13 ⟨rfl, he, hk13⟩
          have hF := Lib.hid (HP12.out.1.disk he hk13 HK.out.2.2.2.2 (Int.le_refl _) (by have := HK.out.2.2.1; omega))
          clear cd he hk13 zz1 zz2
          go_wp2
          go_meet
          exact ⟨g, D, c, R, K2, A2, c2, rfl, hF⟩
        · have k0' : (kd == 0) = false := by simp [k0]
          by_cases k1 : kd = 1
          · subst k1
            have hIN := HP9.out
            have cr := read_any g D c R k at0 w9 hIN.dk
            have cq := rread_any (.slice A' N cc) k at0 w.heap.size w9 hIN.own hIN.ok
            obtain ⟨⟨m0, m1, m2, m3, m4, m5⟩, _⟩ := hIN.cells
            generalize readS k at0 = rs at *
            generalize readC k at0 = rc at *
            unfold dkV at cq
            clear hIN
            go_wp2_with fail
            refine cr.mono ?_
            rintro e w10 ⟨rfl, rfl⟩
            go_wp2_with fail
            refine cq.mono ?_
            rintro e w10 ⟨rfl, hb2⟩
            have hF := Lib.hid (HP9.out.mono (m' := ((j + 1 : Nat) : Int)) hb2 (by omega))
            clear cr cq hb2 m0 m1 m2 m3 m4 m5 z1 z2 z3 z4
            go_wp2
            go_meet
            exact ⟨g, D, c, R, k, A', cc, rfl, hF⟩
          · have k1' : (kd == 1) = false := by simp [k1]
            by_cases k2 : kd = 2
            · subst k2
              have hIN := HP9.out
              have ca2 := arm_any g D c R k ca ct w9 hIN.dk
              clear hIN
              go_wp2_with fail
              refine ca2.mono ?_
              rintro e w10 ⟨rfl, he, hk10⟩
              have hP10 := HP9.out.disk (kd' := armK k ca ct) he.toDisk hk10 rfl (Int.le_refl _) ⟨Int.le_refl 0, by show (0 : Int) ≤ _; omega, s3, s4⟩
              have hg9 := lt_of_block HP9.out.dk.mem
              have hne9 : b9 ≠ g := hbg
              have y3 := he.cell z3 hne9
              have y4 := he.cell z4 hne9
              obtain ⟨⟨m0, m1, m2, m3, m4, m5⟩, _⟩ := hP10.cells
              have cm := rarm_any A' N cc k ca ct w10
              obtain ⟨K2, hK2⟩ : ∃ K2, K2 = armK k ca ct := ⟨_, rfl⟩
              rw [← hK2] at cm hP10
              have HK := Lib.hid (And.intro hK2 hP10)
              clear hK2 hP10 ca2 he hk10
              unfold dkV at cm
              go_wp2_with fail
              refine cm.mono ?_
              rintro e w11 ⟨rfl, hb11⟩
              have HP11 := Lib.hid (HK.out.2.mono hb11 (Int.le_refl _))
              obtain ⟨⟨v0, v1, v2, v3, v4, v5⟩, f0, f1, f2, f3, f4, f5⟩ := HP11.out.cells
              have hP12 := HP11.out.ref (A' := A') (cc' := cc) (km' := K2) (by rw [HK.out.1]; exact HP11.out.own) (by rw [HK.out.1]; exact ⟨HP11.out.ok.n1, HP11.out.ok.n2, HP11.out.ok.len⟩) (by rw [HK.out.1]; rfl) (m' := ((j + 1 : Nat) : Int)) (by omega) (by rw [HK.out.1]; exact ⟨Int.le_refl 0, by show (0 : Int) ≤ _; omega, s3, by show k.all ≤ _; omega⟩)
              have hF := Lib.hid hP12
              clear cm hb11 m0 m1 m2 m3 m4 m5 hP12 y3 y4
              go_wp2
              go_meet
              exact ⟨g, D, c, R, K2, A', cc, rfl, hF⟩
            · have k2' : (kd == 2) = false := by simp [k2]
              by_cases k3 : kd = 3
              · subst k3
                have hIN := HP9.out
                have ca2 := start_any g D c R k w9 hIN.dk
                clear hIN
                go_wp2_with fail
                refine ca2.mono ?_
                rintro e w10 ⟨rfl, he, hk10⟩
                have hP10 := HP9.out.disk (kd' := startK k) he.toDisk hk10 rfl (Int.le_refl _) ⟨Int.le_refl 0, by show (0 : Int) ≤ _; omega, s3, s4⟩
                obtain ⟨⟨m0, m1, m2, m3, m4, m5⟩, _⟩ := hP10.cells
                have cm := rstart_any A' N cc k w10
                obtain ⟨K2, hK2⟩ : ∃ K2, K2 = startK k := ⟨_, rfl⟩
                rw [← hK2] at cm hP10
                have HK := Lib.hid (And.intro hK2 hP10)
                clear hK2 hP10 ca2 he hk10
                unfold dkV at cm
                go_wp2_with fail
                refine cm.mono ?_
                rintro e w11 ⟨rfl, hb11⟩
                have HP11 := Lib.hid (HK.out.2.mono hb11 (Int.le_refl _))
                obtain ⟨⟨v0, v1, v2, v3, v4, v5⟩, f0, f1, f2, f3, f4, f5⟩ := HP11.out.cells
                have hP12 := HP11.out.ref (A' := A') (cc' := cc) (km' := K2) (by rw [HK.out.1]; exact HP11.out.own) (by rw [HK.out.1]; exact ⟨HP11.out.ok.n1, HP11.out.ok.n2, HP11.out.ok.len⟩) (by rw [HK.out.1]; rfl) (m' := ((j + 1 : Nat) : Int)) (by omega) (by rw [HK.out.1]; exact ⟨Int.le_refl 0, by show (0 : Int) ≤ _; omega, s3, by show k.all ≤ _; omega⟩)
                have hF := Lib.hid hP12
                clear cm hb11 m0 m1 m2 m3 m4 m5 hP12
                go_wp2
                go_meet
                exact ⟨g, D, c, R, K2, A', cc, rfl, hF⟩
              · have k3' : (kd == 3) = false := by simp [k3]
                by_cases k4 : kd = 4
                · subst k4
                  have hIN := HP9.out
                  have c1 := copy_any g D c R k w9 hIN.dk
                  have hg9 := lt_of_block hIN.dk.mem
                  have hD9 := lt_of_block hIN.dk.dat
                  clear hIN
                  go_wp2_with fail
                  refine c1.mono ?_
                  rintro e w10 ⟨g', D', c', R', rfl, hk', hb10, hg', hD'⟩
                  have HP10 := Lib.hid (HP9.out.mono hb10 (Int.le_refl _))
                  have c2 := start_any g D c R k w10 HP10.out.dk
                  have HK := Lib.hid hk'
                  clear c1 hk' hb10
                  go_wp2_with fail
                  refine c2.mono ?_
                  rintro e w11 ⟨rfl, he11, hk11⟩
                  have HP11 := Lib.hid (HP10.out.disk (kd' := startK k) he11.toDisk hk11 rfl (Int.le_refl _) ⟨Int.le_refl 0, by show (0 : Int) ≤ _; omega, s3, s4⟩)
                  have HK11 := Lib.hid (HK.out.keep he11 (by omega) (by omega))
                  have c3 := write_any g D c R (startK k) 0 ⟨#[111, 116, 104, 101, 114]⟩ w11 HP11.out.dk (by decide) (Int.le_refl 0) (by show (0 : Int) < _; omega) s3 (by show k.all < _; omega)
                  have hwa := writeK_all (startK k) 0 (⟨#[111, 116, 104, 101, 114]⟩ : ByteArray).data.toList
                  have hwn := writeK_n (startK k) 0 (⟨#[111, 116, 104, 101, 114]⟩ : ByteArray).data.toList
                  have e1 : (startK k).since = 0 := rfl
                  have e2 : (startK k).all = k.all := rfl
                  rw [e1, e2] at hwa
                  generalize writeK (startK k) 0 (⟨#[111, 116, 104, 101, 114]⟩ : ByteArray).data.toList = K2 at *
                  generalize writeC (startK k) 0 (⟨#[111, 116, 104, 101, 114]⟩ : ByteArray).data.toList = C2 at *
                  have HW := Lib.hid (And.intro hwa hwn)
                  clear c2 he11 hk11 hwa hwn e1 e2
                  go_wp2_with fail
                  refine c3.mono ?_
                  rintro e w12 ⟨rfl, he12, hk12⟩
                  have hP12 := HP11.out.disk he12 hk12 HW.out.2 (m' := ((j + 1 : Nat) : Int)) (by omega) (by have := HW.out.1; omega)
                  have hk12' := HK11.out.keep he12 (by omega) (by omega)
                  have hF : Hid (PlI w bm N ((j + 1 : Nat) : Int) g' D' c' R' k A' cc k w12) := Lib.hid ⟨hk12', HP9.out.dn, hP12.var, hP12.own, hP12.ok, hP12.mn, hP12.below, by omega, hP12.s2, ⟨hP12.at_.1, by have := HP9.out.below.size; omega, by have := HP9.out.below.size; omega⟩⟩
                  clear c3 he12 hk12 hP12 hk12'
                  go_wp2
                  go_meet
                  exact ⟨g', D', c', R', k, A', cc, rfl, hF⟩
                · have k4' : (kd == 4) = false := by simp [k4]
                  have hF := Lib.hid (HP9.out.mono (m' := ((j + 1 : Nat) : Int)) (Below.refl _ _) (by omega))
                  clear k0 k1 k2 k3 k4
                  go_wp2
                  go_meet
                  exact ⟨g, D, c, R, k, A', cc, rfl, hF⟩
      case rest =>
        obtain ⟨g, D, c, R, k, A', cc, rfl, hcr⟩ := hcut
        have hk := hcr.out.dk
        have cd := fun n => down_any g D c R k (wc.drewN n) (hk.drewN n)
        have cw := fun n => writes_any g D c R k (wc.drewN n) (hk.drewN n)
        have cz := fun n => size_any g D c R k (wc.drewN n) (hk.drewN n)
        rw [hcr.out.dn] at cz
        obtain ⟨⟨m0, m1, m2, m3, m4, m5⟩, _⟩ := hcr.out.cells
        have HF := Lib.hid (fun n : Nat => hcr.out.mono (Below.drewN' (Below.refl wc.heap.size wc) n) (Int.le_refl _))
        generalize k.down = dn at *
        generalize k.all = al at *
        clear hk hcr z1 z2 z3 z4 Z HP9
        go_upto_region 37 with fail
        go_quiet ((first | (go_at_call 13; with_reducible exact quietly (cd _)) | (go_at_call 15; with_reducible exact quietly (cw _)) | (go_at_call 22; with_reducible exact quietly (cz _))))
        go_wp2
        go_roundw
        case rel => exact ⟨j + 1, g, D, c, R, k, A', cc, by omega, by go_num, rfl, Lib.hid (HF.out _)⟩
        case measure => simp [mzI]; omega
    · obtain rfl : j = l := by omega
      have hjE : ¬ (j : Int) < (j : Int) := by omega
      have c1 := start_any g D c R k wr hrl.out.dk
      go_wp2_with fail
      refine c1.mono ?_
      rintro e w5 ⟨rfl, he, hk5⟩
      obtain ⟨s1, s2, s3, s4⟩ := hrl.out.s1
      have HP := Lib.hid (hrl.out.disk (kd' := startK k) he.toDisk hk5 rfl (Int.le_refl _) ⟨Int.le_refl 0, by show (0 : Int) ≤ _; omega, s3, s4⟩)
      obtain ⟨⟨m0, _⟩, _⟩ := HP.out.cells
      obtain ⟨G9, rfl, hG1, hG2, _⟩ := HP.out.sliceN
      clear c1 he hk5 hrl
      go_wp2
      go_loopw [17] (fun i wr => ∃ x : Nat, x ≤ N ∧ i = .int .i64 x ∧ w5 = wr) (fun i _ => N - mzI i)
      case atStart => exact ⟨0, Nat.zero_le _, rfl, rfl⟩
      case round =>
        obtain ⟨x, hx, rfl, rfl⟩ := hrel
        have hx0 : (0 : Int) ≤ (x : Int) := by omega
        by_cases hxl : x < N
        · have hxi : (x : Int) < (N : Int) := by omega
          have cr := read_in g D c R (startK k) x w5 HP.out.dk rfl (by rw [HP.out.dn]; exact hxl)
          have q := (HP.out.own.at_ (i := x) (by rw [secL_len, HP.out.mn]; exact hxl)).1
          rw [secL_get] at q
          change Calls _ _ _ _ fun e w' => e = .returned (.tuple #[.string (secS k x), .int .i64 0]) ∧ _ at cr
          generalize secS k x = ss at *
          go_wp2_with fail
          refine cr.mono ?_
          rintro e w6 ⟨rfl, rfl⟩
          clear cr
          go_wp2
          go_roundw
          case rel => exact ⟨x + 1, by omega, by go_num, by first | rfl | trivial⟩
          case measure => simp [mzI]; omega
        · obtain rfl : x = N := by omega
          have hxE : ¬ (x : Int) < (x : Int) := by omega
          have HB5 := Lib.hid HP.out.below
          clear HP
          go_wp2
          go_ret
          exact ⟨rfl, HB5.out⟩
end Go.Proofs.Ytolkofnlihbncaa
