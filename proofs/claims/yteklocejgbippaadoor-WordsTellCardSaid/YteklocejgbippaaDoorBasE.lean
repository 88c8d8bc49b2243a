/- Package base64: Coder.Decode. Written by gen_basE.py. -/
import Derived.Test.YteklocejgbippaaDoorBasD
import Derived.Test.YteklocejgbippaaDoorBuild
import Derived.BigQuiet
set_option linter.unusedVariables false
set_option linter.unusedSimpArgs false
namespace Go.Proofs.YteklocejgbippaaDoor
open Go.RowKit
theorem tblv_64 (c : UInt8) : tblv 64 c.toNat = (worth c : Int) := by
  unfold tblv; rw [UInt8.ofNat_toNat, if_pos (worth_le c)]
def decStr (s : List UInt8) : ByteArray := match dec s with | some o => ⟨o.toArray⟩ | none => ⟨#[]⟩
def decCode (s : List UInt8) : Int := match dec s with | some _ => 0 | none => 2
def decLen (s : List UInt8) : Nat := match dec s with | some o => o.length | none => 0
theorem trim_len (s : List UInt8) : (Lib.trimRightB s 61).length ≤ s.length := by
  unfold Lib.trimRightB; rw [List.length_reverse]
  have : ∀ l : List UInt8, (l.dropWhile (· == 61)).length ≤ l.length := fun l => (List.dropWhile_sublist _).length_le
  have := this s.reverse
  rwa [List.length_reverse] at this
theorem coNe8 : (73 : TypeId) ≠ 5 := by decide
theorem Eff.then_below {S : Nat → Prop} {a b c : World} (h : Eff S a b) (k : Below a.heap.size b c) : Eff S a c :=
  ⟨k.os.trans h.os, k.tape.trans h.tape, k.output.trans h.output, Nat.le_trans h.size k.size, fun i hi hn => (k.block i hi).trans (h.block i hi hn)⟩
def DecPost (g : Nat) (cnt : Int) (s : List UInt8) (w : World) (e : Ending) (w' : World) : Prop :=
  e = .returned (.tuple #[.string (decStr s), .int .i64 (decCode s)]) ∧ CoAt w' g (cnt + decLen s) ∧ Eff (· = g) w w'
set_option maxRecDepth 100000 in
set_option maxHeartbeats 8000000 in
theorem codec_any (g : Nat) (cnt : Int) (s : ByteArray) (w : World) (h : CoAt w g cnt) (hs : s.size ≤ 1000000) (h0 : 0 ≤ cnt) (h1 : cnt ≤ 1000000000) :
    Calls Tryd.prog 30 #[.pointer (some ⟨g, 0, none⟩), .string s] w (DecPost g cnt s.data.toList w) := by
  have hsz := bsize s
  have c1 := do_any g cnt w h
  have c2 := fun W => Tryd.strings_TrimRight_one s 61 (by decide) W (by omega)
  obtain ⟨B, hB⟩ : ∃ B : ByteArray, B = ⟨(Lib.trimRightB s.data.toList 61).toArray⟩ := ⟨_, rfl⟩
  have hBl : B.data.toList = Lib.trimRightB s.data.toList 61 := by rw [hB]
  have hBz := bsize B
  have hBs : B.size ≤ 1000000 := by
    have := trim_len s.data.toList
    rw [← hBz, hBl]; omega
  rw [← hB] at c2
  obtain ⟨n, hn⟩ : ∃ n : Nat, n = B.size * 3 / 4 := ⟨_, rfl⟩
  have hni : (B.size : Int) * 3 / 4 = (n : Int) := by omega
  have hmk := make_bytes n (by omega)
  have hnb : (n : Int) ≤ 2000000 := by omega
  have hn0 : 0 ≤ (n : Int) := by omega
  have hBi : (B.size : Int) ≤ 1000000 := by omega
  have HBL := Lib.hid hBl
  have hgl := h.lt
  clear hB hBl hn h
  go_enter Tryd.func30, Tryd.ntmps30
  go_wp2_with fail
  refine c1.mono ?_
  rintro e w1 ⟨rfl, hc1, he1⟩
  have H1 := Lib.hid (And.intro hc1 he1)
  clear c1 hc1 he1
  go_wp2_with fail
  refine (c2 w1).mono ?_
  rintro e w1 ⟨rfl, rfl⟩
  have hB0 := BS.made n (by omega) w1
  have hwl : w.heap.size ≤ w1.heap.size := H1.out.2.size
  have HB := Lib.hid (hB0.mono hwl)
  have HN := Lib.hid (And.intro ((H1.out.2).alloc (.cells (bcells (List.replicate n 0)).toArray 5)) ((Below.heap_alloc w1 (.cells (bcells (List.replicate n 0)).toArray 5) g H1.out.1.lt).trans H1.out.1))
  clear hB0 c2
  go_wp2
  go_loopw [7, 8, 9, 27] (fun o v n i wr => ∃ (k : Nat) (pre : List UInt8) (V m : Nat), k ≤ B.size ∧ pre.length ≤ k ∧ i = .int .i64 k ∧ v = .int .i64 V ∧ n = .int .i64 m ∧ (m = 0 ∨ m = 2 ∨ m = 4 ∨ m = 6) ∧ V < 2 ^ m ∧
    decL 0 0 B.data.toList = (decL V m (B.data.toList.drop k)).map (pre ++ ·) ∧ BS wr w.heap.size o pre ∧ CoW wr g 1 0 64 cnt ∧ Eff (· = g) w wr) (fun _ _ _ i _ => B.size - (intOf i).toNat)
  case atStart =>
    refine ⟨0, [], 0, 0, Nat.zero_le _, Nat.zero_le _, rfl, rfl, rfl, .inl rfl, by decide, ?_, HB.out, HN.out.2, HN.out.1⟩
    rw [List.drop_zero]
    have : (fun l : List UInt8 => [] ++ l) = id := by funext l; rfl
    rw [this, Option.map_id]; rfl
  case round =>
    clear HB HN hmk hni hnb hn0 H1
    obtain ⟨k, pre, V, m, hk, hpl, rfl, rfl, rfl, hm, hV, hd, hown, hco, he⟩ := hrel
    have hk0 : (0 : Int) ≤ (k : Int) := by omega
    by_cases hkb : k < B.size
    · have hki : (k : Int) < B.size := by omega
      have hkl : k < B.data.toList.length := by omega
      have hdc := List.drop_eq_getElem_cons hkl
      obtain ⟨c, hc⟩ : ∃ c, c = B.data.toList[k]'hkl := ⟨_, rfl⟩
      have hbt : ∀ h, (B[k]'h) = c := fun h => by rw [hc]; simp; rfl
      rw [← hc] at hdc
      have hct := hco.cellT c.toNat c.toNat_lt
      rw [tblv_64] at hct
      have hcl : (c.toNat : Int) < 256 := by have := c.toNat_lt; omega
      have hww := worth_le c
      have HD := Lib.hid hd
      have HDC := Lib.hid hdc
      have HO := Lib.hid (And.intro hown (And.intro hco he))
      have hwsz : w.heap.size ≤ wr.heap.size := he.size
      clear hd hdc hc hown hco he
      by_cases hwc0 : worth c = 0
      · rw [hwc0] at hct
        have hres : dec s.data.toList = none := by
          unfold dec
          rw [← HBL.out, HD.out, HDC.out, decL, if_pos hwc0]; rfl
        have HR := Lib.hid hres
        clear hres hwc0 hm hV hww
        go_wp2
        go_quiet (fail)
        go_wp2
        go_ret2
        refine ⟨?_, .inr ?_, HO.out.2.2.drewN _⟩
        · unfold decStr decCode; rw [HR.out]; rfl
        · unfold decLen; rw [HR.out]; simp; exact HO.out.2.1
      · obtain ⟨X, hXe⟩ : ∃ X, X = V * 64 + (worth c - 1) := ⟨_, rfl⟩
        have hVb : V < 64 := by rcases hm with rfl | rfl | rfl | rfl <;> omega
        have hor : bits BinOp.or IntKind.i64 ((V : Int) * 64) ((worth c : Int) - 1) = (X : Int) := by
          have := or_i64 (a := V * 64) (b := worth c - 1) 6 (by omega) (by omega) (by omega) (by omega)
          rw [show ((V : Int) * 64) = ((V * 64 : Nat) : Int) by omega, show ((worth c : Int) - 1) = ((worth c - 1 : Nat) : Int) by omega, this, hXe]
        have hwi : (1 : Int) ≤ (worth c : Int) := by omega
        have hwi2 : (worth c : Int) ≤ 64 := by omega
        have hwe : ((worth c : Int) == 0) = false := by rw [beq_eq_false_iff_ne]; omega
        have hVi : (V : Int) < 64 := by omega
        have hol : pre.length + 1 ≤ 70368744177664 := by omega
        rcases hm with rfl | rfl | rfl | rfl
        · have hX : X < 64 := by omega
          have hdl : decL V 0 (c :: B.data.toList.drop (k + 1)) = decL X 6 (B.data.toList.drop (k + 1)) := by
            rw [decL, if_neg hwc0, if_neg (by omega), ← hXe]
          have hd2 : decL 0 0 B.data.toList = (decL X 6 (B.data.toList.drop (k + 1))).map (pre ++ ·) := by
            rw [HD.out, HDC.out, hdl]
          have hXi : (X : Int) < 64 := by omega
          have H2 := Lib.hid (And.intro hd2 hX)
          clear hX hdl hd2 hXe hVb
          go_wp2
          go_quiet (fail)
          go_wp2
          go_roundw
          case rel => exact ⟨k + 1, pre, X, 6, by omega, by omega, by go_num, rfl, rfl, by omega, H2.out.2, H2.out.1, HO.out.1.drewN nq, HO.out.2.1, HO.out.2.2.drewN nq⟩
          case measure => simp [intOf]; omega
        · have hX : X < 256 := by omega
          have hof : ((UInt8.ofNat (X / 1)).toNat : Int) = (X : Int) := by rw [UInt8.toNat_ofNat']; omega
          have hand : bits BinOp.and IntKind.i64 (X : Int) 0 = ((X % 1 : Nat) : Int) := by
            rw [show (0 : Int) = 2 ^ 0 - 1 by decide, bits_mask .i64 62 (by decide) wraps_i64 0 (by decide) (X : Int) (by omega) (by omega)]
            omega
          have hdl : decL V 2 (c :: B.data.toList.drop (k + 1)) = (decL (X % 1) 0 (B.data.toList.drop (k + 1))).map fun l => UInt8.ofNat (X / 1) :: l := by
            rw [decL, if_neg hwc0, if_pos (by omega), ← hXe]
          have hd2 : decL 0 0 B.data.toList = (decL (X % 1) 0 (B.data.toList.drop (k + 1))).map ((pre ++ [UInt8.ofNat (X / 1)]) ++ ·) := by
            rw [HD.out, HDC.out, hdl, Option.map_map]
            congr 1
            funext l
            simp
          have hXm : X % 1 < 1 := by omega
          have hXi : (X : Int) < 256 := by omega
          obtain ⟨u, hu⟩ : ∃ u, u = UInt8.ofNat (X / 1) := ⟨_, rfl⟩
          rw [← hu] at hof hd2
          obtain ⟨Y, hY⟩ : ∃ Y, Y = X % 1 := ⟨_, rfl⟩
          rw [← hY] at hand hd2 hXm
          have H2 := Lib.hid (And.intro hd2 hXm)
          clear hX hdl hd2 hXm hu hY hXe hVb
          go_wp2
          go_quiet (fail)
          go_wp2_with (at_builtin; refine wp_app1 rfl (.tmp 51) (.tmp 56) rfl w.heap.size _ pre rfl u _ hof.symm (HO.out.1.drewN nq) rfl hol hwsz ?_)
          intro v' w2 hown2 hch
          have H3 := Lib.hid (And.intro hown2 (And.intro (hch.heap HO.out.2.1 (fun x => x) coNe8) (Eff.then_below (HO.out.2.2.drewN nq) hch.below)))
          clear hown2 hch
          go_wp2
          go_roundw
          case rel => exact ⟨k + 1, pre ++ [u], Y, 0, by omega, by simp; omega, by go_num, rfl, rfl, by omega, H2.out.2, H2.out.1, H3.out.1, H3.out.2.1, H3.out.2.2⟩
          case measure => simp [intOf]; omega
        · have hX : X < 1024 := by omega
          have hof : ((UInt8.ofNat (X / 4)).toNat : Int) = (X : Int) / 4 := by rw [UInt8.toNat_ofNat']; omega
          have hand : bits BinOp.and IntKind.i64 (X : Int) 3 = ((X % 4 : Nat) : Int) := by
            rw [show (3 : Int) = 2 ^ 2 - 1 by decide, bits_mask .i64 62 (by decide) wraps_i64 2 (by decide) (X : Int) (by omega) (by omega)]
            omega
          have hdl : decL V 4 (c :: B.data.toList.drop (k + 1)) = (decL (X % 4) 2 (B.data.toList.drop (k + 1))).map fun l => UInt8.ofNat (X / 4) :: l := by
            rw [decL, if_neg hwc0, if_pos (by omega), ← hXe]
          have hd2 : decL 0 0 B.data.toList = (decL (X % 4) 2 (B.data.toList.drop (k + 1))).map ((pre ++ [UInt8.ofNat (X / 4)]) ++ ·) := by
            rw [HD.out, HDC.out, hdl, Option.map_map]
            congr 1
            funext l
            simp
          have hXm : X % 4 < 4 := by omega
          have hXi : (X : Int) < 1024 := by omega
          obtain ⟨u, hu⟩ : ∃ u, u = UInt8.ofNat (X / 4) := ⟨_, rfl⟩
          rw [← hu] at hof hd2
          obtain ⟨Y, hY⟩ : ∃ Y, Y = X % 4 := ⟨_, rfl⟩
          rw [← hY] at hand hd2 hXm
          have H2 := Lib.hid (And.intro hd2 hXm)
          clear hX hdl hd2 hXm hu hY hXe hVb
          go_wp2
          go_quiet (fail)
          go_wp2_with (at_builtin; refine wp_app1 rfl (.tmp 51) (.tmp 56) rfl w.heap.size _ pre rfl u _ hof.symm (HO.out.1.drewN nq) rfl hol hwsz ?_)
          intro v' w2 hown2 hch
          have H3 := Lib.hid (And.intro hown2 (And.intro (hch.heap HO.out.2.1 (fun x => x) coNe8) (Eff.then_below (HO.out.2.2.drewN nq) hch.below)))
          clear hown2 hch
          go_wp2
          go_roundw
          case rel => exact ⟨k + 1, pre ++ [u], Y, 2, by omega, by simp; omega, by go_num, rfl, rfl, by omega, H2.out.2, H2.out.1, H3.out.1, H3.out.2.1, H3.out.2.2⟩
          case measure => simp [intOf]; omega
        · have hX : X < 4096 := by omega
          have hof : ((UInt8.ofNat (X / 16)).toNat : Int) = (X : Int) / 16 := by rw [UInt8.toNat_ofNat']; omega
          have hand : bits BinOp.and IntKind.i64 (X : Int) 15 = ((X % 16 : Nat) : Int) := by
            rw [show (15 : Int) = 2 ^ 4 - 1 by decide, bits_mask .i64 62 (by decide) wraps_i64 4 (by decide) (X : Int) (by omega) (by omega)]
            omega
          have hdl : decL V 6 (c :: B.data.toList.drop (k + 1)) = (decL (X % 16) 4 (B.data.toList.drop (k + 1))).map fun l => UInt8.ofNat (X / 16) :: l := by
            rw [decL, if_neg hwc0, if_pos (by omega), ← hXe]
          have hd2 : decL 0 0 B.data.toList = (decL (X % 16) 4 (B.data.toList.drop (k + 1))).map ((pre ++ [UInt8.ofNat (X / 16)]) ++ ·) := by
            rw [HD.out, HDC.out, hdl, Option.map_map]
            congr 1
            funext l
            simp
          have hXm : X % 16 < 16 := by omega
          have hXi : (X : Int) < 4096 := by omega
          obtain ⟨u, hu⟩ : ∃ u, u = UInt8.ofNat (X / 16) := ⟨_, rfl⟩
          rw [← hu] at hof hd2
          obtain ⟨Y, hY⟩ : ∃ Y, Y = X % 16 := ⟨_, rfl⟩
          rw [← hY] at hand hd2 hXm
          have H2 := Lib.hid (And.intro hd2 hXm)
          clear hX hdl hd2 hXm hu hY hXe hVb
          go_wp2
          go_quiet (fail)
          go_wp2_with (at_builtin; refine wp_app1 rfl (.tmp 51) (.tmp 56) rfl w.heap.size _ pre rfl u _ hof.symm (HO.out.1.drewN nq) rfl hol hwsz ?_)
          intro v' w2 hown2 hch
          have H3 := Lib.hid (And.intro hown2 (And.intro (hch.heap HO.out.2.1 (fun x => x) coNe8) (Eff.then_below (HO.out.2.2.drewN nq) hch.below)))
          clear hown2 hch
          go_wp2
          go_roundw
          case rel => exact ⟨k + 1, pre ++ [u], Y, 4, by omega, by simp; omega, by go_num, rfl, rfl, by omega, H2.out.2, H2.out.1, H3.out.1, H3.out.2.1, H3.out.2.2⟩
          case measure => simp [intOf]; omega
    · have hkB : k = B.size := by omega
      have hdp : decL 0 0 (Lib.trimRightB s.data.toList 61) = some pre := by
        rw [← HBL.out, hd, List.drop_of_length_le (by omega)]; simp [decL]
      have hcv := hown.conv
      have hpz : (⟨pre.toArray⟩ : ByteArray).size ≤ 1000000 := by rw [lsize]; omega
      have c3 := encode_any ⟨pre.toArray⟩ wr hpz
      have hde : dec s.data.toList = if enc pre = s.data.toList then some pre else none := by unfold dec; rw [hdp]; rfl
      have hki : ¬ (k : Int) < B.size := by omega
      obtain ⟨ao, cap, rfl⟩ := hown.shape
      have HO := Lib.hid (And.intro hown (And.intro hco he))
      have hp0 : (0 : Int) ≤ (pre.length : Int) := by omega
      have hpi : (pre.length : Int) ≤ 1000000 := by omega
      clear hd hdp hown hco he hV hm hpz
      by_cases hq : enc pre = s.data.toList
      · rw [if_pos hq] at hde
        have hes : (⟨(enc pre).toArray⟩ : ByteArray) = s := by rw [hq]
        have e2 : (⟨pre.toArray⟩ : ByteArray).data.toList = pre := rfl
        rw [e2, hes] at c3
        have HR := Lib.hid hde
        clear hde hq hes e2 hkb hkB
        go_wp2_with fail
        refine c3.mono ?_
        rintro e w2 ⟨rfl, hb2⟩
        have hco2 : CoW w2 g 1 0 64 cnt := (hb2.block g HO.out.2.1.lt).trans HO.out.2.1
        have he2 : Eff (· = g) w w2 := Eff.then_below HO.out.2.2 (hb2.mono HO.out.2.2.size)
        have hown2 := HO.out.1.below hb2
        have c4 := add_any ⟨g, 259, none⟩ cnt pre.length w2 hco2.cells.2.2 (hco2.free 259) (by omega) (by omega)
        have he3 : Eff (· = g) w2 (w2.setCell ⟨g, 259, none⟩ (.int .i64 (cnt + pre.length))) := Eff.setCell (S := (· = g)) (Eff.refl _ _) (p := ⟨g, 259, none⟩) (fun _ => rfl) _
        have hown3 : BS (w2.setCell ⟨g, 259, none⟩ (.int .i64 (cnt + pre.length))) w.heap.size (.slice ao pre.length cap) pre := Eff.own he3 hown2 (fun k hk e => by have := (World.ownsRow.lt hown2 k hk).1; omega)
        have hcv3 := hown3.conv
        have H3 := Lib.hid (And.intro (hco2.setC (cnt + pre.length)) (he2.trans he3))
        clear hco2 he2 hown2 he3 hown3 hb2 c3
        generalize w2.setCell ⟨g, 259, none⟩ (.int .i64 (cnt + pre.length)) = w3 at *
        go_wp2_with fail
        refine c4.mono ?_
        rintro e w3 ⟨rfl, rfl⟩
        go_wp2
        go_ret2
        refine ⟨?_, .inr ?_, H3.out.2⟩
        · unfold decStr decCode; rw [HR.out]; rfl
        · unfold decLen; rw [HR.out]; exact H3.out.1
      · rw [if_neg hq] at hde
        have hes : ((⟨(enc pre).toArray⟩ : ByteArray).toList == s.toList) = false := by
          rw [Lib.toList_data, Lib.toList_data]; exact beq_false_of_ne hq
        have e2 : (⟨pre.toArray⟩ : ByteArray).data.toList = pre := rfl
        rw [e2] at c3
        generalize (⟨(enc pre).toArray⟩ : ByteArray) = T at *
        have HR := Lib.hid hde
        clear hde hq e2 hkb hkB
        go_wp2_with fail
        refine c3.mono ?_
        rintro e w2 ⟨rfl, hb2⟩
        have H3 := Lib.hid (And.intro ((hb2.block g HO.out.2.1.lt).trans HO.out.2.1) (Eff.then_below HO.out.2.2 (hb2.mono HO.out.2.2.size)))
        clear c3 hb2
        go_wp2
        go_ret2
        refine ⟨?_, .inr ?_, H3.out.2⟩
        · unfold decStr decCode; rw [HR.out]; rfl
        · unfold decLen; rw [HR.out]; simp; exact H3.out.1
end Go.Proofs.YteklocejgbippaaDoor
