/- The document's frame: Cut. -/
import Derived.Test.YteiepgbdngamiaaDoorFrmJ
set_option linter.unusedVariables false
set_option linter.unusedSimpArgs false
namespace Go.Proofs.YteiepgbdngamiaaDoor
open Go.RowKit
/-- A slice of the document's lines of the call's own. -/
def RV (w : World) (B : Nat) (v : Value) (ls : List LnV) : Prop := w.ownsRow B 34 2 v ls.length (lcells ls)
theorem RV.nil (w : World) (B : Nat) : RV w B (.slice none 0 0) [] := ⟨rfl, .inl ⟨rfl, rfl⟩⟩
theorem Tryd.infoRLine : (Tryd.prog.info? 34).map (fun i => (i.zero, i.size, i.bytes)) = some (some (.agg #[.string ⟨#[]⟩, .bool false]), 2, 24) := by kernel_rfl
theorem RV.shape {w : World} {B : Nat} {v : Value} {ls : List LnV} (h : RV w B v ls) : ∃ ao cap, v = .slice ao ls.length cap ∧ ls.length ≤ cap ∧ cap ≤ 9223372036854775807 := by
  rcases h.2 with ⟨hv, h0⟩ | ⟨g, cap, cur, hv, _, _, h1, h2, _⟩
  · exact ⟨none, 0, by rw [hv, h0], by omega, by decide⟩
  · exact ⟨_, _, hv, h1, by unfold maxLen at h2; omega⟩
theorem RV.cell {w : World} {B : Nat} {ao : Option Addr} {n cap : Nat} {ls : List LnV} (h : RV w B (.slice ao n cap) ls) {j : Nat} (hj : j < ls.length) :
    ∃ g, ao = some ⟨g, 0, none⟩ ∧ w.cell? ⟨g, j * 2, none⟩ = some (.string ls[j].1) ∧ w.cell? ⟨g, j * 2 + 1, none⟩ = some (.bool ls[j].2) := by
  rcases h.2 with ⟨hv, h0⟩ | ⟨g, cap', cur, hv, hr⟩
  · omega
  · cases hv
    have hc := World.ownsRow.cells h (g := g) rfl
    obtain ⟨a, b⟩ := lcells_get ls hj
    have h1 := hc _ _ a
    have h2 := hc _ _ b
    rw [Go.WideShapes.add_plain, Nat.zero_add] at h1 h2
    exact ⟨g, rfl, by rw [Nat.mul_comm]; exact h1, by rw [Nat.mul_comm]; exact h2⟩
theorem RV.eff {w w' : World} {B : Nat} {v : Value} {ls : List LnV} (h : RV w B v ls) {S : Nat → Prop} (he : Eff S w w') (hv : ∀ k, v.ownBlock = some k → ¬ S k) : RV w' B v ls := Eff.own he h hv
theorem RV.belowW {w w' : World} {B : Nat} {v : Value} {ls : List LnV} (h : RV w B v ls) (hb : Below w.heap.size w w') : RV w' B v ls := h.eff (Eff.of_below hb (fun _ => False)) (fun _ _ => id)
def lnsOf (o : List ByteArray) : List LnV := o.map fun x => mkLn x.data.toList
theorem lnsOf_bytes (o : List ByteArray) : lnsOf o = (bytesL o).map mkLn := by unfold lnsOf bytesL; rw [List.map_map]; rfl
theorem mkLn_long {x : ByteArray} (h : 998 < x.size) : mkLn x.data.toList = (⟨#[]⟩, true) := by unfold mkLn; rw [if_pos (by rw [bsize]; exact h)]
theorem mkLn_short {x : ByteArray} (h : x.size ≤ 998) : mkLn x.data.toList = (x, false) := by unfold mkLn; rw [if_neg (by rw [bsize]; omega)]
theorem LnJ.hit2 {s : List UInt8} {o : List ByteArray} {f i : Nat} (h : LnI s o f i) (hi : i + 1 < s.length) (h1 : s[i] = 13) (h2 : s[i + 1] = 10) (x : ByteArray) (hx : x.data.toList = (s.drop f).take (i - f)) : LnI s (o ++ [x]) (i + 2) (i + 2) :=
  h.hit hi h1 h2 x hx
set_option maxRecDepth 100000 in
set_option maxHeartbeats 2000000 in
theorem refcut_any (s : ByteArray) (w : World) (hs : s.size ≤ 1000000) :
    Calls Tryd.prog 14 #[.string s] w fun e w' => ∃ vo, e = .returned (.tuple #[vo, .string ⟨(restL s.data.toList).toArray⟩]) ∧ RV w' w.heap.size vo ((initL s.data.toList).map mkLn) ∧ Below w.heap.size w w' := by
  have hsz := bsize s
  go_enter Tryd.func14, Tryd.ntmps14
  go_wp2
  go_loopw [4, 5, 6] (fun v f i wr => ∃ (o : List ByteArray) (fr k : Nat), f = .int .i64 fr ∧ i = .int .i64 k ∧ RV wr w.heap.size v (lnsOf o) ∧ Below w.heap.size w wr ∧ LnI s.data.toList o fr k) (fun _ _ i _ => s.size - (intOf i).toNat)
  case atStart => exact ⟨[], 0, 0, rfl, rfl, RV.nil _ _, Below.refl _ _, LnI.start _⟩
  case round =>
    obtain ⟨o, fr, k, rfl, rfl, hown, hbl, hI⟩ := hrel
    obtain ⟨hI1, hI2, hI3⟩ := (LnJ.fle (.inl hI))
    have hfk := hI.1
    have HOWN := Lib.hid hown
    have HBL := Lib.hid hbl
    have HI := Lib.hid hI
    have HSZ := Lib.hid hsz
    have hwsz := hbl.size
    rw [hsz] at hI1 hI2
    have hk0 : (0 : Int) ≤ k := by omega
    have hfr0 : (0 : Int) ≤ fr := by omega
    have hks : (k : Int) ≤ s.size := by omega
    have hfs : (fr : Int) ≤ s.size := by omega
    have hol : o.length + 1 ≤ 1000000000000 := by omega
    have hfrk : (fr : Int) ≤ k := by omega
    clear hbl hI
    by_cases hlt : k + 1 < s.size
    · have hkl : k + 1 < s.data.toList.length := by omega
      have hkk : k < s.size := by omega
      have hk1 : (k : Int) + 1 < s.size := by omega
      by_cases h13 : s[k] = 13
      · obtain ⟨-, t1⟩ := u8T (n := 13) h13 rfl
        by_cases h10 : s[k + 1] = 10
        · obtain ⟨-, t2⟩ := u8T (n := 10) h10 rfl
          have HN := Lib.hid (LnJ.hit2 HI.out hkl h13 h10 (s.extract fr k) (ext_list s fr k))
          clear h13 h10
          have hxs : (s.extract fr k).size = k - fr := by rw [ByteArray.size_extract]; omega
          generalize hx : s.extract fr k = x at *
          rcases (show x.size ≤ 998 ∨ 998 < x.size by omega) with hd | hd
          · have hdi : (x.size : Int) ≤ 998 := by omega
            have hll : (lnsOf o).length = o.length := by unfold lnsOf; rw [List.length_map]
            have HML : Hid (lnsOf (o ++ [x]) = lnsOf o ++ [(x, false)]) := by unfold Hid lnsOf; rw [List.map_append, List.map_singleton, mkLn_short hd]
            go_wp2_with (at_builtin; refine wp_appG rfl (.tmp 36) (.tmp 38) 29 rfl 34 (.agg #[.string ⟨#[]⟩, .bool false]) 2 24 Tryd.underlying29 Tryd.infoRLine rfl (by decide) (by decide) w.heap.size u4 (lnsOf o).length (lcells (lnsOf o)) rfl (World.ownsRow.alloc hown _) [.string x, .bool false] rfl (by intro u hu; simp at hu; rcases hu with rfl | rfl <;> rfl) (wr.heap.size + 1) (by simp) rfl (by omega) (by simp; omega) ?_)
            intro vo' w3 hown3 he3 ho3
            have HBL' : Hid (Below w.heap.size w w3) := HBL.out.trans ((((Below.refl w.heap.size wr).alloc hwsz _)).trans (he3.to_below (by simp; omega) fun k hk => (World.ownsRow.lt hown k hk).1))
            have HOWN' : Hid (RV w3 w.heap.size vo' (lnsOf (o ++ [x]))) := by
              unfold Hid RV
              rw [HML.out, lcells_app, List.length_append, hll]
              simpa [lcells] using hown3
            clear hown hown3 he3 ho3 HOWN HBL
            go_wp2
            go_roundw
            case rel => exact ⟨_, k + 2, k + 2, by go_num, by go_num, HOWN'.out, HBL'.out, HN.out⟩
            case measure => simp [intOf]; omega
          · have hdi : (998 : Int) < (x.size : Int) := by omega
            have hll : (lnsOf o).length = o.length := by unfold lnsOf; rw [List.length_map]
            have HML : Hid (lnsOf (o ++ [x]) = lnsOf o ++ [(⟨#[]⟩, true)]) := by unfold Hid lnsOf; rw [List.map_append, List.map_singleton, mkLn_long hd]
            go_wp2_with (at_builtin; refine wp_appG rfl (.tmp 36) (.tmp 38) 29 rfl 34 (.agg #[.string ⟨#[]⟩, .bool false]) 2 24 Tryd.underlying29 Tryd.infoRLine rfl (by decide) (by decide) w.heap.size u4 (lnsOf o).length (lcells (lnsOf o)) rfl (World.ownsRow.alloc hown _) [.string ⟨#[]⟩, .bool true] rfl (by intro u hu; simp at hu; rcases hu with rfl | rfl <;> rfl) (wr.heap.size + 1) (by simp) rfl (by omega) (by simp; omega) ?_)
            intro vo' w3 hown3 he3 ho3
            have HBL' : Hid (Below w.heap.size w w3) := HBL.out.trans ((((Below.refl w.heap.size wr).alloc hwsz _)).trans (he3.to_below (by simp; omega) fun k hk => (World.ownsRow.lt hown k hk).1))
            have HOWN' : Hid (RV w3 w.heap.size vo' (lnsOf (o ++ [x]))) := by
              unfold Hid RV
              rw [HML.out, lcells_app, List.length_append, hll]
              simpa [lcells] using hown3
            clear hown hown3 he3 ho3 HOWN HBL
            go_wp2
            go_roundw
            case rel => exact ⟨_, k + 2, k + 2, by go_num, by go_num, HOWN'.out, HBL'.out, HN.out⟩
            case measure => simp [intOf]; omega
        · obtain ⟨-, t2⟩ := u8F (n := 10) h10 rfl
          have HN := Lib.hid (HI.out.miss hkl (fun h => h10 h.2))
          have HOWN := Lib.hid hown
          clear h13 h10 hown
          go_wp2
          go_roundw
          case rel => exact ⟨o, fr, k + 1, rfl, by go_num, HOWN.out, HBL.out, HN.out⟩
          case measure => simp [intOf]; omega
      · obtain ⟨-, t1⟩ := u8F (n := 13) h13 rfl
        have HN := Lib.hid (HI.out.miss hkl (fun h => h13 h.1))
        have HOWN := Lib.hid hown
        clear h13 hown
        go_wp2
        go_roundw
        case rel => exact ⟨o, fr, k + 1, rfl, by go_num, HOWN.out, HBL.out, HN.out⟩
        case measure => simp [intOf]; omega
    · have hk1 : (s.size : Int) ≤ k + 1 := by omega
      have hIR := Lib.hid (LnJ.last (.inl HI.out) (by rw [HSZ.out]; omega)).eq
      have hee : s.extract fr s.size = ⟨(restL s.data.toList).toArray⟩ := by
        apply ByteArray.ext; apply Array.ext'; rw [hIR.out.2, ext_list, List.take_of_length_le (by rw [List.length_drop, HSZ.out]; omega)]
      have HR : Hid (RV wr w.heap.size u4 ((initL s.data.toList).map mkLn)) := by unfold Hid; rw [hIR.out.1, ← lnsOf_bytes]; exact hown
      clear hown HOWN
      go_wp2
      go_region
      go_wp2
      go_ret2
      exact ⟨_, rfl, HR.out, HBL.out.drew⟩
end Go.Proofs.YteiepgbdngamiaaDoor
