/- Package base64: Decode; slices.Chunk's iterator. -/
import Derived.Test.YtlgkghpdmiageaaDoorBasE
import Derived.Test.YtlgkghpdmiageaaDoorBld2
import Derived.RangeFuncNested
import Derived.RangeFuncBound
import Derived.RangeFuncCalls
import Derived.RangeFuncLeaves
import Derived.Shelf.Abstract
import Derived.Shelf.RegionOpen
import Derived.OwnWalkIn
import Derived.TacticsInMore
import Derived.LoopNIn
import Derived.LoopIn
import Derived.RegionIn
set_option linter.unusedVariables false
set_option linter.unusedSimpArgs false
namespace Go.Proofs.YtlgkghpdmiageaaDoor
open Go.RowKit
attribute [local go_sem] Oper.semAt_some
theorem decode_any (s : ByteArray) (w : World) (hs : s.size ≤ 1000000) :
    Calls Tryd.prog 10 #[.string s] w fun e w' => e = .returned (.tuple #[.string (decStr s.data.toList), .int .i64 (decCode s.data.toList)]) ∧ Below w.heap.size w w' := by
  have c1 := new_any w
  go_enter Tryd.func10, Tryd.ntmps10
  go_wp2_with fail
  refine c1.mono ?_
  rintro e w1 ⟨rfl, hc, hb⟩
  have c2 := codec_any w.heap.size 0 s w1 hc hs (by decide) (by decide)
  unfold DecPost at c2
  have HB := Lib.hid hb
  clear c1 hc hb
  go_wp2_with fail
  refine c2.mono ?_
  rintro e w2 ⟨rfl, hc, he⟩
  have H2 := Lib.hid (Below.trans HB.out (he.to_below (B := w.heap.size) HB.out.size (fun k hk => Nat.le_of_eq hk.symm)))
  clear c2 hc he
  go_wp2
  go_ret2
  exact ⟨rfl, H2.out⟩
/-- A chunk of a row of L bytes: its number. -/
abbrev Ch (L : Nat) : Type := { x : Nat // x * 76 < L }
def chv (g L x : Nat) : Value := .slice (some ⟨g, x * 76, none⟩) (min 76 (L - x * 76)) (min 76 (L - x * 76))
def chs (L k : Nat) : List (Ch L) := (List.range k).filterMap fun x => if h : x * 76 < L then some ⟨x, h⟩ else none
theorem chs_succ {L k : Nat} (h : k * 76 < L) : chs L (k + 1) = chs L k ++ [⟨k, h⟩] := by
  unfold chs; rw [List.range_succ, List.filterMap_append, List.filterMap_cons, List.filterMap_nil, dif_pos h]
theorem chs_len (L k : Nat) : (chs L k).length ≤ k := by
  unfold chs; exact Nat.le_trans (List.length_filterMap_le _ _) (by rw [List.length_range]; exact Nat.le_refl _)
/-- The boxes that the iterator reads stand. -/
def KB (Bs Bn : Nat) (W W' : World) : Prop := ∀ k, (k = Bs ∨ k = Bn) → ∀ c T f, W.heap[k]? = some (.cells c T f) → W'.heap[k]? = some (.cells c T f)
set_option maxRecDepth 100000 in
set_option maxHeartbeats 4000000 in
theorem chunk1_in (n : Nat) (hn : 1 ≤ n) (l Bs Bn g L cap : Nat) (hL : L ≤ 1000000000) (hcap : L ≤ cap) (J Jx : List (Ch L) → World → Prop)
    (hY : ∀ pre (x : Ch L) W, J pre W → pre.length < (L + 75) / 76 → YieldAt Fence.wide (n - 1) Tryd.prog l #[chv g L x.1] W fun e W' =>
      (e = .returned (.bool true) ∧ J (pre ++ [x]) W' ∧ KB Bs Bn W W') ∨ (e = .returned (.bool false) ∧ Jx (pre ++ [x]) W'))
    (hd : ∀ pre W, J pre W → ∀ m, J pre (W.drewN m))
    (W : World) (Ts Tn : TypeId) (hBs : W.heap[Bs]? = some (.cells #[.slice (some ⟨g, 0, none⟩) L cap] Ts (0, 0))) (hBn : W.heap[Bn]? = some (.cells #[.int .i64 76] Tn (0, 0))) (h0 : J [] W) :
    CallsIn Fence.wide n Tryd.prog 34 #[.func (.yield l) #[] #[], .pointer (some ⟨Bs, 0, none⟩), .pointer (some ⟨Bn, 0, none⟩)] W fun e W' => (∃ v, e = .returned v) ∧
      ((∃ ys, ys = chs L ((L + 75) / 76) ∧ J ys W') ∨ (∃ pre, True ∧ Jx pre W')) := by
  refine callsIn_of_wp Tryd.func34 rfl trivial ?_ rfl
  simp only [Tryd.ntmps34, List.size_toArray, List.length_cons, List.length_nil, Nat.reduceAdd, Nat.reduceSub, Array.replicate_succ, Array.replicate_zero, List.push_toArray, List.append_toArray, List.nil_append, List.cons_append]
  have HBS := Lib.hid (And.intro hBs hBn)
  clear hBs hBn
  gi_wp2
  gi_loopw [4] (fun i wr => ∃ k : Nat, k ≤ (L + 75) / 76 ∧ i = .int .i64 ((k * 76 : Nat) : Int) ∧ J (chs L k) wr ∧ KB Bs Bn W wr)
    (fun i _ => L + 76 - (intOf i).toNat)
  case atStart => exact ⟨0, Nat.zero_le _, rfl, h0, fun _ _ _ _ _ h => h⟩
  case round =>
    obtain ⟨k, hk, rfl, hJs, hkb⟩ := hrel
    have hs := hkb Bs (.inl rfl) _ _ _ HBS.out.1
    have hn := hkb Bn (.inr rfl) _ _ _ HBS.out.2
    have cs : wr.cell? ⟨Bs, 0, none⟩ = some (.slice (some ⟨g, 0, none⟩) L cap) := by rw [cell_of_row _ _ _ _ _ _ hs]; rfl
    have cn : wr.cell? ⟨Bn, 0, none⟩ = some (.int .i64 76) := by rw [cell_of_row _ _ _ _ _ _ hn]; rfl
    have hk0 : 0 ≤ ((k * 76 : Nat) : Int) := by omega
    by_cases hlt : k * 76 < L
    · have hki : (k : Int) * 76 < (L : Int) := by omega
      have hk2 : (0 : Int) ≤ (k : Int) * 76 := by omega
      have hlc : (L : Int) ≤ cap := by omega
      have HJ := Lib.hid hJs
      have HK := Lib.hid hkb
      clear hJs hkb hs hn
      gi_wp2
      gi_region
      obtain ⟨e, he⟩ : ∃ e, e = min 76 (L - k * 76) := ⟨_, rfl⟩
      have hmin : min (76 : Int) ((L - k * 76 : Nat) : Int) = (e : Int) := by omega
      rw [hmin]
      have hel : (k : Int) * 76 + e ≤ (L : Int) := by omega
      have hel2 : (k : Int) * 76 + e ≤ (cap : Int) := by omega
      have he0 : (0 : Int) ≤ (e : Int) := by omega
      have hL2 : (L : Int) ≤ 1000000000 := by omega
      have hke : (k : Int) * 76 ≤ (k : Int) * 76 + e := by omega
      have csd : wr.drew.cell? ⟨Bs, 0, none⟩ = some (.slice (some ⟨g, 0, none⟩) L cap) := cs
      have he1 : (1 : Int) ≤ (e : Int) := by omega
      have hcl : (chs L k).length < (L + 75) / 76 := Nat.lt_of_le_of_lt (chs_len L k) (by omega)
      obtain ⟨fn, tmps, assign, body, hy, hR⟩ := hY _ ⟨k, hlt⟩ wr.drew (hd _ _ HJ.out 1) hcl
      have hcv : chv g L k = .slice (some ⟨g, k * 76, none⟩) e e := by unfold chv; rw [← he]
      simp only [hcv] at hy
      have HKD : Hid (KB Bs Bn W wr.drew) := HK.out
      clear hmin he cs HJ HK hcl hcv hY
      generalize wr.drew = wd at *
      gi_wp2
      refine hR.mono ?_
      rintro e' W3 (⟨rfl, hJ3, hk3⟩ | ⟨rfl, hJx3⟩)
      · have hkb3 : KB Bs Bn W W3 := fun q hq c T f h => hk3 q hq c T f (HKD.out q hq c T f h)
        have hn3 := hkb3 Bn (.inr rfl) _ _ _ HBS.out.2
        have cn3 : W3.cell? ⟨Bn, 0, none⟩ = some (.int .i64 76) := by rw [cell_of_row _ _ _ _ _ _ hn3]; rfl
        have H3 := Lib.hid (And.intro hJ3 hkb3)
        clear hJ3 hkb3 hn3 hk3
        gi_wp2
        go_roundw
        case rel =>
          refine ⟨k + 1, by omega, ?_, by rw [chs_succ hlt]; exact H3.out.1, H3.out.2⟩
          congr 1; omega
        case measure => simp [intOf]; omega
      · gi_wp2
        refine bodyPost_ret (results_none rfl _ _ _) rfl ?_
        exact ⟨⟨_, rfl⟩, .inr ⟨_, trivial, hJx3⟩⟩
    · have hkL : k = (L + 75) / 76 := by omega
      have hki : ¬ (k : Int) * 76 < (L : Int) := by omega
      have HJ := Lib.hid hJs
      clear hJs hkb hs hn
      gi_wp2
      go_end0
      exact ⟨⟨_, rfl⟩, .inl (by rw [← hkL]; exact HJ.out)⟩
theorem grown_drewN (W : World) (m : Nat) : W.grownBy (W.drewN m) none := ⟨rfl, rfl, rfl, Nat.le_refl _, fun _ _ _ => rfl⟩
theorem chunk_stops (n : Nat) (hn : 1 ≤ n) (Bs Bn g L cap : Nat) (hL : L ≤ 1000000000) (hcap : L ≤ cap) (w : World) (Ts Tn : TypeId) (hBs : w.heap[Bs]? = some (.cells #[.slice (some ⟨g, 0, none⟩) L cap] Ts (0, 0))) (hBn : w.heap[Bn]? = some (.cells #[.int .i64 76] Tn (0, 0))) :
    SeqStopsK Fence.wide n Tryd.prog 34 #[.pointer (some ⟨Bs, 0, none⟩), .pointer (some ⟨Bn, 0, none⟩)] (fun x : Ch L => #[chv g L x.1]) (KB Bs Bn) (fun ys => ys = chs L ((L + 75) / 76)) (fun _ => True) ((L + 75) / 76) w := by
  intro l J Jx W hW hJ hJx hY h0
  refine chunk1_in n hn l Bs Bn g L cap hL hcap J Jx hY (fun pre W1 h m => ?_) W Ts Tn ((hW.block Bs (lt_of_block hBs)).trans hBs) ((hW.block Bn (lt_of_block hBn)).trans hBn) h0
  exact hJ pre W1 _ none h (grown_drewN W1 m) (fun r e => by cases e)
theorem kb_trans {Bs Bn : Nat} {A B C : World} (h : KB Bs Bn A B) (k : KB Bs Bn B C) : KB Bs Bn A C := fun q hq c T f x => k q hq c T f (h q hq c T f x)
theorem kb_put {Bs Bn : Nat} (W : World) (l : Nat) (o o' : Obj) (h : W.heap[l]? = some o) (hc : o.isCells = false) : KB Bs Bn W (W.putObj l o') := by
  intro q hq c T f x
  by_cases e : q = l
  · subst e
    rw [h] at x
    injection x with x
    rw [x] at hc
    cases hc
  · exact (World.putObj_heap_other (by omega)).trans x
set_option maxRecDepth 100000 in
set_option maxHeartbeats 4000000 in
theorem chunk_any (ao : Option Addr) (m c : Nat) (w : World) :
    Calls Tryd.prog 24 #[.slice ao m c, .int .i64 76] w fun e w' => e = .returned (.func (.func 34) #[] #[.pointer (some ⟨w.heap.size, 0, none⟩), .pointer (some ⟨w.heap.size + 1, 0, none⟩)]) ∧
      w' = (w.alloc (.cells #[.slice ao m c] 36 (0, 0))).alloc (.cells #[.int .i64 76] 3 (0, 0)) := by
  go_enter Tryd.func24, Tryd.ntmps24
  go_wp2
  go_ret
  exact ⟨rfl, rfl⟩
end Go.Proofs.YtlgkghpdmiageaaDoor
