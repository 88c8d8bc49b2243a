/- Package frame: Feed. -/
import Derived.Test.YteiepgbdngamiaaDoorFrmG
import Derived.Test.YteiepgbdngamiaaDoorApp
import Derived.Lib.ConvBytes
import Derived.BigRegion
import Derived.RegionTactic
set_option linter.unusedVariables false
set_option linter.unusedSimpArgs false
namespace Go.Proofs.YteiepgbdngamiaaDoor
open Go.RowKit
abbrev LnV := ByteArray × Bool
def lcells : List LnV → List Value
  | [] => []
  | l :: ls => .string l.1 :: .bool l.2 :: lcells ls
theorem lcells_app (a b : List LnV) : lcells (a ++ b) = lcells a ++ lcells b := by induction a with | nil => rfl | cons x y ih => simp [lcells, ih]
theorem lcells_len (a : List LnV) : (lcells a).length = a.length * 2 := by induction a with | nil => rfl | cons x y ih => simp [lcells, ih]; omega
/-- A slice of lines of the call's own. -/
def LV (w : World) (B : Nat) (v : Value) (ls : List LnV) : Prop := w.ownsRow B 35 2 v ls.length (lcells ls)
theorem LV.nil (w : World) (B : Nat) : LV w B (.slice none 0 0) [] := ⟨rfl, .inl ⟨rfl, rfl⟩⟩
def mkLn (x : List UInt8) : LnV := if 998 < x.length then (⟨#[]⟩, true) else (⟨x.toArray⟩, false)
theorem Tryd.infoLine : (Tryd.prog.info? 35).map (fun i => (i.zero, i.size, i.bytes)) = some (some (.agg #[.string ⟨#[]⟩, .bool false]), 2, 24) := by kernel_rfl
theorem FrAt.eff {w w' : World} {g B : Nat} {v : Value} {r : List UInt8} {fed : Int} (h : FrAt w g B v r fed) {S : Nat → Prop} (he : Eff S w w') (hg : ¬ S g) (hv : ∀ k, v.ownBlock = some k → ¬ S k) : FrAt w' g B v r fed :=
  ⟨he.heap h.mem hg, h.own.eff he hv⟩
theorem LV.eff {w w' : World} {B : Nat} {v : Value} {ls : List LnV} (h : LV w B v ls) {S : Nat → Prop} (he : Eff S w w') (hv : ∀ k, v.ownBlock = some k → ¬ S k) : LV w' B v ls := Eff.own he h hv
def FS (g : Nat) (v : Value) (k : Nat) : Prop := k = g ∨ v.ownBlock = some k
/-- Between the rounds of Feed: T are the bytes so far (those that waited and those that came). -/
structure FdI (w2 wr : World) (g B : Nat) (v : Value) (fed : Int) (T : List UInt8) (vo vf : Value) : Prop where
  fr : FrAt wr g B vf (restL T) fed
  lv : LV wr w2.heap.size vo ((initL T).map mkLn)
  eff : Eff (FS g v) w2 wr
  own : ∀ k, vf.ownBlock = some k → v.ownBlock = some k ∨ w2.heap.size ≤ k
  few : (initL T).length ≤ T.length
theorem frNe8 : (60 : TypeId) ≠ 5 := by decide
theorem frNeL : (60 : TypeId) ≠ 35 := by decide
theorem lnNe8 : (35 : TypeId) ≠ 5 := by decide
theorem last13_snoc (r : List UInt8) (c : UInt8) : last13 (r ++ [c]) = ((c.toNat : Int) == 13) := by
  unfold last13
  by_cases h : c = 13
  · rw [(u8T (n := 13) h rfl).1]; simp [h]
  · rw [(u8F (n := 13) h rfl).1]; simp [h]
/-- One byte more: it ends a line. -/
theorem FdI.hit {w2 wr w3 w4 : World} {g B : Nat} {v : Value} {fed : Int} {T : List UInt8} {vo vf vo' : Value} (h : FdI w2 wr g B v fed T vo vf) {c : UInt8} (hc : c = 10) (hl : (restL T).getLast? = some 13)
    (hlv : LV w3 w2.heap.size vo' ((initL T).map mkLn ++ [mkLn (restL T).dropLast])) (he : Eff (fun k => vo.ownBlock = some k) wr w3) (hr : FrAt w4 g B (.slice none 0 0) [] fed) (he2 : Eff (· = g) w3 w4) :
    FdI w2 w4 g B v fed (T ++ [c]) vo' (.slice none 0 0) := by
  have hs := snoc_hit hc hl
  have hg2 : g < wr.heap.size := lt_of_block h.fr.mem
  refine ⟨by rw [hs.2]; exact hr, ?_, ?_, fun k hk => by simp [Value.ownBlock] at hk, by rw [hs.1]; have := h.few; simp; omega⟩
  · have h1 : LV w3 w2.heap.size vo' ((initL (T ++ [c])).map mkLn) := by rw [hs.1]; simpa using hlv
    refine h1.eff he2 fun k hk e => ?_
    subst e
    have hm := he.heap h.fr.mem (block_apart h.fr.mem h.lv frNeL)
    exact block_apart hm h1 frNeL hk
  · refine (h.eff.trans' he fun i hi hx => ?_).trans' he2 fun i hi hx => .inl hx
    have := (World.ownsRow.lt h.lv i hx).1
    omega
theorem FrAt.keep {w w' : World} {g B B2 n2 : Nat} {v vo : Value} {r : List UInt8} {fed : Int} {x2 : List Value} (h : FrAt w g B v r fed) (hlv : w.ownsRow B2 35 2 vo n2 x2) (he : Eff (fun k => vo.ownBlock = some k) w w') : FrAt w' g B v r fed :=
  h.eff he (block_apart h.mem hlv frNeL) (fun k hk => own_apart h.own hlv (fun e => lnNe8 e.symm) k hk)
/-- One byte more: it waits. -/
theorem FdI.miss {w2 wr w4 : World} {g B : Nat} {v : Value} {fed : Int} {T : List UInt8} {vo vf vf' : Value} (h : FdI w2 wr g B v fed T vo vf) {c : UInt8} (hm : ¬ (c = 10 ∧ (restL T).getLast? = some 13))
    (hr : FrAt w4 g B vf' (restL T ++ [c]) fed) (he : Eff (FS g vf) wr w4) (ho : ∀ k, vf'.ownBlock = some k → vf.ownBlock = some k ∨ wr.heap.size ≤ k) : FdI w2 w4 g B v fed (T ++ [c]) vo vf' := by
  have hs := snoc_miss hm
  have hsz := h.eff.size
  refine ⟨by rw [hs.2]; exact hr, ?_, ?_, fun k hk => ?_, by rw [hs.1]; have := h.few; simp; omega⟩
  · rw [hs.1]
    refine h.lv.eff he fun k hk e => ?_
    rcases e with e | e
    · subst e; exact block_apart h.fr.mem h.lv frNeL hk
    · exact own_apart h.lv h.fr.own lnNe8 k hk e
  · refine h.eff.trans' he fun i hi hx => ?_
    rcases hx with e | e
    · exact .inl e
    · rcases h.own i e with e | e
      · exact .inr e
      · omega
  · rcases ho k hk with e | e
    · exact h.own k e
    · right; omega
theorem World.ownsRow_low {w : World} {b1 b2 : Nat} {e : TypeId} {size n : Nat} {v : Value} {xs : List Value} (h : w.ownsRow b1 e size v n xs) (hb : b2 ≤ b1) : w.ownsRow b2 e size v n xs := by
  refine ⟨h.1, ?_⟩
  rcases h.2 with hn | ⟨g, cap, cur, hv, hg, r⟩
  · exact .inl hn
  · exact .inr ⟨g, cap, cur, hv, by omega, r⟩
theorem FrAt.store {w3 : World} {g B : Nat} {a0 a1 a2 : Value} {fed : Int} (hm : w3.heap[g]? = some (.cells #[a0, a1, a2, .int .i64 fed] 60 (0, 0))) (v' : Value) (p : List UInt8) {n : Int} {b : Bool} (hn : n = p.length) (hb : b = last13 p) (hown : BS w3 B v' (p.take 999)) :
    FrAt (((w3.setCell ⟨g, 0, none⟩ v').setCell ⟨g, 1, none⟩ (.int .i64 n)).setCell ⟨g, 2, none⟩ (.bool b)) g B v' p fed := by
  subst hn hb
  refine ⟨(setCell_heap (setCell_heap (setCell_heap hm 0 _) 1 _) 2 _).trans rfl, hown.eff (S := (· = g)) ((Eff.setCell (S := (· = g)) (Eff.setCell (S := (· = g)) (Eff.setCell (S := (· = g)) (Eff.refl _ _) (p := ⟨g, 0, none⟩) (fun _ => rfl) _) (p := ⟨g, 1, none⟩) (fun _ => rfl) _) (p := ⟨g, 2, none⟩) (fun _ => rfl) _)) fun k hk e => ?_⟩
  subst e
  exact block_apart hm hown frNe8 hk
theorem FrAt.store2 {w3 : World} {g B : Nat} {v a1 a2 : Value} {fed : Int} (hm : w3.heap[g]? = some (.cells #[v, a1, a2, .int .i64 fed] 60 (0, 0))) {p : List UInt8} {n : Int} {b : Bool} (hn : n = p.length) (hb : b = last13 p) (hown : BS w3 B v (p.take 999)) :
    FrAt ((w3.setCell ⟨g, 1, none⟩ (.int .i64 n)).setCell ⟨g, 2, none⟩ (.bool b)) g B v p fed := by
  subst hn hb
  refine ⟨(setCell_heap (setCell_heap hm 1 _) 2 _).trans rfl, hown.eff (S := (· = g)) ((Eff.setCell (S := (· = g)) (Eff.setCell (S := (· = g)) (Eff.refl _ _) (p := ⟨g, 1, none⟩) (fun _ => rfl) _) (p := ⟨g, 2, none⟩) (fun _ => rfl) _)) fun k hk e => ?_⟩
  subst e
  exact block_apart hm hown frNe8 hk
def FeedPost (g B : Nat) (v : Value) (r : List UInt8) (fed : Int) (s : List UInt8) (w : World) (e : Ending) (w' : World) : Prop :=
  ∃ vo v', e = .returned vo ∧ LV w' w.heap.size vo ((initL (r ++ s)).map mkLn) ∧ FrAt w' g B v' (restL (r ++ s)) (fed + s.length) ∧ Eff (FS g v) w w' ∧ (∀ k, v'.ownBlock = some k → v.ownBlock = some k ∨ w.heap.size ≤ k)
set_option maxRecDepth 100000 in
set_option maxHeartbeats 8000000 in
theorem feed_any (g B : Nat) (v : Value) (r : List UInt8) (fed : Int) (s : ByteArray) (w : World) (h : FrAt w g B v r fed) (hr : IR r [] r) (hB : B ≤ w.heap.size) (hf1 : 0 ≤ fed) (hf2 : fed ≤ 1000000000) (hrl : r.length ≤ 1000000) (hs : s.size ≤ 1000000) :
    Calls Tryd.prog 13 #[.pointer (some ⟨g, 0, none⟩), .string s] w (FeedPost g B v r fed s.data.toList w) := by
  have hsz := bsize s
  have hg : g < w.heap.size := lt_of_block h.mem
  have hvb : ∀ k, v.ownBlock = some k → k < w.heap.size := fun k hk => (World.ownsRow.lt h.own k hk).2
  have c1 := add_any ⟨g, 3, none⟩ fed s.size w h.cell.2.2.2 (h.free 3) (by omega) (by omega)
  have h1 : FrAt (w.setCell ⟨g, 3, none⟩ (.int .i64 (fed + s.size))) g B v r (fed + s.size) :=
    ⟨(setCell_heap h.mem 3 _).trans rfl, h.own.eff (S := (· = g)) (Eff.setCell (S := (· = g)) (Eff.refl _ _) (p := ⟨g, 3, none⟩) (fun _ => rfl) _) (fun k hk e => block_apart h.mem h.own frNe8 (e ▸ hk))⟩
  have he1 : Eff (FS g v) w (w.setCell ⟨g, 3, none⟩ (.int .i64 (fed + s.size))) := Eff.setCell (Eff.refl _ _) (p := ⟨g, 3, none⟩) (fun _ => .inl rfl) _
  have hz1 : (w.setCell ⟨g, 3, none⟩ (.int .i64 (fed + s.size))).heap.size = w.heap.size := by simp
  generalize w.setCell ⟨g, 3, none⟩ (.int .i64 (fed + s.size)) = w1 at *
  have hcv := Lib.run_convert_string_bytes (P := Tryd.prog) w1 9 52 5 s Tryd.underlying9 Tryd.underlying52 Tryd.underlying5
  have hz2 := Lib.bytesWorld_size w1 5 s
  have hcell2 := fun j hj => Lib.bytesWorld_cell w1 5 s j hj
  have he2 : Eff (fun _ => False) w1 (Lib.bytesWorld w1 5 s) := ⟨rfl, rfl, rfl, by rw [hz2]; omega, fun k hk _ => Lib.bytesWorld_at_old w1 _ s k hk⟩
  have h2 : FrAt (Lib.bytesWorld w1 5 s) g B v r (fed + s.size) := h1.eff he2 (fun e => e) (fun _ _ e => e)
  have hcp := grownCap_ge w1 s.size 0 5
  generalize grownCap w1 s.size 0 5 = cp at *
  generalize Lib.bytesWorld w1 5 s = w2 at *
  have hI0 : FdI w2 w2 g B v (fed + s.size) (r ++ s.data.toList.take 0) (.slice none 0 0) v := by
    rw [List.take_zero, List.append_nil]
    have hq := hr.eq
    exact ⟨by rw [hq.2]; exact h2, by rw [hq.1]; exact LV.nil _ _, Eff.refl _ _, fun k hk => .inl hk, by rw [hq.1]; simp⟩
  have HI0 := Lib.hid hI0
  have hE : Eff (FS g v) w w2 := he1.trans (he2.mono (fun _ _ e => e.elim))
  have HE := Lib.hid hE
  rw [hz1] at hcell2
  have HC2 := Lib.hid hcell2
  have HSZ := Lib.hid hsz
  have HVB := Lib.hid hvb
  have hQ : w.heap.size < w2.heap.size := by omega
  have hBw : B ≤ w2.heap.size := by omega
  clear h h1 h2 hr he1 he2 hE hI0 hcell2 hvb hz2
  go_enter Tryd.func13, Tryd.ntmps13
  go_wp2_with (go_at_call 23; refine c1.mono ?_; rintro e w' ⟨rfl, rfl⟩)
  clear c1 hcv
  go_loopw [5, 18] (fun vo i wr => ∃ (k : Nat) (vf : Value), k ≤ s.size ∧ i = .int .i64 k ∧ FdI w2 wr g B v (fed + s.size) (r ++ s.data.toList.take k) vo vf) (fun _ i _ => s.size - (intOf i).toNat)
  case atStart => exact ⟨0, v, Nat.zero_le _, rfl, HI0.out⟩
  case round =>
    clear HI0
    obtain ⟨k, vf, hk, rfl, hI⟩ := hrel
    have HI := Lib.hid hI
    have hk0 : (0 : Int) ≤ k := by omega
    have hwsz := hI.eff.size
    have hrl2 : (restL (r ++ s.data.toList.take k)).length ≤ 2000000 := by
      have h := congrArg List.length (whole (r ++ s.data.toList.take k))
      simp at h; omega
    have hfew : (initL (r ++ s.data.toList.take k)).length ≤ 2000000 := by
      have h := hI.few
      simp at h; omega
    by_cases hlt : k < s.size
    · have hkl : k < s.data.toList.length := by rw [HSZ.out]; exact hlt
      have hk1 : (k : Int) < s.size := by omega
      have htk : r ++ s.data.toList.take (k + 1) = (r ++ s.data.toList.take k) ++ [s.data.toList[k]] := by rw [List.take_succ_eq_append_getElem hkl, List.append_assoc]
      have hcb : wr.cell? ⟨w.heap.size, k, none⟩ = some (.int .u8 s.data.toList[k].toNat) := by
        refine (hI.eff.cell (HC2.out k hlt) ?_).trans ?_
        · rintro (e | e)
          · simp at e; omega
          · have := HVB.out _ e; simp at this
        · simp [List.getD_eq_getElem?_getD, List.getElem?_eq_getElem hkl]
      have HTK := Lib.hid htk
      obtain ⟨c, hc⟩ : ∃ c, c = s.data.toList[k] := ⟨_, rfl⟩
      rw [← hc] at hcb HTK
      generalize hT : r ++ s.data.toList.take k = T at *
      obtain ⟨q0, q1, q2, q3⟩ := hI.fr.cell
      have f0 := hI.fr.free 0
      have f1 := hI.fr.free 1
      have f2 := hI.fr.free 2
      have hgr : g < wr.heap.size := lt_of_block hI.fr.mem
      have hown := hI.fr.own
      have hsnoc := last13_snoc (restL T) c
      have HSN := Lib.hid hsnoc
      have hl13 : last13 (restL T) = true ↔ (restL T).getLast? = some 13 := by unfold last13; exact decide_eq_true_iff
      clear hI htk hkl hT hsnoc hc
      by_cases hit : c = 10 ∧ (restL T).getLast? = some 13
      · obtain ⟨hc10, hl⟩ := hit
        rw [hl13.2 hl] at q2
        have hrlen : 1 ≤ (restL T).length := by
          cases hx : restL T with
          | nil => rw [hx] at hl; cases hl
          | cons a b => simp
        obtain ⟨t1, -⟩ := u8T (n := 10) hc10 rfl
        have HH := Lib.hid (And.intro hc10 hl)
        clear hc10 hl hl13
        rcases (show (restL T).length ≤ 999 ∨ 999 < (restL T).length by omega) with hn | hn
        · have hta : (restL T).take 999 = restL T := List.take_of_length_le (by omega)
          have hni : ((restL T).length : Int) ≤ 999 := by omega
          have hni1 : (1 : Int) ≤ ((restL T).length : Int) := by omega
          rw [hta] at hown
          have hdl : (restL T).dropLast.length = (restL T).length - 1 := List.length_dropLast
          have HML : Hid (mkLn (restL T).dropLast = (⟨(restL T).dropLast.toArray⟩, false)) := by unfold Hid mkLn; rw [if_neg (by omega)]
          obtain ⟨gv, cap, hvf⟩ : ∃ gv cap, vf = .slice (some ⟨gv, 0, none⟩) (restL T).length cap := by
            rcases hown.2 with ⟨hv, h0⟩ | ⟨gv, cap, cur, hv, _⟩
            · omega
            · exact ⟨gv, cap, hv⟩
          subst hvf
          have hdec : decide ((998 : Int) < ((restL T).length : Int) - 1) = false := decide_eq_false (by omega)
          have hlv : wr.ownsRow w2.heap.size 35 2 u5 ((initL T).map mkLn).length (lcells ((initL T).map mkLn)) := HI.out.lv
          have hlb : ((initL T).map mkLn).length ≤ 2000000 := by rw [List.length_map]; exact hfew
          obtain ⟨m, hm⟩ : ∃ m, m = (restL T).dropLast.length := ⟨_, rfl⟩
          have hm1 : ((restL T).length : Int) - 1 = (m : Int) := by omega
          have hm2 : (m : Int) ≤ (cap : Int) := by
            rcases hown.2 with ⟨hv, h0⟩ | ⟨gv', cap', cur, hv, _, _, hc, _⟩
            · cases hv
            · cases hv; omega
          have hmw : IntKind.i64.wrap (m : Int) = (m : Int) := IntWalk.i64_in _ (by omega)
          have hm0 : (0 : Int) ≤ (m : Int) := by omega
          have hcv2 : (convert 52 9 (.slice (some ⟨gv, 0, none⟩) m cap)).run Tryd.prog (wr.alloc (.cells #[.string ⟨#[]⟩, .bool false] 35)).drew = .ok (.string ⟨(restL T).dropLast.toArray⟩) (wr.alloc (.cells #[.string ⟨#[]⟩, .bool false] 35)).drew := by
            refine conv_row hm.symm fun j hj => ?_
            rw [Nat.zero_add]
            have hc := (BS.alloc hown (.cells #[.string ⟨#[]⟩, .bool false] 35)).cell j (by rw [hdl] at hj; omega)
            rw [List.getElem_dropLast]
            exact hc
          rw [hm1] at hdec
          have HDL : Hid (True) := trivial
          obtain ⟨tx, htx⟩ : ∃ tx : ByteArray, tx = ⟨(restL T).dropLast.toArray⟩ := ⟨_, rfl⟩
          rw [← htx] at hcv2
          replace HML : Hid (mkLn (restL T).dropLast = (tx, false)) := by unfold Hid; rw [HML.out, htx]
          clear hm hdl hta htx hn
          have HOW : Hid (∀ A B, ((wr.alloc A).alloc B).drew.ownsRow w2.heap.size 35 2 u5 ((initL T).map mkLn).length (lcells ((initL T).map mkLn))) := fun A B => World.ownsRow.alloc (World.ownsRow.alloc hlv A) B
          have HNW : Hid (∀ A, ((wr.alloc A).alloc (.cells #[.string tx, .bool false] 35)).drew.heap[wr.heap.size + 1]? = some (.cells #[.string tx, .bool false] 35 (0, 0))) := fun A => by
            have h := heap_alloc_new (wr.alloc A) (.cells #[.string tx, .bool false] 35)
            rwa [show (wr.alloc A).heap.size = wr.heap.size + 1 by simp] at h
          go_wp2
          go_region
          go_wp2_with (at_builtin; refine wp_appW rfl (.tmp 52) (.tmp 54) 27 rfl 35 (.agg #[.string ⟨#[]⟩, .bool false]) 2 24 Tryd.underlying27 Tryd.infoLine rfl (by decide) (by decide) w2.heap.size u5 ((initL T).map mkLn).length (lcells ((initL T).map mkLn)) rfl (HOW.out _ _) [.string tx, .bool false] rfl (by intro u hu; simp at hu; rcases hu with rfl | rfl <;> rfl) (wr.heap.size + 1) (HNW.out _) rfl (by omega) (by simp; omega) ?_)
          intro vo' w3 hown3 he3 ho3
          have HE3 : Hid (Eff (fun k => u5.ownBlock = some k) wr w3) := (((Eff.refl _ wr).alloc _).alloc _).drew.trans he3
          have hfr3 := HI.out.fr.keep HI.out.lv HE3.out
          have HLV3 : Hid (LV w3 w2.heap.size vo' ((initL T).map mkLn ++ [mkLn (restL T).dropLast])) := by
            unfold Hid LV
            rw [HML.out, lcells_app, List.length_append]
            simpa [lcells] using hown3
          have c2 := reset_any g B _ (restL T) (fed + s.size) w3 hfr3
          clear hown3 he3 ho3 hlv hown q0 q1 q2 q3 hdec hcv2
          go_wp2_with fail
          refine c2.mono ?_
          rintro e w4 ⟨rfl, hfr4, he4⟩
          have HN : Hid (FdI w2 w4 g B v (fed + s.size) (T ++ [c]) vo' (.slice none 0 0)) := HI.out.hit HH.out.1 HH.out.2 HLV3.out HE3.out hfr4 he4
          clear hfr4 he4 hfr3 c2
          go_wp2
          go_roundw
          case rel => exact ⟨k + 1, _, by omega, by go_num, by rw [HTK.out]; exact HN.out⟩
          case measure => simp [intOf]; omega
        · have hni : 999 < ((restL T).length : Int) := by omega
          have HML : Hid (mkLn (restL T).dropLast = (⟨#[]⟩, true)) := by
            have hdl : (restL T).dropLast.length = (restL T).length - 1 := List.length_dropLast
            unfold Hid mkLn; rw [if_pos (by omega)]
          have hdec : decide ((998 : Int) < ((restL T).length : Int) - 1) = true := decide_eq_true (by omega)
          clear hn
          have hlv : wr.ownsRow w2.heap.size 35 2 u5 ((initL T).map mkLn).length (lcells ((initL T).map mkLn)) := HI.out.lv
          have hlb : ((initL T).map mkLn).length ≤ 2000000 := by rw [List.length_map]; exact hfew
          go_wp2_with (at_builtin; refine wp_appG rfl (.tmp 52) (.tmp 54) 27 rfl 35 (.agg #[.string ⟨#[]⟩, .bool false]) 2 24 Tryd.underlying27 Tryd.infoLine rfl (by decide) (by decide) w2.heap.size u5 ((initL T).map mkLn).length (lcells ((initL T).map mkLn)) rfl (World.ownsRow.alloc hlv _) [.string ⟨#[]⟩, .bool true] rfl (by intro u hu; simp at hu; rcases hu with rfl | rfl <;> rfl) (wr.heap.size + 1) (by simp) rfl (by omega) (by simp; omega) ?_)
          intro vo' w3 hown3 he3 ho3
          have HE3 : Hid (Eff (fun k => u5.ownBlock = some k) wr w3) := ((Eff.refl _ wr).alloc _).trans he3
          have hfr3 := HI.out.fr.keep HI.out.lv HE3.out
          have HLV3 : Hid (LV w3 w2.heap.size vo' ((initL T).map mkLn ++ [mkLn (restL T).dropLast])) := by
            unfold Hid LV
            rw [HML.out, lcells_app, List.length_append]
            simpa [lcells] using hown3
          have c2 := reset_any g B _ (restL T) (fed + s.size) w3 hfr3
          clear hown3 he3 ho3 hlv hown q0 q1 q2 q3 hdec
          go_wp2_with fail
          refine c2.mono ?_
          rintro e w4 ⟨rfl, hfr4, he4⟩
          have HN : Hid (FdI w2 w4 g B v (fed + s.size) (T ++ [c]) vo' (.slice none 0 0)) := HI.out.hit HH.out.1 HH.out.2 HLV3.out HE3.out hfr4 he4
          clear hfr4 he4 hfr3 c2
          go_wp2
          go_roundw
          case rel => exact ⟨k + 1, _, by omega, by go_num, by rw [HTK.out]; exact HN.out⟩
          case measure => simp [intOf]; omega
      · have hways : (((c.toNat : Int) == 10) = false) ∨ (((c.toNat : Int) == 10) = true ∧ last13 (restL T) = false) := by
          by_cases h10 : c = 10
          · right
            exact ⟨(u8T (n := 10) h10 rfl).1, by rw [Bool.eq_false_iff]; exact fun h => hit ⟨h10, hl13.1 h⟩⟩
          · left; exact (u8F (n := 10) h10 rfl).1
        have HM := Lib.hid hit
        clear hit hl13
        rcases (show (restL T).length ≤ 998 ∨ 998 < (restL T).length by omega) with hn | hn
        · have hni : ((restL T).length : Int) ≤ 998 := by omega
          have HTA : Hid ((restL T ++ [c]).take 999 = (restL T).take 999 ++ [c]) := by
            unfold Hid; rw [List.take_of_length_le (by simp; omega), List.take_of_length_le (by omega)]
          have hbl : ((restL T).take 999).length ≤ 999 := List.length_take_le _ _
          rcases hways with t1 | ⟨t1, t2⟩
          all_goals
            first | rw [t2] at q2 | skip
            clear hn
            go_wp2_with (at_builtin; refine wp_appG rfl (.tmp 67) (.tmp 69) 52 rfl 5 (.int .u8 0) 1 1 Tryd.underlying52 Tryd.infoU8 rfl (by decide) (by decide) B vf ((restL T).take 999).length (bcells ((restL T).take 999)) rfl hown [.int .u8 c.toNat] rfl (by intro u hu; simp at hu; subst hu; rfl) wr.heap.size rfl rfl (by omega) (by omega) ?_)
            intro v' w3 hown3 he3 ho3
            obtain ⟨ao, n', cap', rfl⟩ : ∃ ao n' cap', v' = .slice ao n' cap' := by
              rcases hown3.2 with ⟨hv, _⟩ | ⟨_, _, _, hv, _⟩
              · exact ⟨_, _, _, hv⟩
              · exact ⟨_, _, _, hv⟩
            generalize hvv : Value.slice ao n' cap' = v' at hown3 ho3
            have hne : ¬ vf.ownBlock = some g := block_apart HI.out.fr.mem hown frNe8
            have hm3 := he3.heap HI.out.fr.mem hne
            have p0 := cell_of_row w3 g 0 _ _ _ hm3
            have p1 := cell_of_row w3 g 1 _ _ _ hm3
            have p2 := cell_of_row w3 g 2 _ _ _ hm3
            have e0 := frozen_of_row w3 g 0 _ _ hm3
            have e1 := frozen_of_row w3 g 1 _ _ hm3
            have e2 := frozen_of_row w3 g 2 _ _ hm3
            simp at p0 p1 p2
            have hown4 : BS w3 B v' ((restL T ++ [c]).take 999) := by
              rw [HTA.out]
              unfold BS
              rw [bcells_append, List.length_append]
              simpa [bcells] using hown3
            have HR : Hid (FrAt (((w3.setCell ⟨g, 0, none⟩ v').setCell ⟨g, 1, none⟩ (.int .i64 (((restL T).length : Int) + 1))).setCell ⟨g, 2, none⟩ (.bool ((c.toNat : Int) == 13))) g B v' (restL T ++ [c]) (fed + s.size)) :=
              FrAt.store hm3 _ _ (by simp) HSN.out.symm hown4
            have HEE : Hid (Eff (FS g vf) wr (((w3.setCell ⟨g, 0, none⟩ v').setCell ⟨g, 1, none⟩ (.int .i64 (((restL T).length : Int) + 1))).setCell ⟨g, 2, none⟩ (.bool ((c.toNat : Int) == 13)))) :=
              ((Eff.setCell (Eff.setCell (Eff.setCell (he3.mono (fun _ _ e => .inr e)) (p := ⟨g, 0, none⟩) (fun _ => .inl rfl) _) (p := ⟨g, 1, none⟩) (fun _ => .inl rfl) _) (p := ⟨g, 2, none⟩) (fun _ => .inl rfl) _))
            have HO3 := Lib.hid ho3
            subst hvv
            clear hown3 he3 ho3 hown4 hm3 hown q0 q1 q2 q3
            go_wp2
            go_roundw
            case rel => exact ⟨k + 1, _, by omega, by go_num, by rw [HTK.out]; exact HI.out.miss HM.out HR.out HEE.out HO3.out⟩
            case measure => simp [intOf]; omega
        · have hni : 998 < ((restL T).length : Int) := by omega
          have HTA : Hid ((restL T ++ [c]).take 999 = (restL T).take 999) := by
            unfold Hid; rw [List.take_append_of_le_length (by omega)]
          rcases hways with t1 | ⟨t1, t2⟩
          all_goals
            first | rw [t2] at q2 | skip
            clear hn
            have HR : Hid (FrAt ((wr.setCell ⟨g, 1, none⟩ (.int .i64 (((restL T).length : Int) + 1))).setCell ⟨g, 2, none⟩ (.bool ((c.toNat : Int) == 13))) g B vf (restL T ++ [c]) (fed + s.size)) :=
              FrAt.store2 HI.out.fr.mem (by simp) HSN.out.symm (by rw [HTA.out]; exact hown)
            have HEE : Hid (Eff (FS g vf) wr ((wr.setCell ⟨g, 1, none⟩ (.int .i64 (((restL T).length : Int) + 1))).setCell ⟨g, 2, none⟩ (.bool ((c.toNat : Int) == 13)))) :=
              (Eff.setCell (Eff.setCell (Eff.refl _ _) (p := ⟨g, 1, none⟩) (fun _ => .inl rfl) _) (p := ⟨g, 2, none⟩) (fun _ => .inl rfl) _)
            clear hown
            go_wp2
            go_roundw
            case rel => exact ⟨k + 1, vf, by omega, by go_num, by rw [HTK.out]; exact HI.out.miss HM.out HR.out HEE.out (fun _ e => .inl e)⟩
            case measure => simp [intOf]; omega
    · obtain rfl : k = s.size := by omega
      have ht : s.data.toList.take s.size = s.data.toList := List.take_of_length_le (by rw [HSZ.out]; omega)
      rw [ht] at HI
      clear hrl2 hfew ht hI
      go_wp2
      go_ret
      refine ⟨_, vf, rfl, World.ownsRow_low HI.out.lv (by omega), by rw [HSZ.out]; exact HI.out.fr, HE.out.trans' HI.out.eff (fun _ _ e => e), fun k hk => ?_⟩
      rcases HI.out.own k hk with e | e
      · exact .inl e
      · right; omega
end Go.Proofs.YteiepgbdngamiaaDoor
