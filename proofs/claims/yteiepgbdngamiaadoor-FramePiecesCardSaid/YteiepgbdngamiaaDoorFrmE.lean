/- Package frame: Unstuff. -/
import Derived.Test.YteiepgbdngamiaaDoorFrmD
set_option linter.unusedVariables false
set_option linter.unusedSimpArgs false
namespace Go.Proofs.YteiepgbdngamiaaDoor
open Go.RowKit
theorem cut_lns (t : List UInt8) : (Lib.cut t [13, 10] = (t, [], false) ∧ lns t = [t]) ∨ ∃ a b, Lib.cut t [13, 10] = (a, b, true) ∧ t = a ++ 13 :: 10 :: b ∧ lns t = a :: lns b := by
  have key : ∀ t : List UInt8, (Lib.index t [13, 10] = -1 ∧ lns t = [t]) ∨ ∃ j : Nat, Lib.index t [13, 10] = j ∧ t = t.take j ++ 13 :: 10 :: t.drop (j + 2) ∧ lns t = t.take j :: lns (t.drop (j + 2)) := by
    intro t
    induction t using lns.induct with
    | case1 => left; exact ⟨by decide, rfl⟩
    | case2 r ih =>
      right
      exact ⟨0, by rw [index_cons, if_pos (by simp [List.isPrefixOf])]; rfl, rfl, by rw [lns]; rfl⟩
    | case3 c r h ih =>
      have hno : ∀ u, c :: r = 13 :: 10 :: u → False := fun u e => by injection e with e1 e2; exact h u e1 e2
      have hp := prefix_no hno
      have hix := index_cons c r
      rw [hp] at hix
      simp only [Bool.false_eq_true, if_false] at hix
      rw [lns_cons hno]
      rcases ih with ⟨h1, h2⟩ | ⟨j, h1, h2, h3⟩
      · left
        exact ⟨by rw [hix, if_pos (by rw [h1]; rfl)], by rw [h2]; rfl⟩
      · right
        refine ⟨j + 1, by rw [hix, if_neg (by rw [h1]; intro e; have := beq_iff_eq.1 e; omega), h1]; omega, ?_, by rw [h3]; rfl⟩
        show c :: r = c :: (r.take j ++ 13 :: 10 :: r.drop (j + 2))
        rw [← h2]
  rcases key t with ⟨h1, h2⟩ | ⟨j, h1, h2, h3⟩
  · left
    exact ⟨by unfold Lib.cut; rw [if_neg (by omega)], h2⟩
  · right
    refine ⟨t.take j, t.drop (j + 2), ?_, h2, h3⟩
    unfold Lib.cut
    rw [if_pos (by omega), h1]
    rfl
theorem unst_end (o : List UInt8) (b : List UInt8) : unst o ([46] :: lns b) = some (o, lns b) := by
  have h := lns_ne b
  cases hl : lns b with
  | nil => exact absurd hl h
  | cons x y => rw [unst, if_pos rfl]
theorem unst_bad (o a b : List UInt8) (h0 : a ≠ [46]) (h1 : a.head? = some 46 ∧ a[1]? ≠ some 46) : unst o (a :: lns b) = none := by
  have h := lns_ne b
  cases hl : lns b with
  | nil => exact absurd hl h
  | cons x y => rw [unst, if_neg h0, if_pos h1]
theorem unst_go (o a b : List UInt8) (h0 : a ≠ [46]) (h1 : ¬ (a.head? = some 46 ∧ a[1]? ≠ some 46)) : unst o (a :: lns b) = unst (o ++ undot a ++ [13, 10]) (lns b) := by
  have h := lns_ne b
  cases hl : lns b with
  | nil => exact absurd hl h
  | cons x y => rw [unst, if_neg h0, if_neg h1]
theorem un_some {s o : List UInt8} {R : List (List UInt8)} (h : unst [] (lns s) = some (o, R)) : unT s = o ∧ unR s = joinC R ∧ unC s = 0 := by simp [unT, unR, unC, h]
theorem un_none {s : List UInt8} (h : unst [] (lns s) = none) : unT s = [] ∧ unR s = [] ∧ unC s = 2 := by simp [unT, unR, unC, h]
def UnPost (s : List UInt8) (w : World) (e : Ending) (w' : World) : Prop := e = .returned (.tuple #[.string ⟨(unT s).toArray⟩, .string ⟨(unR s).toArray⟩, .int .i64 (unC s)]) ∧ Below w.heap.size w w'
theorem ret_un {s a b : List UInt8} {c : Int} (h : unT s = a ∧ unR s = b ∧ unC s = c) : Ending.returned (.tuple #[.string ⟨a.toArray⟩, .string ⟨b.toArray⟩, .int .i64 c]) = .returned (.tuple #[.string ⟨(unT s).toArray⟩, .string ⟨(unR s).toArray⟩, .int .i64 (unC s)]) := by rw [h.1, h.2.1, h.2.2]
theorem trim_dot (a : List UInt8) : Lib.trimPrefix a [46] = undot a := by
  unfold Lib.trimPrefix undot
  rw [prefix_dot]
  by_cases h : a.head? = some 46
  · rw [decide_eq_true h, if_pos rfl, if_pos h]; rfl
  · rw [decide_eq_false h, if_neg h]; rfl
theorem undot_len (a : List UInt8) : (undot a).length ≤ a.length := by unfold undot; split <;> simp
def UnI (s t : ByteArray) (o : List UInt8) : Prop := unst o (lns t.data.toList) = unst [] (lns s.data.toList) ∧ o.length + t.size ≤ s.size
theorem undot_cases (a : List UInt8) : (a.head? ≠ some 46 ∧ undot a = a) ∨ (a.head? = some 46 ∧ a = 46 :: undot a) := by
  cases a with
  | nil => left; simp [undot]
  | cons x y =>
    by_cases h : x = 46
    · subst h; right; simp [undot]
    · left; simp [undot, h]
set_option maxRecDepth 100000 in
set_option maxHeartbeats 4000000 in
theorem unstuff_any (s : ByteArray) (w : World) (hs : s.size ≤ 1000000) (hm : MaxAt w) :
    Calls Tryd.prog 21 #[.string s] w (UnPost s.data.toList w) := by
  have HM := Lib.hid hm
  clear hm
  have hb0 := Lib.hid (bb_new w w.heap.size (Nat.le_refl _))
  have hl0 : Hid (Below w.heap.size w (w.alloc (.cells #[.pointer none, .slice none 0 0] 68 (0, 0)))) := (Below.refl _ _).alloc (Nat.le_refl _) _
  go_enter Tryd.func21, Tryd.ntmps21
  go_wp2
  go_loopw [0] (fun v wr => ∃ (t : ByteArray) (o : List UInt8), v = .string t ∧ UnI s t o ∧ BB wr w.heap.size w.heap.size o ∧ Below w.heap.size w wr) (fun v _ => match v with | .string t => t.size | _ => 0)
  case atStart => exact ⟨s, [], rfl, ⟨rfl, by simp⟩, hb0.out, hl0.out⟩
  case round =>
    clear hb0 hl0
    obtain ⟨t, o, rfl, ⟨hU, hsz⟩, hbb, hbl⟩ := hrel
    have HU := Lib.hid hU
    have HBB := Lib.hid hbb
    have HBL := Lib.hid hbl
    have hwsz := hbl.size
    have htl := bsize t
    obtain ⟨m, hm⟩ := HM.out.up hbl
    have c1 := Tryd.strings_Cut t ⟨#[13, 10]⟩ m wr (by omega) hm
    rw [show (⟨#[13, 10]⟩ : ByteArray).data.toList = [13, 10] from rfl] at c1
    clear hU hbb hbl hm
    rcases cut_lns t.data.toList with ⟨hc, hl⟩ | ⟨a, b, hc, hab, hl⟩
    · have HN : Hid (unT s.data.toList = [] ∧ unR s.data.toList = [] ∧ unC s.data.toList = 2) := un_none (by rw [← HU.out, hl]; rfl)
      rw [hc] at c1
      simp only at c1
      clear hc hl htl
      generalize (⟨t.data.toList.toArray⟩ : ByteArray) = ta at *
      have c2 := Tryd.strings_CutPrefix ta ⟨#[46]⟩
      generalize Lib.trimPrefix ta.data.toList (⟨#[46]⟩ : ByteArray).data.toList = tp at *
      generalize Lib.hasPrefix ta.data.toList (⟨#[46]⟩ : ByteArray).data.toList = th at *
      go_wp2_with fail
      refine c1.mono ?_
      rintro e w2 ⟨rfl, n, rfl⟩
      clear c1
      go_wp2_with fail
      refine (c2 _).mono ?_
      rintro e w3 ⟨rfl, rfl⟩
      clear c2
      go_wp2
      go_ret3
      exact ⟨ret_un HN.out, Below.drewN' HBL.out _⟩
    · rw [hc] at c1
      simp only at c1
      have hlen : a.length + 2 + b.length = t.size := by rw [← htl, hab]; simp; omega
      have c2 := Tryd.strings_CutPrefix ⟨a.toArray⟩ ⟨#[46]⟩
      rw [show (⟨#[46]⟩ : ByteArray).data.toList = [46] from rfl, show (⟨a.toArray⟩ : ByteArray).data.toList = a from rfl, trim_dot, prefix_dot] at c2
      have hul := undot_len a
      have HJ := Lib.hid (joinC_lns b)
      clear hc htl
      have hbs : (⟨b.toArray⟩ : ByteArray).size = b.length := lsize b
      have GO : ∀ (hne : a ≠ [46]) (h1 : ¬ (a.head? = some 46 ∧ a[1]? ≠ some 46)), UnI s ⟨b.toArray⟩ (o ++ undot a ++ [13, 10]) := fun hne h1 =>
        ⟨by rw [← HU.out, hl]; exact (unst_go o a b hne h1).symm, by rw [lsize]; simp; omega⟩
      have HGO := Lib.hid GO
      have hxl : ((⟨(undot a).toArray⟩ : ByteArray) ++ (⟨#[13, 10]⟩ : ByteArray)).data.toList = undot a ++ [13, 10] := by simp
      have hxz : ((⟨(undot a).toArray⟩ : ByteArray) ++ (⟨#[13, 10]⟩ : ByteArray)).size = (undot a).length + 2 := by rw [ByteArray.size_append, lsize]; rfl
      have HXL := Lib.hid hxl
      have hsz2 : (⟨(undot a).toArray⟩ : ByteArray).size ≤ 1000000 := by rw [lsize]; omega
      have c3 := fun n => wstr w.heap.size w.heap.size o ((⟨(undot a).toArray⟩ : ByteArray) ++ (⟨#[13, 10]⟩ : ByteArray)) (wr.drewN n) HBB.out (by rw [hxz]; omega) hwsz
      have c4 := fun n => bstr w.heap.size w.heap.size o (wr.drewN n) HBB.out hwsz
      have c5 := fun W => Tryd.strings_HasPrefix ⟨(undot a).toArray⟩ ⟨#[46]⟩ W
      rw [show (⟨#[46]⟩ : ByteArray).data.toList = [46] from rfl, show (⟨(undot a).toArray⟩ : ByteArray).data.toList = undot a from rfl, prefix_dot] at c5
      have HLT : Hid (b.length < t.size) := by unfold Hid; omega
      clear GO hxl hlen hxz hul
      rcases undot_cases a with ⟨hh, hu⟩ | ⟨hh, hu⟩
      · have HG := Lib.hid (HGO.out (fun e => hh (by rw [e]; rfl)) (fun e => hh e.1))
        rw [decide_eq_false hh] at c2
        clear hh hu hl hab c4 c5 HGO
        generalize (⟨(undot a).toArray⟩ : ByteArray) = x at *
        generalize hbb : (⟨b.toArray⟩ : ByteArray) = bb at *
        generalize (⟨a.toArray⟩ : ByteArray) = aa at *
        go_wp2_with fail
        refine c1.mono ?_
        rintro e w2 ⟨rfl, n, rfl⟩
        clear c1
        go_wp2_with fail
        refine (c2 _).mono ?_
        rintro e w3 ⟨rfl, rfl⟩
        clear c2
        go_wp2_with fail
        refine (c3 _).mono ?_
        rintro e w4 ⟨rfl, hbb4, hbl4, -⟩
        have HBB4 : Hid (BB w4 w.heap.size w.heap.size (o ++ undot a ++ [13, 10])) := by
          rw [HXL.out] at hbb4; unfold Hid; rw [List.append_assoc]; exact hbb4
        have HBL4 : Hid (Below w.heap.size w w4) := (Below.drewN' HBL.out _).trans hbl4
        clear hbb4 hbl4 c3
        go_wp2
        go_roundw
        case rel => exact ⟨bb, o ++ undot a ++ [13, 10], rfl, HG.out, HBB4.out, HBL4.out⟩
        case measure => simp [hbs]; exact HLT.out
      · by_cases hx : undot a = []
        · have ha : a = [46] := by rw [hu, hx]
          subst ha
          have HN : Hid (unT s.data.toList = o ∧ unR s.data.toList = b ∧ unC s.data.toList = 0) := by
            have := un_some (show unst [] (lns s.data.toList) = some (o, lns b) by rw [← HU.out, hl]; exact unst_end o b)
            unfold Hid; rw [HJ.out] at this; exact this
          rw [show undot [46] = [] from rfl] at c2
          rw [show decide (([46] : List UInt8).head? = some 46) = true by decide] at c2
          clear hh hu hl hab c3 c5 HGO HXL hx hsz2
          have hbb : Hid (True) := trivial
          obtain ⟨ob, hob⟩ : ∃ ob : ByteArray, ob = ⟨o.toArray⟩ := ⟨_, rfl⟩
          obtain ⟨rb, hrb⟩ : ∃ rb : ByteArray, rb = ⟨b.toArray⟩ := ⟨_, rfl⟩
          rw [← hob] at c4
          rw [← hrb] at c1
          have HOB := Lib.hid hob
          have HRB := Lib.hid hrb
          clear hob hrb hbs
          go_wp2_with fail
          refine c1.mono ?_
          rintro e w2 ⟨rfl, n, rfl⟩
          clear c1
          go_wp2_with fail
          refine (c2 _).mono ?_
          rintro e w3 ⟨rfl, rfl⟩
          clear c2
          go_wp2_with fail
          refine (c4 _).mono ?_
          rintro e w4 ⟨rfl, -, hbl4, -⟩
          have HBL4 : Hid (Below w.heap.size w w4) := (Below.drewN' HBL.out _).trans hbl4
          clear hbl4 c4
          go_wp2
          go_ret3
          refine ⟨?_, HBL4.out⟩
          have h := ret_un HN.out
          rw [← HOB.out, ← HRB.out] at h
          exact h
        · have hne : a ≠ [46] := fun e => hx (by rw [e]; rfl)
          have hxe1 : ((⟨(undot a).toArray⟩ : ByteArray).toList == []) = false := by rw [Lib.toList_data]; exact beq_false_of_ne hx
          have hxe2 : (⟨(undot a).toArray⟩ : ByteArray).toList.isEmpty = false := by rw [Lib.toList_data]; simpa using hx
          have h1a : a[1]? = (undot a).head? := by conv => lhs; rw [hu]
                                                   cases undot a <;> rfl
          rw [decide_eq_true hh] at c2
          by_cases hd : (undot a).head? = some 46
          · have HG := Lib.hid (HGO.out hne (fun e => e.2 (by rw [h1a]; exact hd)))
            rw [decide_eq_true hd] at c5
            clear hh hu hl hab c4 HGO hx hd h1a hne
            generalize (⟨(undot a).toArray⟩ : ByteArray) = x at *
            generalize hbb : (⟨b.toArray⟩ : ByteArray) = bb at *
            generalize (⟨a.toArray⟩ : ByteArray) = aa at *
            go_wp2_with fail
            refine c1.mono ?_
            rintro e w2 ⟨rfl, n, rfl⟩
            clear c1
            go_wp2_with fail
            refine (c2 _).mono ?_
            rintro e w3 ⟨rfl, rfl⟩
            clear c2
            go_wp2_with fail
            refine (c5 _).mono ?_
            rintro e w3 ⟨rfl, rfl⟩
            clear c5
            go_wp2_with fail
            refine (c3 _).mono ?_
            rintro e w4 ⟨rfl, hbb4, hbl4, -⟩
            have HBB4 : Hid (BB w4 w.heap.size w.heap.size (o ++ undot a ++ [13, 10])) := by
              rw [HXL.out] at hbb4; unfold Hid; rw [List.append_assoc]; exact hbb4
            have HBL4 : Hid (Below w.heap.size w w4) := (Below.drewN' HBL.out _).trans hbl4
            clear hbb4 hbl4 c3
            go_wp2
            go_roundw
            case rel => exact ⟨bb, o ++ undot a ++ [13, 10], rfl, HG.out, HBB4.out, HBL4.out⟩
            case measure => simp [hbs]; exact HLT.out
          · have HN : Hid (unT s.data.toList = [] ∧ unR s.data.toList = [] ∧ unC s.data.toList = 2) := un_none (by rw [← HU.out, hl]; exact unst_bad o a b hne ⟨hh, by rw [h1a]; exact hd⟩)
            rw [decide_eq_false hd] at c5
            clear hh hu hl hab c4 c3 HGO hx hd h1a hne HXL
            generalize (⟨(undot a).toArray⟩ : ByteArray) = x at *
            generalize hbb : (⟨b.toArray⟩ : ByteArray) = bb at *
            generalize (⟨a.toArray⟩ : ByteArray) = aa at *
            go_wp2_with fail
            refine c1.mono ?_
            rintro e w2 ⟨rfl, n, rfl⟩
            clear c1
            go_wp2_with fail
            refine (c2 _).mono ?_
            rintro e w3 ⟨rfl, rfl⟩
            clear c2
            go_wp2_with fail
            refine (c5 _).mono ?_
            rintro e w3 ⟨rfl, rfl⟩
            clear c5
            go_wp2
            go_ret3
            exact ⟨ret_un HN.out, Below.drewN' HBL.out _⟩
end Go.Proofs.YteiepgbdngamiaaDoor
