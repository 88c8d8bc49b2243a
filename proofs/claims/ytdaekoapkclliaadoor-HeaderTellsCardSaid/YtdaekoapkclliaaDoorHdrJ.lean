/- Package header: cut. -/
import Derived.Test.YtdaekoapkclliaaDoorHdrI
set_option linter.unusedVariables false
set_option linter.unusedSimpArgs false
namespace Go.Proofs.YtdaekoapkclliaaDoor
open Go.RowKit
theorem cut_G (t : Bs) : (Lib.cut t [13, 10] = (t, [], false) ∧ ∀ cur, cutG cur t = none) ∨ ∃ a b, Lib.cut t [13, 10] = (a, b, true) ∧ t = a ++ 13 :: 10 :: b ∧ ∀ cur, cutG cur t = if cur ++ a = [] then some ([], b) else (cutG [] b).map fun p => ((cur ++ a) :: p.1, p.2) := by
  have key : ∀ t : Bs, (Lib.index t [13, 10] = -1 ∧ ∀ cur, cutG cur t = none) ∨ ∃ j : Nat, Lib.index t [13, 10] = j ∧ t = t.take j ++ 13 :: 10 :: t.drop (j + 2) ∧ ∀ cur, cutG cur t = if cur ++ t.take j = [] then some ([], t.drop (j + 2)) else (cutG [] (t.drop (j + 2))).map fun p => ((cur ++ t.take j) :: p.1, p.2) := by
    intro t
    induction t with
    | nil => left; exact ⟨by decide, fun cur => rfl⟩
    | cons c r ih =>
      rcases crlf_cases (c :: r) with ⟨u, e⟩ | hno
      · obtain ⟨rfl, rfl⟩ := List.cons.inj e
        right
        refine ⟨0, by rw [index_cons, if_pos (by simp [List.isPrefixOf])]; rfl, rfl, fun cur => ?_⟩
        rw [cutG]; simp
      · have hp := prefix_no hno
        have hix := index_cons c r
        rw [hp] at hix
        simp only [Bool.false_eq_true, if_false] at hix
        rcases ih with ⟨h1, h2⟩ | ⟨j, h1, h2, h3⟩
        · left
          exact ⟨by rw [hix, if_pos (by rw [h1]; rfl)], fun cur => by rw [cutG_c hno, h2]⟩
        · right
          refine ⟨j + 1, by rw [hix, if_neg (by rw [h1]; intro e; have := beq_iff_eq.1 e; omega), h1]; omega, ?_, fun cur => ?_⟩
          · show c :: r = c :: (r.take j ++ 13 :: 10 :: r.drop (j + 2))
            rw [← h2]
          · rw [cutG_c hno, h3]
            simp
  rcases key t with ⟨h1, h2⟩ | ⟨j, h1, h2, h3⟩
  · left
    exact ⟨by unfold Lib.cut; rw [if_neg (by omega)], h2⟩
  · right
    refine ⟨t.take j, t.drop (j + 2), ?_, h2, h3⟩
    unfold Lib.cut
    rw [if_pos (by omega), h1]
    rfl
def CutP (s : Bs) (w : World) (e : Ending) (w' : World) : Prop :=
  (cutG [] s = none ∧ e = .returned (.tuple #[.slice none 0 0, .string ⟨#[]⟩, .bool false]) ∧ Below w.heap.size w w') ∨
  ∃ (ls : List ByteArray) (rest : Bs) (v : Value), cutG [] s = some (bss ls, rest) ∧ (ctL (bss ls)).length + rest.length ≤ s.length ∧ e = .returned (.tuple #[v, .string ⟨rest.toArray⟩, .bool true]) ∧ SSo w' w.heap.size v ls ∧ Below w.heap.size w w'
set_option maxRecDepth 100000 in
set_option maxHeartbeats 4000000 in
theorem cut_any (s : ByteArray) (w : World) (hs : s.size ≤ 1000000) (hm : MaxAt w) :
    Calls Tryd.prog 26 #[.string s] w (CutP s.data.toList w) := by
  have HM := Lib.hid hm
  clear hm
  go_enter Tryd.func26, Tryd.ntmps26
  go_wp2
  go_loopw [0, 2] (fun v x wr => ∃ (t : ByteArray) (o : List ByteArray), v = .string t ∧ SSo wr w.heap.size x o ∧ Hid (cutG [] s.data.toList = (cutG [] t.data.toList).map fun p => (bss o ++ p.1, p.2)) ∧ (ctL (bss o)).length + t.size ≤ s.size ∧ Below w.heap.size w wr) (fun v _ _ => match v with | .string t => t.size | _ => 0)
  case atStart => exact ⟨s, [], rfl, SSo.nil _ _, Lib.hid (by cases cutG [] s.data.toList <;> rfl), by simp [bss, ctL], Below.refl _ _⟩
  case round =>
    obtain ⟨t, o, rfl, hown, hG, hsz, hbl⟩ := hrel
    obtain ⟨m, hm⟩ := HM.out.up hbl
    have c1 := Tryd.strings_Cut t ⟨#[13, 10]⟩ m wr (by omega) hm
    rw [show (⟨#[13, 10]⟩ : ByteArray).data.toList = [13, 10] from rfl] at c1
    have hGd := hG.out
    have hol : o.length + 1 ≤ 1000000000000 := by
      have := ctL_len (bss o)
      rw [bss_len] at this; omega
    have hwsz := hbl.size
    clear hm hG
    rcases cut_G t.data.toList with ⟨hc, hl⟩ | ⟨a, b, hc, hab, hl⟩
    · rw [hl] at hGd
      rw [hc] at c1
      simp only at c1
      generalize (⟨t.data.toList.toArray⟩ : ByteArray) = ta at *
      have HF := Lib.hid (And.intro hGd hbl)
      clear hc hl hGd hown hsz hol
      go_wp2_with fail
      refine c1.mono ?_
      rintro e w2 ⟨rfl, n, rfl⟩
      clear c1
      go_wp2
      go_ret3
      exact .inl ⟨HF.out.1, rfl, Below.drewN' HF.out.2 _⟩
    · rw [hl, List.nil_append] at hGd
      rw [hc] at c1
      simp only at c1
      have hlen : a.length + 2 + b.length = t.size := by rw [← bsize, hab]; simp; omega
      obtain ⟨X, hX⟩ : ∃ X : ByteArray, X = ⟨a.toArray⟩ := ⟨_, rfl⟩
      have hXd : X.data.toList = a := by rw [hX]
      have hXe := empty_is (x := X)
      rw [hXd] at hXe
      rw [← hX] at c1
      by_cases ha : a = []
      · rw [if_pos ha] at hGd
        rw [decide_eq_true ha] at hXe
        have HF := Lib.hid (And.intro hGd (And.intro hbl (And.intro hown (show (ctL (bss o)).length + b.length ≤ s.data.toList.length by rw [bsize]; omega))))
        clear hc hl hGd hown hsz hol hab hX hXd ha hlen
        go_wp2_with fail
        refine c1.mono ?_
        rintro e w2 ⟨rfl, n, rfl⟩
        clear c1
        go_wp2
        go_ret3
        exact .inr ⟨o, b, _, by rw [HF.out.1]; simp, HF.out.2.2.2, rfl, HF.out.2.2.1.drewN n, Below.drewN' HF.out.2.1 n⟩
      · rw [if_neg ha] at hGd
        rw [decide_eq_false ha] at hXe
        have hct : (ctL (bss (o ++ [X]))).length + b.length ≤ s.size := by
          rw [bss_app, ctL_app, List.length_append]
          have : (ctL (bss [X])).length = a.length + 2 := by rw [← hXd]; simp [ctL, bss]
          omega
        have hG2 : cutG [] s.data.toList = (cutG [] (⟨b.toArray⟩ : ByteArray).data.toList).map fun p => (bss (o ++ [X]) ++ p.1, p.2) := by
          rw [hGd, Option.map_map, bss_app]
          show _ = (cutG [] b).map _
          congr 1
          funext p
          simp [bss, hXd]
        have hbs : (⟨b.toArray⟩ : ByteArray).size = b.length := lsize b
        have HF := Lib.hid (And.intro hG2 (And.intro hbl (And.intro hown hct)))
        clear hc hl hGd hown hsz hab hX hXd ha hct hG2 hbl
        go_wp2_with fail
        refine c1.mono ?_
        rintro e w2 ⟨rfl, n, rfl⟩
        clear c1
        have hown2 := HF.out.2.2.1.drewN n
        have hb2 := Below.drewN' HF.out.2.1 n
        have hw2 := hb2.size
        generalize wr.drewN n = W2 at *
        have HOWN := Lib.hid hown2
        have HB := Lib.hid hb2
        clear hown2 hb2
        go_wp2_with (at_builtin; refine wp_appstr rfl (.tmp 20) (.tmp 22) rfl w.heap.size _ o rfl X HOWN.out rfl hol hw2 ?_)
        intro v' w3 hown3 hb3
        have HF3 := Lib.hid (And.intro hown3 (HB.out.trans hb3))
        clear hown3 hb3
        go_wp2
        go_roundw
        case rel => exact ⟨⟨b.toArray⟩, o ++ [X], rfl, HF3.out.1, Lib.hid HF.out.1, by rw [lsize]; exact HF.out.2.2.2, HF3.out.2⟩
        case measure => show (⟨b.toArray⟩ : ByteArray).size < t.size; rw [hbs]; omega
end Go.Proofs.YtdaekoapkclliaaDoor
