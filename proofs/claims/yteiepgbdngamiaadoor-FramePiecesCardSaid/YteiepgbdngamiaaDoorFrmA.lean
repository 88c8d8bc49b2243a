/- Package frame: Lines, of the program and of the document. -/
import Derived.Test.YteiepgbdngamiaaDoorFrmQ
set_option linter.unusedVariables false
set_option linter.unusedSimpArgs false
namespace Go.Proofs.YteiepgbdngamiaaDoor
open Go.RowKit
/-- A value that shows strings: nil, or a row from block B on. -/
def SV (w : World) (B : Nat) (v : Value) (ls : List ByteArray) : Prop := (v = .slice none 0 0 ∧ ls = []) ∨ ∃ g cap, v = .slice (some ⟨g, 0, none⟩) ls.length cap ∧ B ≤ g ∧ StrsAt w g cap ls
theorem SV.shape {w : World} {B : Nat} {v : Value} {ls : List ByteArray} (h : SV w B v ls) : ∃ ao cap, v = .slice ao ls.length cap ∧ ls.length ≤ cap ∧ cap ≤ 9223372036854775807 := by
  rcases h with ⟨rfl, rfl⟩ | ⟨g, cap, rfl, _, hs⟩
  · exact ⟨_, _, rfl, Nat.le_refl _, by decide⟩
  · exact ⟨_, _, rfl, hs.room, by have := hs.max; unfold maxLen at this; omega⟩
theorem SV.cell {w : World} {B : Nat} {ao : Option Addr} {n cap : Nat} {ls : List ByteArray} (h : SV w B (.slice ao n cap) ls) {j : Nat} (hj : j < ls.length) : ∃ g, ao = some ⟨g, 0, none⟩ ∧ w.cell? ⟨g, j, none⟩ = some (.string ls[j]) := by
  rcases h with ⟨_, rfl⟩ | ⟨g, cap', e, _, hs⟩
  · cases hj
  · cases e
    exact ⟨g, rfl, hs.cell j hj⟩
theorem SV.chg {w w' : World} {B B' : Nat} {v : Value} {ls : List ByteArray} (h : SV w B v ls) {S : Nat → Prop} (hc : Chg B' S w w') (hn : ∀ k, B ≤ k → k < w.heap.size → ¬ S k) : SV w' B v ls := by
  rcases h with h | ⟨g, cap, e, hg, hs⟩
  · exact .inl h
  · exact .inr ⟨g, cap, e, hg, hs.chg hc (hn g hg hs.lt)⟩
theorem SV.below {w w' : World} {B : Nat} {v : Value} {ls : List ByteArray} (h : SV w B v ls) (hb : Below w.heap.size w w') : SV w' B v ls := h.chg (Chg.of_below hb (Nat.le_refl _) (fun _ => False)) (fun _ _ _ => id)
theorem SV.mono {w : World} {B B' : Nat} {v : Value} {ls : List ByteArray} (h : SV w B v ls) (hb : B' ≤ B) : SV w B' v ls := by
  rcases h with h | ⟨g, cap, e, hg, hs⟩
  · exact .inl h
  · exact .inr ⟨g, cap, e, by omega, hs⟩
theorem SSo.sv {w : World} {B : Nat} {v : Value} {ls : List ByteArray} (h : SSo w B v ls) : SV w B v ls := by
  rcases Nat.eq_zero_or_pos ls.length with h0 | h0
  · obtain rfl : ls = [] := List.eq_nil_of_length_eq_zero h0
    rcases h.2 with ⟨hv, _⟩ | ⟨g, cap, cur, hv, hg, hh, h1, h2, h3, h4⟩
    · exact .inl ⟨hv, rfl⟩
    · exact .inr ⟨g, cap, hv, hg, ⟨cur, hh, by simp⟩, h1, h2⟩
  · obtain ⟨g, cap, e, hg, hs⟩ := h.strs h0
    exact .inr ⟨g, cap, e, hg, hs⟩
/-- The bytes of strings. -/
def bytesL (ls : List ByteArray) : List (List UInt8) := ls.map (·.data.toList)
def LinesPost (s : List UInt8) (w : World) (e : Ending) (w' : World) : Prop := ∃ v ls, e = .returned (.tuple #[v, .int .i64 (linesC s)]) ∧ SV w' w.heap.size v ls ∧ bytesL ls = linesV s ∧ Below w.heap.size w w'
theorem suffix_crlf (s : List UInt8) : Lib.hasSuffix s [13, 10] = true ↔ ∃ b, s = b ++ [13, 10] := by
  unfold Lib.hasSuffix
  rw [List.isSuffixOf_iff_suffix]
  constructor
  · rintro ⟨b, h⟩; exact ⟨b, h.symm⟩
  · rintro ⟨b, h⟩; exact ⟨b, h.symm⟩
theorem ret_tup {a : Value} {c d : Int} {k : IntKind} (h : c = d) : Ending.returned (.tuple #[a, .int k c]) = .returned (.tuple #[a, .int k d]) := by rw [h]
set_option maxRecDepth 100000 in
set_option maxHeartbeats 1000000 in
theorem lines_any (s : ByteArray) (w : World) (hs : s.size ≤ 1000000) (hm : MaxAt w) :
    Calls Tryd.prog 17 #[.string s] w (LinesPost s.data.toList w) := by
  have hsz := bsize s
  by_cases h0 : s.data.toList = []
  · have e0 : s = ⟨#[]⟩ := by apply ByteArray.ext; apply Array.ext'; rw [h0]
    subst e0
    go_enter Tryd.func17, Tryd.ntmps17
    go_wp2
    go_ret2
    exact ⟨_, [], rfl, .inl ⟨rfl, rfl⟩, rfl, Below.refl _ _⟩
  · have hne : s.toList = [] → False := fun h => h0 (by rw [← Lib.toList_data]; exact h)
    have he1 : (s.toList == []) = false := by rw [Lib.toList_data]; exact beq_false_of_ne h0
    have he2 : s.toList.isEmpty = false := by rw [Lib.toList_data]; simpa using h0
    have c1 := Tryd.strings_CutSuffix s ⟨#[13, 10]⟩ w (by omega)
    rw [show (⟨#[13, 10]⟩ : ByteArray).data.toList = [13, 10] from rfl] at c1
    by_cases hx : ∃ b, s.data.toList = b ++ [13, 10]
    · have hsf := (suffix_crlf _).2 hx
      obtain ⟨b, hb⟩ := hx
      have htr : Lib.trimSuffix s.data.toList [13, 10] = b := by
        unfold Lib.trimSuffix
        rw [if_pos hsf, hb]; simp
      have hL := lines_end b
      rw [← hb] at hL
      have hbl : b.length ≤ s.size := by rw [← hsz, hb]; simp
      rw [hsf, htr] at c1
      have hpl := pieces_lns ⟨b.toArray⟩
      rw [show (⟨b.toArray⟩ : ByteArray).data.toList = b from rfl] at hpl
      have hpn := pieces_len ⟨b.toArray⟩
      have c2 := fun m hm => Tryd.strings_Split ⟨b.toArray⟩ ⟨#[13, 10]⟩ m w (by rw [lsize]; omega) hm (by decide)
      rw [show Lib.countB ⟨b.toArray⟩ ⟨#[13, 10]⟩ + 1 = (pieces ⟨b.toArray⟩).length from hpn.symm, show Lib.splitB ⟨#[13, 10]⟩ 0 (Lib.countB ⟨b.toArray⟩ ⟨#[13, 10]⟩) ⟨b.toArray⟩ = pieces ⟨b.toArray⟩ from rfl] at c2
      have hpb : (pieces ⟨b.toArray⟩).length ≤ 1000001 := by
        have h1 := (lns_sum b).2
        have h2 : (pieces ⟨b.toArray⟩).length = (lns b).length := by rw [← List.length_map (f := (·.data.toList)), hpl]
        omega
      have H := Lib.hid (And.intro hL (And.intro hpl hpb))
      obtain ⟨m, hm⟩ := hm
      have c3 := c2 m hm
      clear hb htr hsf hL hbl hpl hpn c2 hpb hm h0
      generalize pieces ⟨b.toArray⟩ = ps at *
      generalize (⟨b.toArray⟩ : ByteArray) = bb at *
      go_enter Tryd.func17, Tryd.ntmps17
      go_wp2_with (go_at_call 25; refine c1.mono ?_; rintro e w' ⟨rfl, rfl⟩)
      clear c1
      go_wp2_with fail
      refine c3.mono ?_
      rintro e w' ⟨rfl, rfl⟩
      clear c3
      go_wp2
      go_ret2
      refine ⟨_, ps, ret_tup H.out.1.2.symm, .inr ⟨_, _, rfl, Nat.le_refl _, ⟨_, heap_alloc_new _ _, List.take_of_length_le (by simp)⟩, Nat.le_refl _, by have := H.out.2.2; unfold maxLen; omega⟩, ?_, (Below.refl _ _).alloc (Nat.le_refl _) _⟩
      rw [H.out.1.1]; exact H.out.2.1
    · have hsf : Lib.hasSuffix s.data.toList [13, 10] = false := by rw [Bool.eq_false_iff]; exact fun h => hx ((suffix_crlf _).1 h)
      have HL := Lib.hid (lines_no h0 (fun b hb => hx ⟨b, hb⟩))
      rw [hsf] at c1
      clear hsf hx h0 hm
      go_enter Tryd.func17, Tryd.ntmps17
      go_wp2_with (go_at_call 25; refine c1.mono ?_; rintro e w' ⟨rfl, rfl⟩)
      go_ret2
      exact ⟨_, [], ret_tup HL.out.2.symm, .inl ⟨rfl, rfl⟩, HL.out.1.symm, Below.refl _ _⟩
end Go.Proofs.YteiepgbdngamiaaDoor
