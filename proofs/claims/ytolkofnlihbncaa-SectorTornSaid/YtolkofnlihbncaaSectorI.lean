/- Package sector's law folder: what holds between the rounds of SectorTorn. -/
import Derived.Test.YtolkofnlihbncaaSectorG
set_option linter.unusedVariables false
set_option linter.unusedSimpArgs false
namespace Go.Proofs.Ytolkofnlihbncaa
open Go.RowKit
def tN (t : Int) : Nat := (max 0 (min t 64)).toNat
/-- Between the rounds: f: the sectors as they were written; tr: which one is torn (-1: none), want: what was to be written there. -/
structure TornI (a t : Int) (m : Int) (f : Nat → List UInt8) (k : Dk) (tr : Int) (want : ByteArray) : Prop where
  n : k.n = 8
  ok : k.Ok
  fl : ∀ i, i < 8 → (f i).length = 64
  since : 0 ≤ k.since ∧ k.since ≤ m
  all : 0 ≤ k.all ∧ k.all ≤ m
  st : (k.down = false ∧ tr = -1 ∧ k.cut = (if a < 1 then 0 else a) ∧ k.torn = (if a < 1 then 0 else t) ∧ (k.cut = 0 ∨ k.since < k.cut) ∧ ∀ i, i < 8 → sec k i = f i) ∨
    (k.down = true ∧ ∃ x : Nat, x < 8 ∧ tr = (x : Int) ∧ ∃ y : List UInt8, y.length = 64 ∧ want = ⟨y.toArray⟩ ∧ sec k x = y.take (tN t) ++ (f x).drop (tN t) ∧ ∀ i, i < 8 → i ≠ x → sec k i = f i)
def upd (f : Nat → List UInt8) (a : Nat) (x : List UInt8) (i : Nat) : List UInt8 := if i = a then x else f i
theorem TornI.mono {a t m : Int} {f : Nat → List UInt8} {k : Dk} {tr : Int} {want : ByteArray} (h : TornI a t m f k tr want) : TornI a t (m + 1) f k tr want :=
  ⟨h.n, h.ok, h.fl, ⟨h.since.1, by have := h.since; omega⟩, ⟨h.all.1, by have := h.all; omega⟩, h.st⟩
theorem TornI.miss {a t m : Int} {f : Nat → List UInt8} {k : Dk} {tr : Int} {want : ByteArray} (h : TornI a t m f k tr want) (hd : k.down = false) (hc : k.cut ≠ k.since + 1) {i : Nat} (hi : i < 8) {s : List UInt8} (hs : s.length ≤ 64) :
    TornI a t (m + 1) (upd f i (fill s)) (wroteK k i s) tr want := by
  have hlen := h.ok.len
  have hsp := fun j (hj : j < 8) => sec_put (k := k) (k' := wroteK k i s) h.ok (a := i) (by rw [h.n]; exact hi) (x := fill s) (fill_len hs) (by rw [wroteK_miss hc]) (by rw [wroteK_miss hc]) (i := j) (by rw [h.n]; exact hj)
  rw [wroteK_miss hc] at hsp ⊢
  have hfit : i * 64 + (fill s).length ≤ k.data.length := by rw [fill_len hs, hlen, h.n]; omega
  have hs1 := h.since; have ha1 := h.all
  refine ⟨h.n, ⟨h.ok.n1, h.ok.n2, by show (putAt _ _ _).length = _; rw [putAt_len hfit]; exact hlen⟩, fun j hj => ?_, ⟨by show 0 ≤ k.since + 1; omega, by show k.since + 1 ≤ _; omega⟩, ⟨by show 0 ≤ k.all + 1; omega, by show k.all + 1 ≤ _; omega⟩, .inl ?_⟩
  · unfold upd; split
    · exact fill_len hs
    · exact h.fl j hj
  · rcases h.st with ⟨_, h1, h2, h3, h4, h5⟩ | ⟨hd', _⟩
    · refine ⟨hd, h1, h2, h3, ?_, fun j hj => ?_⟩
      · show k.cut = 0 ∨ k.since + 1 < k.cut
        rcases h4 with h4 | h4
        · exact .inl h4
        · exact .inr (by omega)
      · rw [hsp j hj]
        unfold upd; split
        · rfl
        · exact h5 j hj
    · rw [hd] at hd'; cases hd'
theorem putAt_part (d : List UInt8) (o : Nat) (x : List UInt8) (n : Nat) (h : o + x.length ≤ d.length) : putAt d o (x.take n) = putAt d o (x.take n ++ ((d.drop o).take x.length).drop n) := by
  refine List.ext_getElem? fun m => ?_
  have hx1 : (x.take n).length = min n x.length := List.length_take
  have hx2 : (x.take n ++ ((d.drop o).take x.length).drop n).length = x.length := by simp; omega
  rw [putAt_get _ _ _ _ (by omega), putAt_get _ _ _ _ (by omega), hx1, hx2]
  by_cases h1 : m < o
  · rw [if_pos h1, if_pos h1]
  · rw [if_neg h1, if_neg h1]
    by_cases h2 : m < o + min n x.length
    · rw [if_pos h2, if_pos (by omega), List.getElem?_append, if_pos (by omega)]
    · rw [if_neg h2]
      by_cases h3 : m < o + x.length
      · rw [if_pos h3, List.getElem?_append, if_neg (by omega), hx1, List.getElem?_drop, List.getElem?_take, List.getElem?_drop]
        rw [if_pos (by omega)]
        congr 1; omega
      · rw [if_neg h3]
theorem TornI.hit {a t m : Int} {f : Nat → List UInt8} {k : Dk} {tr : Int} {want : ByteArray} (h : TornI a t m f k tr want) (hd : k.down = false) (hc : k.cut = k.since + 1) {i : Nat} (hi : i < 8) {s : List UInt8} (hs : s.length ≤ 64) :
    TornI a t (m + 1) f (wroteK k i s) (i : Int) ⟨(fill s).toArray⟩ := by
  rcases h.st with ⟨_, h1, h2, h3, h4, h5⟩ | ⟨hd', _⟩
  rotate_left
  · rw [hd] at hd'; cases hd'
  have hs1 := h.since; have ha1 := h.all
  have ha : ¬ a < 1 := by intro hh; rw [if_pos hh] at h2; omega
  rw [if_neg ha] at h2 h3
  have htn : tornN k = tN t := by unfold tornN tN; rw [h3]
  have hlen := h.ok.len
  have hfit : i * 64 + (fill s).length ≤ k.data.length := by rw [fill_len hs, hlen, h.n]; omega
  have hfi := h5 i hi
  have hsec : (k.data.drop (i * 64)).take (fill s).length = f i := by rw [fill_len hs]; exact hfi
  have hp : putAt k.data (i * 64) ((fill s).take (tN t)) = putAt k.data (i * 64) ((fill s).take (tN t) ++ (f i).drop (tN t)) := by
    rw [putAt_part _ _ _ _ hfit, hsec]
  have hl64 : ((fill s).take (tN t) ++ (f i).drop (tN t)).length = 64 := by
    have := h.fl i hi; have := fill_len hs
    simp; omega
  have hda : (wroteK k i s).data = putAt k.data (i * 64) ((fill s).take (tN t) ++ (f i).drop (tN t)) := by rw [wroteK_hit hc, htn, ← hp]
  have hsp := fun j (hj : j < 8) => sec_put (k := k) (k' := wroteK k i s) h.ok (a := i) (by rw [h.n]; exact hi) hl64 (by rw [wroteK_hit hc]) hda (i := j) (by rw [h.n]; exact hj)
  rw [wroteK_hit hc, htn, hp] at hsp ⊢
  refine ⟨h.n, ⟨h.ok.n1, h.ok.n2, by show (putAt _ _ _).length = _; rw [putAt_len (by rw [hl64, hlen, h.n]; omega)]; exact hlen⟩, h.fl, ⟨by show 0 ≤ k.since + 1; omega, by show k.since + 1 ≤ _; omega⟩, ⟨by show 0 ≤ k.all + 1; omega, by show k.all + 1 ≤ _; omega⟩, .inr ⟨rfl, i, hi, rfl, fill s, fill_len hs, rfl, ?_, fun j hj hne => ?_⟩⟩
  · rw [hsp i hi, if_pos rfl]
  · rw [hsp j hj, if_neg hne]
    exact h5 j hj
theorem Kept.upd {w : World} {b : Nat} {f : Nat → List UInt8} (h : Kept w b (fun i => ⟨(f i).toArray⟩) 8) {a : Nat} (ha : a < 8) (x : List UInt8) : Kept (w.setCell ⟨b, a, none⟩ (.string ⟨x.toArray⟩)) b (fun i => ⟨(Go.Proofs.Ytolkofnlihbncaa.upd f a x i).toArray⟩) 8 := by
  obtain ⟨cs, hl, hh, hc⟩ := h
  refine ⟨cs.set a (.string ⟨x.toArray⟩), by simp [hl], by rw [setCell_heap hh, List.setIfInBounds_toArray], fun i hi => ?_⟩
  rw [List.getElem?_set]
  by_cases e : a = i
  · subst e; simp [hl, ha, Go.Proofs.Ytolkofnlihbncaa.upd]
  · rw [if_neg e, hc i hi]
    simp only [Go.Proofs.Ytolkofnlihbncaa.upd]
    rw [if_neg (fun h => e h.symm)]
end Go.Proofs.Ytolkofnlihbncaa
