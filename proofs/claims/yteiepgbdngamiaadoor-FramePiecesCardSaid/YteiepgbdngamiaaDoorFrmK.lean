/- Package frame's law folder: several framers. -/
import Derived.Test.YteiepgbdngamiaaDoorFrmJ
set_option linter.unusedVariables false
set_option linter.unusedSimpArgs false
namespace Go.Proofs.YteiepgbdngamiaaDoor
open Go.RowKit
/-- Two framers that share nothing. -/
structure Pair (W0 w : World) (F G : Nat) (v1 v2 : Value) (r1 r2 : List UInt8) (n1 n2 : Int) : Prop where
  f : FrAt w F F v1 r1 n1
  g : FrAt w G G v2 r2 n2
  low : W0.heap.size ≤ F ∧ W0.heap.size ≤ G
  ne : F ≠ G
  ap : ∀ k, v1.ownBlock = some k → ¬ v2.ownBlock = some k
  bel : Below W0.heap.size W0 w
theorem Pair.swap {W0 w : World} {F G : Nat} {v1 v2 : Value} {r1 r2 : List UInt8} {n1 n2 : Int} (h : Pair W0 w F G v1 v2 r1 r2 n1 n2) : Pair W0 w G F v2 v1 r2 r1 n2 n1 :=
  ⟨h.g, h.f, ⟨h.low.2, h.low.1⟩, fun e => h.ne e.symm, fun k a b => h.ap k b a, h.bel⟩
theorem FrAt.keepF {w w' : World} {F G B1 B2 : Nat} {v1 v2 : Value} {r1 r2 : List UInt8} {n1 n2 : Int} (h : FrAt w G B2 v2 r2 n2) (h1 : FrAt w F B1 v1 r1 n1) (hne : F ≠ G) (hap : ∀ k, v1.ownBlock = some k → ¬ v2.ownBlock = some k) (he : Eff (FS F v1) w w') : FrAt w' G B2 v2 r2 n2 := by
  refine h.eff he ?_ fun k hk e => ?_
  · rintro (e | e)
    · exact hne e.symm
    · exact block_apart h.mem h1.own frNe8 e
  · rcases e with e | e
    · subst e; exact block_apart h1.mem h.own frNe8 hk
    · exact hap k e hk
theorem LV.keepF {w w' : World} {F B1 B : Nat} {v1 v : Value} {r1 : List UInt8} {n1 : Int} {ls : List LnV} (h : LV w B v ls) (h1 : FrAt w F B1 v1 r1 n1) (he : Eff (FS F v1) w w') : LV w' B v ls := by
  refine h.eff he fun k hk e => ?_
  rcases e with e | e
  · subst e; exact block_apart h1.mem h frNeL hk
  · exact own_apart h h1.own lnNe8 k hk e
theorem Pair.step {W0 w w' : World} {F G : Nat} {v1 v2 v1' : Value} {r1 r2 r1' : List UInt8} {n1 n2 n1' : Int} (h : Pair W0 w F G v1 v2 r1 r2 n1 n2) (he : Eff (FS F v1) w w') (hf : FrAt w' F F v1' r1' n1') (ho : ∀ k, v1'.ownBlock = some k → v1.ownBlock = some k ∨ w.heap.size ≤ k) : Pair W0 w' F G v1' v2 r1' r2 n1' n2 := by
  refine ⟨hf, h.g.keepF h.f h.ne h.ap he, h.low, h.ne, fun k hk e => ?_, h.bel.trans (FS.below he h.bel.size h.low.1 fun k hk => Nat.le_trans h.low.1 (h.f.ownB k hk))⟩
  rcases ho k hk with a | a
  · exact h.ap k a e
  · have := (World.ownsRow.lt h.g.own k e).2; omega
def PairFeed (W0 : World) (F G : Nat) (v2 : Value) (r1 r2 : List UInt8) (n1 n2 : Int) (s : List UInt8) (w : World) (e : Ending) (w' : World) : Prop :=
  ∃ vo v', e = .returned vo ∧ LV w' w.heap.size vo ((initL (r1 ++ s)).map mkLn) ∧ Pair W0 w' F G v' v2 (restL (r1 ++ s)) r2 (n1 + s.length) n2 ∧ (∀ B v ls, LV w B v ls → LV w' B v ls)
theorem Pair.feed {W0 w : World} {F G : Nat} {v1 v2 : Value} {r1 r2 : List UInt8} {n1 n2 : Int} (h : Pair W0 w F G v1 v2 r1 r2 n1 n2) (s : ByteArray) (hr : IR r1 [] r1) (hf1 : 0 ≤ n1) (hf2 : n1 ≤ 1000000000) (hrl : r1.length ≤ 1000000) (hs : s.size ≤ 1000000) :
    Calls Tryd.prog 13 #[.pointer (some ⟨F, 0, none⟩), .string s] w (PairFeed W0 F G v2 r1 r2 n1 n2 s.data.toList w) := by
  refine (feed_any F F v1 r1 n1 s w h.f hr (Nat.le_of_lt (lt_of_block h.f.mem)) hf1 hf2 hrl hs).mono fun e w' hh => ?_
  obtain ⟨vo, v', a, b, c, d, o⟩ := hh
  exact ⟨vo, v', a, b, h.step d c o, fun B v ls hl => hl.keepF h.f d⟩
def PairFeed2 (W0 : World) (F G : Nat) (v1 : Value) (r1 r2 : List UInt8) (n1 n2 : Int) (s : List UInt8) (w : World) (e : Ending) (w' : World) : Prop :=
  ∃ vo v', e = .returned vo ∧ LV w' w.heap.size vo ((initL (r2 ++ s)).map mkLn) ∧ Pair W0 w' F G v1 v' r1 (restL (r2 ++ s)) n1 (n2 + s.length) ∧ (∀ B v ls, LV w B v ls → LV w' B v ls)
theorem Pair.feed2 {W0 w : World} {F G : Nat} {v1 v2 : Value} {r1 r2 : List UInt8} {n1 n2 : Int} (h : Pair W0 w F G v1 v2 r1 r2 n1 n2) (s : ByteArray) (hr : IR r2 [] r2) (hf1 : 0 ≤ n2) (hf2 : n2 ≤ 1000000000) (hrl : r2.length ≤ 1000000) (hs : s.size ≤ 1000000) :
    Calls Tryd.prog 13 #[.pointer (some ⟨G, 0, none⟩), .string s] w (PairFeed2 W0 F G v1 r1 r2 n1 n2 s.data.toList w) := by
  refine (h.swap.feed s hr hf1 hf2 hrl hs).mono fun e w' hh => ?_
  obtain ⟨vo, v', a, b, c, d⟩ := hh
  exact ⟨vo, v', a, b, c.swap, d⟩
theorem Pair.reset {W0 w : World} {F G : Nat} {v1 v2 : Value} {r1 r2 : List UInt8} {n1 n2 : Int} (h : Pair W0 w F G v1 v2 r1 r2 n1 n2) :
    Calls Tryd.prog 12 #[.pointer (some ⟨F, 0, none⟩)] w fun e w' => e = .returned (.tuple #[]) ∧ Pair W0 w' F G (.slice none 0 0) v2 [] r2 n1 n2 := by
  refine (reset_any F F v1 r1 n1 w h.f).mono fun e w' hh => ?_
  obtain ⟨a, b, c⟩ := hh
  exact ⟨a, h.step (c.mono fun k _ hk => .inl hk) b fun k hk => by simp [Value.ownBlock] at hk⟩
/-- Two new framers. -/
theorem Pair.new {W0 w w1 w2 : World} (hb : Below W0.heap.size W0 w) (h1 : FrAt w1 w.heap.size w.heap.size (.slice none 0 0) [] 0) (b1 : Below w.heap.size w w1) (h2 : FrAt w2 w1.heap.size w1.heap.size (.slice none 0 0) [] 0) (b2 : Below w1.heap.size w1 w2) :
    Pair W0 w2 w.heap.size w1.heap.size (.slice none 0 0) (.slice none 0 0) [] [] 0 0 := by
  have hs := lt_of_block h1.mem
  have hz := hb.size
  have hz1 := b1.size
  exact ⟨h1.belowW b2, h2, ⟨hz, by omega⟩, by omega, fun k hk => by simp [Value.ownBlock] at hk, hb.trans ((b1.mono hz).trans (b2.mono (by omega)))⟩
theorem IR.rest (s : List UInt8) : IR (restL s) [] (restL s) := by
  have h := IR.of s
  have := lns_noEnd s (restL s) (by unfold IR at h; rw [h]; simp)
  exact this
theorem rest_len (s : List UInt8) : (restL s).length ≤ s.length := by
  have h := congrArg List.length (whole s)
  simp at h; omega
theorem init_few (s : List UInt8) : (initL s).length ≤ s.length := by
  have := ended_init_len s
  have h2 : ∀ I : List (List UInt8), I.length ≤ (ended I).length := by
    intro I
    induction I with
    | nil => simp [ended]
    | cons a b ih => simp [ended]; omega
  exact Nat.le_trans (h2 _) this
/-- A line's own text, if it isn't long. -/
theorem mkLn_cases (x : List UInt8) : (998 < x.length ∧ mkLn x = (⟨#[]⟩, true)) ∨ (x.length ≤ 998 ∧ mkLn x = (⟨x.toArray⟩, false)) := by
  unfold mkLn
  by_cases h : 998 < x.length
  · left; exact ⟨h, by rw [if_pos h]⟩
  · right; exact ⟨by omega, by rw [if_neg h]⟩
end Go.Proofs.YteiepgbdngamiaaDoor
