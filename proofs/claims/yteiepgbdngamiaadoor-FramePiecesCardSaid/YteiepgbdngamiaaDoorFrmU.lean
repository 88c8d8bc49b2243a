/- Package frame's law folder: FramePieces: three framers and two rows of lines. -/
import Derived.Test.YteiepgbdngamiaaDoorFrmT
import Derived.Test.YteiepgbdngamiaaDoorFrmN
set_option linter.unusedVariables false
set_option linter.unusedSimpArgs false
namespace Go.Proofs.YteiepgbdngamiaaDoor
open Go.RowKit
structure PcI (w wr : World) (F G H : Nat) (v1 v2 : Value) (r1 r2 : List UInt8) (n1 n2 : Int) (va vb : Value) (la lb : List LnV) : Prop where
  fg : Pair w wr F G v1 v2 r1 r2 n1 n2
  h : FrAt wr H H (.slice none 0 0) [] 0
  ne : H ≠ F ∧ H ≠ G
  low : w.heap.size ≤ H
  a : LV wr w.heap.size va la
  b : LV wr w.heap.size vb lb
  ab : ∀ k, va.ownBlock = some k → ¬ vb.ownBlock = some k
theorem PcI.swap {w wr : World} {F G H : Nat} {v1 v2 va vb : Value} {r1 r2 : List UInt8} {n1 n2 : Int} {la lb : List LnV} (h : PcI w wr F G H v1 v2 r1 r2 n1 n2 va vb la lb) : PcI w wr G F H v2 v1 r2 r1 n2 n1 vb va lb la :=
  ⟨h.fg.swap, h.h, ⟨h.ne.2, h.ne.1⟩, h.low, h.b, h.a, fun k a b => h.ab k b a⟩
theorem nil_own (k : Nat) : (Value.slice none 0 0).ownBlock = some k → False := by simp [Value.ownBlock]
/-- The first framer is fed. -/
theorem PcI.fed {w wr w' : World} {F G H : Nat} {v1 v2 va vb v1' : Value} {r1 r2 r1' : List UInt8} {n1 n2 n1' : Int} {la lb : List LnV} (h : PcI w wr F G H v1 v2 r1 r2 n1 n2 va vb la lb)
    (he : Eff (FS F v1) wr w') (hf : FrAt w' F F v1' r1' n1') (ho : ∀ k, v1'.ownBlock = some k → v1.ownBlock = some k ∨ wr.heap.size ≤ k) : PcI w w' F G H v1' v2 r1' r2 n1' n2 va vb la lb :=
  ⟨h.fg.step he hf ho, h.h.keepF h.fg.f (fun e => h.ne.1 e.symm) (fun k _ => nil_own k) he, h.ne, h.low, h.a.keepF h.fg.f he, h.b.keepF h.fg.f he, h.ab⟩
/-- The first row grows. -/
theorem PcI.grown {w wr w' : World} {F G H : Nat} {v1 v2 va vb va' : Value} {r1 r2 : List UInt8} {n1 n2 : Int} {la lb la' : List LnV} (h : PcI w wr F G H v1 v2 r1 r2 n1 n2 va vb la lb)
    (hl : LV w' w.heap.size va' la') (he : Eff (fun k => va.ownBlock = some k) wr w') (ho : ∀ k, va'.ownBlock = some k → va.ownBlock = some k ∨ wr.heap.size ≤ k) : PcI w w' F G H v1 v2 r1 r2 n1 n2 va' vb la' lb := by
  refine ⟨⟨h.fg.f.keep h.a he, h.fg.g.keep h.a he, h.fg.low, h.fg.ne, h.fg.ap, h.fg.bel.trans (he.to_below h.fg.bel.size fun k hk => (World.ownsRow.lt h.a k hk).1)⟩, h.h.keep h.a he, h.ne, h.low, hl, h.b.eff he fun k hk e => h.ab k e hk, fun k hk e => ?_⟩
  rcases ho k hk with a | a
  · exact h.ab k a e
  · have := (World.ownsRow.lt h.b k e).2; omega
/-- Three new framers. -/
theorem PcI.new {W w w1 w2 w3 : World} (hb : Below W.heap.size W w) (h1 : FrAt w1 w.heap.size w.heap.size (.slice none 0 0) [] 0) (b1 : Below w.heap.size w w1) (h2 : FrAt w2 w1.heap.size w1.heap.size (.slice none 0 0) [] 0) (b2 : Below w1.heap.size w1 w2)
    (h3 : FrAt w3 w2.heap.size w2.heap.size (.slice none 0 0) [] 0) (b3 : Below w2.heap.size w2 w3) :
    PcI W w3 w.heap.size w1.heap.size w2.heap.size (.slice none 0 0) (.slice none 0 0) [] [] 0 0 (.slice none 0 0) (.slice none 0 0) [] [] := by
  have hp := Pair.new hb h1 b1 h2 b2
  have s1 := lt_of_block h1.mem
  have s2 := lt_of_block h2.mem
  have z2 := b2.size
  have z1 := b1.size
  have z0 := hb.size
  exact ⟨⟨hp.f.belowW b3, hp.g.belowW b3, hp.low, hp.ne, hp.ap, hp.bel.trans (b3.mono hp.bel.size)⟩, h3, ⟨by omega, by omega⟩, by omega, LV.nil _ _, LV.nil _ _, fun k hk => (nil_own k hk).elim⟩
end Go.Proofs.YteiepgbdngamiaaDoor
