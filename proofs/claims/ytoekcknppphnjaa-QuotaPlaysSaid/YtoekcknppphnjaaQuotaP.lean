/- Package quota's law folder: QuotaPlays: what holds between the rounds. -/
import Derived.Test.YtoekcknppphnjaaQuotaO
set_option linter.unusedVariables false
set_option linter.unusedSimpArgs false
namespace Go.Proofs.Ytoekcknppphnjaa
open Go.RowKit
theorem own_ne {w : World} {base : Nat} {e T : TypeId} {size n c g b : Nat} {xs : List Value} {cs : Array Value} {fr : Nat × Nat} (h : w.ownsRow base e size (.slice (some ⟨g, 0, none⟩) n c) n xs) (hb : w.heap[b]? = some (.cells cs T fr)) (hne : e ≠ T) : g ≠ b := by
  rintro rfl
  rcases h.2 with ⟨h', _⟩ | ⟨g', cp, cur, h', _, hh, _⟩
  · simp at h'
  · simp only [Value.slice.injEq, Option.some.injEq, Addr.mk.injEq, and_true, true_and] at h'
    obtain ⟨rfl, _⟩ := h'
    rw [hh] at hb
    simp at hb
    exact hne hb.2.1
theorem OwnI.ne {w : World} {base g n c b : Nat} {xs : List Int} {cs : Array Value} {T : TypeId} {fr : Nat × Nat} (h : OwnI w base (.slice (some ⟨g, 0, none⟩) n c) xs) (hl : xs.length = n) (hb : w.heap[b]? = some (.cells cs T fr)) (hne : 3 ≠ T) : g ≠ b := by
  unfold OwnI at h
  rw [hl] at h
  exact own_ne h hb hne
theorem RefB.eff {w w' : World} {gB cB gT cT b : Nat} {k : Book} {cs : Array Value} {T : TypeId} {fr : Nat × Nat} (h : RefB w gB cB gT cT k) (ho : k.Ok) (he : Eff (· = b) w w') (hb : w.heap[b]? = some (.cells cs T fr)) (hne : 3 ≠ T) : RefB w' gB cB gT cT k := by
  have := ho.lb; have := ho.lt; have := ho.le
  refine ⟨he.own h.b fun x hx => ?_, he.own h.t fun x hx => ?_⟩
  · simp [Value.ownBlock] at hx; subst hx
    exact h.b.ne (by simp; omega) hb hne
  · simp [Value.ownBlock] at hx; subst hx
    exact h.t.ne (by simp; omega) hb hne
/-- What holds of the program's book (block g), the reference's (the variable at block N, its rows) and the world: both say the same. -/
structure Inv (w0 w : World) (N g gB cB gT cT : Nat) (k : Book) : Prop where
  below : Below w0.heap.size w0 w
  hN : w0.heap.size ≤ N
  hg : w0.heap.size ≤ g
  mem : w.heap[N]? = some (.cells #[.slice (some ⟨gB, 0, none⟩) k.L cB, .slice (some ⟨gT, 0, none⟩) k.L cT] 30 (0, 0))
  bk : Bk w g k
  rf : RefB w gB cB gT cT k
  pos : 1 ≤ k.L
theorem Inv.ne {w0 w : World} {N g gB cB gT cT : Nat} {k : Book} (h : Inv w0 w N g gB cB gT cT k) : g ≠ N := by
  rintro rfl
  have h1 := h.bk.heap
  rw [h.mem] at h1
  simp at h1
theorem Inv.keep {w0 w w' : World} {N g gB cB gT cT : Nat} {k : Book} (h : Inv w0 w N g gB cB gT cT k) (hb : Below w.heap.size w w') : Inv w0 w' N g gB cB gT cT k :=
  ⟨h.below.trans (hb.mono h.below.size), h.hN, h.hg, (hb.block _ (lt_of_block h.mem)).trans h.mem, h.bk.keep hb, h.rf.below hb, h.pos⟩
theorem Inv.drewN {w0 w : World} {N g gB cB gT cT : Nat} {k : Book} (h : Inv w0 w N g gB cB gT cT k) (n : Nat) : Inv w0 (w.drewN n) N g gB cB gT cT k := h.keep ⟨rfl, rfl, rfl, Nat.le_refl _, fun _ _ => rfl⟩
theorem Inv.alloc {w0 w : World} {N g gB cB gT cT : Nat} {k : Book} (h : Inv w0 w N g gB cB gT cT k) (o : Obj) : Inv w0 (w.alloc o) N g gB cB gT cT k := h.keep ((Below.refl _ _).alloc (Nat.le_refl _) _)
/-- The program's book has turned to k'; the reference's not yet. -/
structure Half (w0 w : World) (N g gB cB gT cT : Nat) (k k' : Book) : Prop where
  below : Below w0.heap.size w0 w
  hN : w0.heap.size ≤ N
  hg : w0.heap.size ≤ g
  mem : w.heap[N]? = some (.cells #[.slice (some ⟨gB, 0, none⟩) k.L cB, .slice (some ⟨gT, 0, none⟩) k.L cT] 30 (0, 0))
  bk : Bk w g k'
  ok : k.Ok
  rf : RefB w gB cB gT cT k
  pos : 1 ≤ k.L
theorem Inv.half {w0 w w' : World} {N g gB cB gT cT : Nat} {k k' : Book} (h : Inv w0 w N g gB cB gT cT k) (he : Eff (· = g) w w') (hb : Bk w' g k') : Half w0 w' N g gB cB gT cT k k' :=
  ⟨Eff.below (S := (· = g)) h.below he h.below.size (fun x hx => by subst hx; exact h.hg), h.hN, h.hg, he.heap h.mem (fun e => h.ne e.symm), hb, h.bk.ok, h.rf.eff h.bk.ok he h.bk.heap (by decide), h.pos⟩
/-- The reference has answered; its answer is stored. -/
theorem Half.stored {w0 w w' : World} {N g gB cB gT cT gT' cT' : Nat} {k k' : Book} (h : Half w0 w N g gB cB gT cT k k') (hb : Below w.heap.size w w') (hr : RefB w' gB cB gT' cT' k') (hL : k'.L = k.L) :
    Inv w0 ((w'.setCell ⟨N, 0, none⟩ (.slice (some ⟨gB, 0, none⟩) k.L cB)).setCell ⟨N, 1, none⟩ (.slice (some ⟨gT', 0, none⟩) k.L cT')) N g gB cB gT' cT' k' := by
  have hm := (hb.block _ (lt_of_block h.mem)).trans h.mem
  have he : Eff (· = N) w' ((w'.setCell ⟨N, 0, none⟩ (.slice (some ⟨gB, 0, none⟩) k.L cB)).setCell ⟨N, 1, none⟩ (.slice (some ⟨gT', 0, none⟩) k.L cT')) := Eff.setAt' (Eff.setAt' (Eff.refl _ _) _ _) _ _
  have hbk := h.bk.keep hb
  have hne : g ≠ N := by
    rintro rfl
    have h1 := hbk.heap
    rw [hm] at h1
    simp at h1
  refine ⟨Eff.below (S := (· = N)) (h.below.trans (hb.mono h.below.size)) he (Nat.le_trans h.below.size hb.size) (fun x hx => by subst hx; exact h.hN), h.hN, h.hg, ?_, hbk.eff he hne, hr.eff hbk.ok he hm (by decide), by rw [hL]; exact h.pos⟩
  rw [setCell_heap (cs := #[.slice (some ⟨gB, 0, none⟩) k.L cB, .slice (some ⟨gT, 0, none⟩) k.L cT]) (T := 30) (fr := (0, 0))]
  · rw [hL]; rfl
  · rw [setCell_heap hm]; rfl
/-- A copy was made, and the old book was written. -/
theorem Inv.copied {w0 w w' w'' : World} {N g gB cB gT cT : Nat} {k k' : Book} (h : Inv w0 w N g gB cB gT cT k) (hb : Below w.heap.size w w') (hc : Bk w' w.heap.size k) (he : Eff (· = g) w' w'') (_hk : Bk w'' g k') : Inv w0 w'' N w.heap.size gB cB gT cT k := by
  have h1 := h.keep hb
  have hg2 : w.heap.size ≠ g := by have := h.bk.lt; omega
  exact ⟨Eff.below (S := (· = g)) h1.below he h1.below.size (fun x hx => by subst hx; exact h.hg), h.hN, h.below.size, he.heap h1.mem (fun e => h1.ne e.symm), hc.eff he hg2, h1.rf.eff h1.bk.ok he h1.bk.heap (by decide), h.pos⟩
end Go.Proofs.Ytoekcknppphnjaa
