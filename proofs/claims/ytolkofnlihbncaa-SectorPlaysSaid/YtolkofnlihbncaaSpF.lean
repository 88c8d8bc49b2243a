/- Package sector's law folder: SectorPlays: what holds between its rounds. -/
import Derived.Test.YtolkofnlihbncaaSpE
set_option linter.unusedVariables false
set_option linter.unusedSimpArgs false
namespace Go.Proofs.Ytolkofnlihbncaa
open Go.RowKit
/-- The disk (block g, bytes in block D) is kd; the document's (variable bm) is km; N sectors; their numbers are at most m. -/
structure PlI (w0 : World) (bm : Nat) (N : Nat) (m : Int) (g D c : Nat) (R : List Value) (kd : Dk) (A : Option Addr) (cc : Nat) (km : Dk) (W : World) : Prop where
  dk : DkAt W g D c R kd
  dn : kd.n = N
  var : W.heap[bm]? = some (.cells #[.slice A N cc, .int .i64 km.cut, .int .i64 km.torn, .int .i64 km.since, .bool km.down, .int .i64 km.all] 44 (0, 0))
  own : SSo W w0.heap.size (.slice A N cc) (secL km)
  ok : km.Ok
  mn : km.n = N
  below : Below w0.heap.size w0 W
  s1 : 0 ≤ kd.since ∧ kd.since ≤ m ∧ 0 ≤ kd.all ∧ kd.all ≤ m
  s2 : 0 ≤ km.since ∧ km.since ≤ m ∧ 0 ≤ km.all ∧ km.all ≤ m
  at_ : w0.heap.size ≤ bm ∧ w0.heap.size ≤ g ∧ w0.heap.size ≤ D
theorem PlI.sliceN {w0 W : World} {bm N g D c cc : Nat} {m : Int} {R : List Value} {kd km : Dk} {A : Option Addr} (h : PlI w0 bm N m g D c R kd A cc km W) : ∃ G, A = some ⟨G, 0, none⟩ ∧ w0.heap.size ≤ G ∧ G < W.heap.size ∧ ∃ cur, W.heap[G]? = some (.cells cur 9 (0, 0)) := by
  have hn : 0 < (secL km).length := by rw [secL_len]; exact h.ok.n1
  rcases h.own.2 with ⟨hv, h1⟩ | ⟨g', cap', cur, hv, hb, hg, _⟩
  · omega
  · obtain ⟨e1, e2, e3⟩ := Value.slice.inj hv
    exact ⟨g', e1, hb, lt_of_block hg, cur, hg⟩
theorem PlI.ne {w0 W : World} {bm N g D c cc : Nat} {m : Int} {R : List Value} {kd km : Dk} {A : Option Addr} (h : PlI w0 bm N m g D c R kd A cc km W) : bm ≠ g ∧ bm ≠ D := by
  refine ⟨fun e => ?_, fun e => ?_⟩
  · have h1 := h.var
    rw [e, h.dk.mem] at h1
    injection h1 with h1
    injection h1 with _ h2
    exact absurd h2 (by decide)
  · have h1 := h.var
    rw [e, h.dk.dat] at h1
    injection h1 with h1
    injection h1 with _ h2
    exact absurd h2 (by decide)
theorem PlI.mono {w0 W W' : World} {bm N g D c cc : Nat} {m m' : Int} {R : List Value} {kd km : Dk} {A : Option Addr} (h : PlI w0 bm N m g D c R kd A cc km W) (hb : Below W.heap.size W W') (hm : m ≤ m') : PlI w0 bm N m' g D c R kd A cc km W' :=
  ⟨h.dk.below hb, h.dn, (hb.block _ (lt_of_block h.var)).trans h.var, h.own.below hb, h.ok, h.mn, h.below.trans (hb.mono h.below.size), by have := h.s1; omega, by have := h.s2; omega, h.at_⟩
/-- The disk turns. -/
theorem PlI.disk {w0 W W' : World} {bm N g D c cc : Nat} {m m' : Int} {R : List Value} {kd kd' km : Dk} {A : Option Addr} (h : PlI w0 bm N m g D c R kd A cc km W) (he : Eff (fun b => b = g ∨ b = D) W W') (hk : DkAt W' g D c R kd') (hn : kd'.n = kd.n) (hm : m ≤ m') (hs : 0 ≤ kd'.since ∧ kd'.since ≤ m' ∧ 0 ≤ kd'.all ∧ kd'.all ≤ m') : PlI w0 bm N m' g D c R kd' A cc km W' := by
  obtain ⟨n1, n2⟩ := h.ne
  refine ⟨hk, hn.trans h.dn, he.heap h.var (fun x => x.elim n1 n2), ?_, h.ok, h.mn, ?_, hs, by have := h.s2; omega, h.at_⟩
  · refine Eff.own he h.own (fun k hk' x => ?_)
    obtain ⟨G, hA, _, _, cur, hc⟩ := h.sliceN
    subst hA
    have hk2 : G = k := by simpa [Value.ownBlock] using hk'
    subst hk2
    rcases x with rfl | rfl
    · have h1 := h.dk.mem
      rw [hc] at h1
      injection h1 with h1
      injection h1 with _ h2
      exact absurd h2 (by decide)
    · have h1 := h.dk.dat
      rw [hc] at h1
      injection h1 with h1
      injection h1 with _ h2
      exact absurd h2 (by decide)
  · exact dk_below h.below he h.at_.2.1 h.at_.2.2
/-- The document's disk turns: the variable is stored anew. -/
theorem PlI.ref {w0 W : World} {bm N g D c cc cc' : Nat} {m m' : Int} {R : List Value} {kd km km' : Dk} {A A' : Option Addr} (h : PlI w0 bm N m g D c R kd A cc km W) (ho : SSo W w0.heap.size (.slice A' N cc') (secL km')) (hok : km'.Ok) (hn : km'.n = km.n) (hm : m ≤ m') (hs : 0 ≤ km'.since ∧ km'.since ≤ m' ∧ 0 ≤ km'.all ∧ km'.all ≤ m') :
    PlI w0 bm N m' g D c R kd A' cc' km' ((((((W.setCell ⟨bm, 0, none⟩ (.slice A' N cc')).setCell ⟨bm, 1, none⟩ (.int .i64 km'.cut)).setCell ⟨bm, 2, none⟩ (.int .i64 km'.torn)).setCell ⟨bm, 3, none⟩ (.int .i64 km'.since)).setCell ⟨bm, 4, none⟩ (.bool km'.down)).setCell ⟨bm, 5, none⟩ (.int .i64 km'.all)) := by
  obtain ⟨n1, n2⟩ := h.ne
  have h6 := six_set h.var (.slice A' N cc') (.int .i64 km'.cut) (.int .i64 km'.torn) (.int .i64 km'.since) (.bool km'.down) (.int .i64 km'.all)
  refine ⟨h.dk.keep h6.2 (fun e => n1 e.symm) (fun e => n2 e.symm), h.dn, h6.1, ?_, hok, hn.trans h.mn, Eff.belowOne h.below h6.2 h.at_.1, by have := h.s1; omega, hs, h.at_⟩
  refine Eff.own h6.2 ho (fun k hk' x => ?_)
  have hx : k = bm := x
  rcases ho.2 with ⟨hv, h1⟩ | ⟨g', cap', cur, hv, hb, hg, _⟩
  · rw [secL_len] at h1; have := hok.n1; omega
  · obtain ⟨e1, e2, e3⟩ := Value.slice.inj hv
    subst e1
    have hk2 : g' = k := by simpa [Value.ownBlock] using hk'
    rw [hk2, hx, h.var] at hg
    injection hg with hg
    injection hg with _ h2
    exact absurd h2 (by decide)
theorem PlI.cells {w0 W : World} {bm N g D c cc : Nat} {m : Int} {R : List Value} {kd km : Dk} {A : Option Addr} (h : PlI w0 bm N m g D c R kd A cc km W) :
    (W.cell? ⟨bm, 0, none⟩ = some (.slice A N cc) ∧ W.cell? ⟨bm, 1, none⟩ = some (.int .i64 km.cut) ∧ W.cell? ⟨bm, 2, none⟩ = some (.int .i64 km.torn) ∧ W.cell? ⟨bm, 3, none⟩ = some (.int .i64 km.since) ∧ W.cell? ⟨bm, 4, none⟩ = some (.bool km.down) ∧ W.cell? ⟨bm, 5, none⟩ = some (.int .i64 km.all)) ∧
    W.frozen? ⟨bm, 0, none⟩ = false ∧ W.frozen? ⟨bm, 1, none⟩ = false ∧ W.frozen? ⟨bm, 2, none⟩ = false ∧ W.frozen? ⟨bm, 3, none⟩ = false ∧ W.frozen? ⟨bm, 4, none⟩ = false ∧ W.frozen? ⟨bm, 5, none⟩ = false := by
  refine ⟨⟨?_, ?_, ?_, ?_, ?_, ?_⟩, ?_, ?_, ?_, ?_, ?_, ?_⟩
  all_goals first
    | exact frozen_of_row _ _ _ _ _ h.var
    | (rw [cell_of_row _ _ _ _ _ _ h.var]; rfl)
theorem Eff.toDisk {g D : Nat} {a b : World} (h : Eff (· = g) a b) : Eff (fun x => x = g ∨ x = D) a b := ⟨h.os, h.tape, h.output, h.size, fun k hk hn => h.block k hk (fun e => hn (.inl e))⟩
theorem dk_cells {w : World} {b : Nat} {c0 c1 c2 c3 c4 c5 : Value} (h : w.heap[b]? = some (.cells #[c0, c1, c2, c3, c4, c5] 44 (0, 0))) :
    w.cell? ⟨b, 0, none⟩ = some c0 ∧ w.cell? ⟨b, 1, none⟩ = some c1 ∧ w.cell? ⟨b, 2, none⟩ = some c2 ∧ w.cell? ⟨b, 3, none⟩ = some c3 ∧ w.cell? ⟨b, 4, none⟩ = some c4 ∧ w.cell? ⟨b, 5, none⟩ = some c5 := by
  refine ⟨?_, ?_, ?_, ?_, ?_, ?_⟩ <;> (rw [cell_of_row _ _ _ _ _ _ h]; rfl)
theorem six_eff {w : World} {b : Nat} (a0 a1 a2 a3 a4 a5 : Value) : Eff (· = b) w ((((((w.setCell ⟨b, 0, none⟩ a0).setCell ⟨b, 1, none⟩ a1).setCell ⟨b, 2, none⟩ a2).setCell ⟨b, 3, none⟩ a3).setCell ⟨b, 4, none⟩ a4).setCell ⟨b, 5, none⟩ a5) :=
  ((((((Eff.refl (· = b) w).setAt 0 a0).setAt 1 a1).setAt 2 a2).setAt 3 a3).setAt 4 a4).setAt 5 a5
theorem writeK_all (k : Dk) (i : Int) (s : List UInt8) : (writeK k i s).since ≤ k.since + 1 ∧ k.since ≤ (writeK k i s).since ∧ (writeK k i s).all ≤ k.all + 1 ∧ k.all ≤ (writeK k i s).all := by
  unfold writeK wroteK
  (repeat' split) <;> simp <;> omega
theorem writeK_ok {k : Dk} (h : k.Ok) (i : Int) (s : List UInt8) : (writeK k i s).Ok := by
  unfold writeK
  split
  · rename_i hc
    have hi : i.toNat < k.n := by omega
    have hl := h.len
    refine ⟨by rw [wroteK_n]; exact h.n1, by rw [wroteK_n]; exact h.n2, ?_⟩
    rw [wrote_data h hi hc.2.2, wroteK_n, putAt_len (by rw [wrT_len h hi hc.2.2]; omega)]
    exact hl
  · exact h
/-- The document's write, whatever it is given. -/
theorem rwrite_any (A : Option Addr) (n c base : Nat) (k : Dk) (i : Int) (s : ByteArray) (w : World) (hk : k.Ok) (hkn : k.n = n) (h : SSo w base (.slice A n c) (secL k)) (hs2 : s.size ≤ 9223372036854775807)
    (b1 : 0 ≤ k.since) (b2 : k.since < 1000000000000) (b3 : 0 ≤ k.all) (b4 : k.all < 1000000000000) (hB : base ≤ w.heap.size) :
    Calls Try.prog 17 #[dkV (.slice A n c) k, .int .i64 i, .string s] w fun e w' => ∃ A' c', e = .returned (.tuple #[dkV (.slice A' n c') (writeK k i s.data.toList), .int .i64 (writeC k i s.data.toList)]) ∧ SSo w' base (.slice A' n c') (secL (writeK k i s.data.toList)) ∧ Below w.heap.size w w' := by
  by_cases hin : k.down = false ∧ (0 ≤ i ∧ i < k.n) ∧ s.size ≤ 64
  · obtain ⟨hd, hi, hs⟩ := hin
    obtain ⟨j, rfl⟩ := Int.eq_ofNat_of_zero_le hi.1
    have hj : j < k.n := by omega
    have hsl : s.data.toList.length ≤ 64 := by rw [bszS]; exact hs
    have e1 : writeK k (j : Int) s.data.toList = wroteK k j s.data.toList := by unfold writeK; rw [if_pos ⟨hd, by omega, hsl⟩]; rfl
    have e2 : writeC k (j : Int) s.data.toList = wroteC k := by unfold writeC; rw [if_neg (by simp [hd]), if_neg (fun hh => hh (by omega)), if_neg (by omega)]
    rw [e1, e2]
    obtain ⟨g, cap, hv, _⟩ := h.row (by rw [secL_len]; omega)
    obtain ⟨e3, e4, e5⟩ := Value.slice.inj hv
    subst e3
    refine (rwrite_in g n c base k j s w hk hkn h hd hj hs b1 b2 b3 b4).mono ?_
    rintro e w' ⟨sl, rfl, ho, hb⟩
    obtain ⟨g', c', rfl, _⟩ := ho.row (by rw [secL_len, wroteK_n]; omega)
    have hl : (secL (wroteK k j s.data.toList)).length = n := by rw [secL_len, wroteK_n, hkn]
    rw [hl] at ho ⊢
    exact ⟨_, _, rfl, ho.mono hB, hb⟩
  · have e1 : writeK k i s.data.toList = k := by unfold writeK; rw [if_neg (by rw [bszS]; exact hin)]
    rw [e1]
    refine (rwrite_no A n c k i s w hkn (by have := hk.n2; omega) hs2 hin).mono ?_
    rintro e w' ⟨rfl, hb⟩
    exact ⟨A, c, rfl, h.below hb, hb⟩
end Go.Proofs.Ytolkofnlihbncaa
