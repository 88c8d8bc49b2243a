/- strings.Builder: what a writer leaves alone, said block by block: all but the builder's own block and what lies from B0 on (its buffer lies there). -/
import Derived.Test.YtlgkghpdmiageaaDoorBuild
import Derived.Test.YtlgkghpdmiageaaDoorChg
import Derived.RangeFuncOwn
set_option linter.unusedVariables false
set_option linter.unusedSimpArgs false
namespace Go.Proofs.YtlgkghpdmiageaaDoor
open Go.RowKit
/-- A builder in block b, its buffer from block B0 on. -/
structure BW (w : World) (B0 b : Nat) (p v : Value) (l : List UInt8) : Prop where
  lt : b < B0
  mem : w.heap[b]? = some (.cells #[p, v] 44 (0, 0))
  own : w.ownsRowF B0 5 1 v (Lib.byteCells l).length (Lib.byteCells l)
  ptr : p = .pointer none ∨ p = .pointer (some ⟨b, 0, none⟩)
theorem BW.ne {w : World} {B0 b : Nat} {p v : Value} {l : List UInt8} (h : BW w B0 b p v l) : v.ownBlock ≠ some b := fun e => by
  have := (h.own.lt b e).1; have := h.lt; omega
theorem ownsRowF_mono {w : World} {B B' : Nat} {e : TypeId} {s n : Nat} {v : Value} {xs : List Value} (h : w.ownsRowF B e s v n xs) (hb : B' ≤ B) : w.ownsRowF B' e s v n xs := by
  refine ⟨h.1, ?_⟩
  rcases h.2 with hn | ⟨g, cap, cur, fz, hv, hg, r⟩
  · exact .inl hn
  · exact .inr ⟨g, cap, cur, fz, hv, by omega, r⟩
theorem BW.bb {w : World} {B0 B b : Nat} {p v : Value} {l : List UInt8} (h : BW w B0 b p v l) (hB : B ≤ b) : BB w B b l := by
  have hl := h.lt
  rcases h.ptr with e | e
  · exact .inl ⟨hB, v, by rw [h.mem, e], ownsRowF_mono h.own (by omega), h.ne⟩
  · exact .inr ⟨hB, v, by rw [h.mem, e], ownsRowF_mono h.own (by omega), h.ne⟩
/-- What a writer may change. -/
def BS2 (B0 b : Nat) (k : Nat) : Prop := k = b ∨ B0 ≤ k
theorem check_v (B0 b : Nat) (p v : Value) (l : List UInt8) (w : World) (h : BW w B0 b p v l) :
    Calls Tryd.prog 35 #[.pointer (some ⟨b, 0, none⟩)] w fun e w' => e = .returned (.tuple #[]) ∧ BW w' B0 b (.pointer (some ⟨b, 0, none⟩)) v l ∧ Eff (BS2 B0 b) w w' ∧ KeepsOthers w w' := by
  rcases h.ptr with e | e
  · subst e
    have hx : Lib.BuilderAtF 44 5 0 b (.pointer none) (Lib.byteCells l) w := ⟨Nat.zero_le _, v, h.mem, ownsRowF_mono h.own (Nat.zero_le _), h.ne⟩
    refine (check_fresh b w hx.cell0 hx.shape hx.frozen0).mono ?_
    rintro e w' ⟨rfl, rfl⟩
    have he : Eff (BS2 B0 b) w (w.setCell ⟨b, 0, none⟩ (.pointer (some ⟨b, 0, none⟩))) := Eff.setCell (S := BS2 B0 b) (Eff.refl _ _) (p := ⟨b, 0, none⟩) (fun _ => .inl rfl) _
    refine ⟨rfl, ⟨h.lt, (setCell_heap h.mem 0 _).trans rfl, ?_, .inr rfl⟩, he, KeepsOthers.setCell _ _ _⟩
    exact h.own.kept (row := some b) ⟨rfl, rfl, rfl, by simp, fun i _ hi => Below.heap_setCell _ _ _ _ (fun e => hi (congrArg some e))⟩ (by right; exact h.ne)
  · subst e
    have hx : Lib.BuilderAtF 44 5 0 b (.pointer (some ⟨b, 0, none⟩)) (Lib.byteCells l) w := ⟨Nat.zero_le _, v, h.mem, ownsRowF_mono h.own (Nat.zero_le _), h.ne⟩
    refine (check_used b w hx.cell0).mono ?_
    rintro e w' ⟨rfl, rfl⟩
    exact ⟨rfl, h, Eff.refl _ _, KeepsOthers.refl _⟩
theorem BW.cells {w : World} {B0 b : Nat} {p v : Value} {l : List UInt8} (h : BW w B0 b p v l) : w.cell? ⟨b, 0, none⟩ = some p ∧ w.cell? ⟨b, 1, none⟩ = some v ∧ w.frozen? ⟨b, 1, none⟩ = false :=
  ⟨by rw [Lib.cell_of_heap h.mem]; rfl, by rw [Lib.cell_of_heap h.mem]; rfl, Lib.frozen_of_heap h.mem 1⟩
def WrPost (B0 b : Nat) (l : List UInt8) (w w' : World) : Prop :=
  ∃ v', BW w' B0 b (.pointer (some ⟨b, 0, none⟩)) v' l ∧ Eff (BS2 B0 b) w w' ∧ KeepsOthers w w'
/-- Behind the append and the store. -/
theorem wr_done {B0 b : Nat} {v v' : Value} {l m : List UInt8} {w w1 w2 : World} (h1 : BW w1 B0 b (.pointer (some ⟨b, 0, none⟩)) v l) (he1 : Eff (BS2 B0 b) w w1) (hk1 : KeepsOthers w w1)
    (hown' : w2.ownsRowF B0 5 1 v' (Lib.byteCells m).length (Lib.byteCells m)) (hg : w1.grownBy w2 v.ownBlock) : WrPost B0 b m w (w2.setCell ⟨b, 1, none⟩ v') := by
  have hlt : b < w1.heap.size := lt_of_block h1.mem
  have hl := h1.lt
  have hb2 : w2.heap[b]? = some (.cells #[.pointer (some ⟨b, 0, none⟩), v] 44 (0, 0)) := (hg.block b hlt (fun e => h1.ne e.symm)).trans h1.mem
  have hne : v'.ownBlock ≠ some b := fun e => by have := (hown'.lt b e).1; omega
  refine ⟨v', ⟨h1.lt, (setCell_heap hb2 1 _).trans rfl, ?_, .inr rfl⟩, ?_⟩
  · exact hown'.kept (row := some b) ⟨rfl, rfl, rfl, by simp, fun i _ hi => Below.heap_setCell _ _ _ _ (fun e => hi (congrArg some e))⟩ (by right; exact hne)
  · refine ⟨Eff.setCell (S := BS2 B0 b) (Eff.grown he1 hg (fun k e _ => .inr (h1.own.lt k e).1)) (p := ⟨b, 1, none⟩) (fun _ => .inl rfl) _, (hk1.trans (KeepsOthers.of_grownBy hg fun j o e ho => ?_)).trans (KeepsOthers.setCell _ _ _)⟩
    rcases h1.own.2 with ⟨hv, _⟩ | ⟨g, cap, cur, fz, hv, _, hh, _⟩
    · rw [hv] at e; simp [Value.ownBlock] at e
    · rw [hv] at e
      simp [Value.ownBlock] at e
      subst e
      rw [hh] at ho
      cases ho
      rfl
theorem ownF_shape {w : World} {B : Nat} {e : TypeId} {s n : Nat} {v : Value} {xs : List Value} (h : w.ownsRowF B e s v n xs) : ∃ ao n' cap, v = .slice ao n' cap := by
  rcases h.2 with ⟨hv, _⟩ | ⟨g, cap, cur, fz, hv, _⟩
  · exact ⟨_, _, _, hv⟩
  · exact ⟨_, _, _, hv⟩
set_option maxHeartbeats 2000000 in
set_option maxRecDepth 100000 in
theorem wstr2 (B0 b : Nat) (p v : Value) (l : List UInt8) (s : ByteArray) (w : World) (h : BW w B0 b p v l) (hlen : l.length + s.size ≤ 140737488355328) (hBw : B0 ≤ w.heap.size) :
    Calls Tryd.prog 26 #[.pointer (some ⟨b, 0, none⟩), .string s] w fun e w' => e = .returned (.tuple #[.int .i64 s.size, .nilIface]) ∧ WrPost B0 b (l ++ s.data.toList) w w' := by
  obtain ⟨i0, hi, hz0, hz1, hz2⟩ := info_parts infoU8
  have hlen' : (Lib.byteCells l).length + s.size ≤ 140737488355328 := by rw [Lib.byteCells_length]; exact hlen
  have hcat := Lib.hid (byteCells_cat l s)
  go_enter Tryd.func26, Tryd.ntmps26
  go_wp2_with fail
  refine (check_v B0 b p v l w h).mono ?_
  rintro e w1 ⟨rfl, h1, he1, hk1⟩
  obtain ⟨c0, c1, f1⟩ := h1.cells
  have hown := h1.own
  have hz := he1.size
  have H1 := Lib.hid (And.intro h1 (And.intro he1 hk1))
  clear h1 he1 hk1 h f1
  go_wp2_with (at_builtin; refine Lib.wpList_append_own_stringF _ rfl _ _ 36 9 rfl B0 5 i0 Tryd.underlying36 Tryd.underlying9 hi hz0 hz1 hz2 _ _ _ rfl hown s rfl ?c3 ?c4 ?c5 ?_)
  case c3 => unfold maxLen; omega
  case c4 => omega
  case c5 => omega
  intro v' w2 hown' hgrow _
  obtain ⟨ao, n', cap, rfl⟩ := ownF_shape hown'
  have hlt : b < w1.heap.size := lt_of_block H1.out.1.mem
  have hb2 : w2.heap[b]? = some (.cells #[.pointer (some ⟨b, 0, none⟩), v] 44 (0, 0)) := (hgrow.block b hlt (fun e => H1.out.1.ne e.symm)).trans H1.out.1.mem
  have d0 : w2.cell? ⟨b, 0, none⟩ = some (.pointer (some ⟨b, 0, none⟩)) := by rw [Lib.cell_of_heap hb2]; rfl
  have d1 : w2.cell? ⟨b, 1, none⟩ = some v := by rw [Lib.cell_of_heap hb2]; rfl
  have f1 : w2.frozen? ⟨b, 1, none⟩ = false := Lib.frozen_of_heap hb2 1
  have hd := wr_done (m := l ++ s.data.toList) H1.out.1 H1.out.2.1 H1.out.2.2 (by rw [byteCells_cat]; simpa [Lib.strCells_length] using hown') hgrow
  have HD := Lib.hid hd
  clear hd
  go_wp2
  go_ret2
  exact ⟨rfl, HD.out⟩
set_option maxHeartbeats 2000000 in
set_option maxRecDepth 100000 in
theorem wbytes2 (B0 b : Nat) (p v : Value) (l : List UInt8) (ad : Addr) (m c : Nat) (news : List UInt8) (w : World) (h : BW w B0 b p v l) (hl : news.length = m) (had : ad.block ≠ b ∧ ad.block < B0)
    (hnews : ∀ j (h : j < news.length), w.cell? (ad.add j) = some (.int .u8 news[j].toNat)) (hlen : l.length + m ≤ 70368744177664) (hBw : B0 ≤ w.heap.size) :
    Calls Tryd.prog 25 #[.pointer (some ⟨b, 0, none⟩), .slice (some ad) m c] w fun e w' => e = .returned (.tuple #[.int .i64 m, .nilIface]) ∧ WrPost B0 b (l ++ news) w w' := by
  obtain ⟨i0, hi, hz0, hz1, hz2⟩ := info_parts infoU8
  have hlen' : (Lib.byteCells l).length + m ≤ 70368744177664 := by rw [Lib.byteCells_length]; exact hlen
  have hadd : ∀ j, (ad.add j).block = ad.block := fun j => by unfold Addr.add; split <;> rfl
  have HN := Lib.hid hnews
  clear hnews
  go_enter Tryd.func25, Tryd.ntmps25
  go_wp2_with fail
  refine (check_v B0 b p v l w h).mono ?_
  rintro e w1 ⟨rfl, h1, he1, hk1⟩
  obtain ⟨c0, c1, f1⟩ := h1.cells
  have hown := h1.own
  have hz := he1.size
  have hn1 : ∀ j u, (Lib.byteCells news)[j]? = some u → w1.cell? (ad.add j) = some u := by
    intro j u hu
    have hj : j < news.length := by
      rcases Nat.lt_or_ge j news.length with x | x
      · exact x
      · rw [List.getElem?_eq_none (by rw [Lib.byteCells_length]; exact x)] at hu; cases hu
    have hu2 : u = .int .u8 news[j].toNat := by
      have e : (Lib.byteCells news)[j]? = some (.int .u8 news[j].toNat) := bcells_get hj
      rw [e] at hu; exact (Option.some.inj hu).symm
    rw [hu2]
    refine he1.cell (HN.out j hj) ?_
    rw [hadd]
    rintro (x | x)
    · exact had.1 x
    · have := had.2; omega
  have H1 := Lib.hid (And.intro h1 (And.intro he1 hk1))
  have HX := Lib.hid hn1
  clear h1 he1 hk1 h f1 hn1 hadd
  go_wp2_with (at_builtin; refine wpList_append_ownF _ rfl _ _ 36 rfl B0 5 i0 (.int .u8 0) 1 1 Tryd.underlying36 hi hz0 hz1 hz2 rfl (by decide) _ _ _ rfl hown ad m c (Lib.byteCells news) rfl ?c1 ?c2 ?c6 ?c3 ?c4 ?c5 ?_)
  case c1 => rw [Lib.byteCells_length, hl]; omega
  case c2 => exact HX.out
  case c6 => exact bcells_one news
  case c3 => unfold maxLen; omega
  case c4 => omega
  case c5 => omega
  intro v' w2 hown' hgrow _
  obtain ⟨ao, n', cap, rfl⟩ := ownF_shape hown'
  have hlt : b < w1.heap.size := lt_of_block H1.out.1.mem
  have hb2 : w2.heap[b]? = some (.cells #[.pointer (some ⟨b, 0, none⟩), v] 44 (0, 0)) := (hgrow.block b hlt (fun e => H1.out.1.ne e.symm)).trans H1.out.1.mem
  have d0 : w2.cell? ⟨b, 0, none⟩ = some (.pointer (some ⟨b, 0, none⟩)) := by rw [Lib.cell_of_heap hb2]; rfl
  have d1 : w2.cell? ⟨b, 1, none⟩ = some v := by rw [Lib.cell_of_heap hb2]; rfl
  have f1 : w2.frozen? ⟨b, 1, none⟩ = false := Lib.frozen_of_heap hb2 1
  have hcat : Lib.byteCells (l ++ news) = Lib.byteCells l ++ Lib.byteCells news := bcells_append l news
  have hd := wr_done (m := l ++ news) H1.out.1 H1.out.2.1 H1.out.2.2 (by rw [hcat, List.length_append, Lib.byteCells_length news, hl]; exact hown') hgrow
  have HD := Lib.hid hd
  clear hd hcat
  go_wp2
  go_ret2
  exact ⟨rfl, HD.out⟩
end Go.Proofs.YtlgkghpdmiageaaDoor
