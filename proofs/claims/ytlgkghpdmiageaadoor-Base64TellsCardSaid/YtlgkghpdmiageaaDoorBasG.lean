/- Package base64: Fold. -/
import Derived.Test.YtlgkghpdmiageaaDoorBasF
import Derived.Lib.ConvBytes
set_option linter.unusedVariables false
set_option linter.unusedSimpArgs false
namespace Go.Proofs.YtlgkghpdmiageaaDoor
open Go.RowKit
attribute [local go_sem] Oper.semAt_some
def chunk (l : List UInt8) (x : Nat) : List UInt8 := (l.drop (x * 76)).take 76
def foldK {L : Nat} (l : List UInt8) (xs : List (Ch L)) : List UInt8 := xs.flatMap fun x => chunk l x.1 ++ [13, 10]
def foldL (l : List UInt8) : List UInt8 := foldK l (chs l.length ((l.length + 75) / 76))
theorem foldK_snoc {L : Nat} (l : List UInt8) (xs : List (Ch L)) (x : Ch L) : foldK l (xs ++ [x]) = foldK l xs ++ (chunk l x.1 ++ [13, 10]) := by simp [foldK]
theorem foldK_len {L : Nat} (l : List UInt8) (xs : List (Ch L)) : (foldK l xs).length ≤ 78 * xs.length := by
  induction xs with
  | nil => simp [foldK]
  | cons a b ih =>
    have e : foldK l (a :: b) = chunk l a.1 ++ [13, 10] ++ foldK l b := by simp [foldK]
    rw [e]
    have : (chunk l a.1).length ≤ 76 := by unfold chunk; rw [List.length_take]; omega
    simp only [List.length_append, List.length_cons, List.length_nil]
    omega
/-- Between two rounds of Fold. -/
structure FoI (w : World) (B0 b g : Nat) (E : ByteArray) (pre : List (Ch E.size)) (W : World) : Prop where
  bld : ∃ p v, BW W B0 b p v (foldK E.data.toList pre)
  bel : Below w.heap.size w W
  src : ∀ j, j < E.size → W.cell? ⟨g, j, none⟩ = some (.int .u8 (E.data.toList.getD j 0).toNat)
  siz : B0 ≤ W.heap.size
theorem foI_own (w : World) (B0 b g : Nat) (E : ByteArray) (hB0 : w.heap.size ≤ B0) : OwnFrom B0 (FoI w B0 b g E) := by
  intro pre W W' row h hg hr
  obtain ⟨⟨p, v, hb⟩, hbel, hsrc, hsz⟩ := h
  have hnc : ∀ (k : Nat) (cs : Array Value) (T : TypeId) (f : Nat × Nat), W.heap[k]? = some (Obj.cells cs T f) → W'.heap[k]? = some (Obj.cells cs T f) := by
    intro k cs T f hk
    refine (hg.block k (lt_of_block hk) fun e => ?_).trans hk
    obtain ⟨_, o, ho, hc⟩ := hr k e.symm
    rw [hk] at ho
    injection ho with ho
    rw [← ho] at hc
    cases hc
  have hsl := hg.size
  refine ⟨⟨p, v, hb.lt, hnc _ _ _ _ hb.mem, ?_, hb.ptr⟩, hbel.grown hg (by omega) (fun k e => by have := (hr k e).1; omega), fun j hj => ?_, by omega⟩
  · refine ⟨hb.own.1, ?_⟩
    rcases hb.own.2 with hn | ⟨q, cap, cur, fz, hv, hq, hh, r⟩
    · exact .inl hn
    · exact .inr ⟨q, cap, cur, fz, hv, hq, hnc _ _ _ _ hh, r⟩
  · have q := hsrc j hj
    have hlt := World.block_lt_of_cell? _ _ q
    refine (World.cell?_of_block (hg.block g hlt fun e => ?_)).trans q
    obtain ⟨_, o, ho, hc⟩ := hr g e.symm
    simp only [World.cell?, ho] at q
    cases o <;> simp_all [Obj.isCells]
set_option maxRecDepth 100000 in
set_option maxHeartbeats 8000000 in
theorem fold_any (s : ByteArray) (w : World) (hs : s.size ≤ 1000000) :
    Calls Tryd.prog 16 #[.string s] w fun e w' => e = .returned (.string ⟨(foldL (enc s.data.toList)).toArray⟩) ∧ Below w.heap.size w w' := by
  have c1 := fun W => encode_any s W hs
  have hEL := enc_len s.data.toList
  rw [bsize] at hEL
  obtain ⟨E, hE⟩ : ∃ E : ByteArray, E = ⟨(enc s.data.toList).toArray⟩ := ⟨_, rfl⟩
  have hEl : E.data.toList = enc s.data.toList := by rw [hE]
  rw [← hE] at c1
  rw [← hEl] at hEL ⊢
  clear hE hEl
  refine (callsIn_wide (n := 3)).1 ?_
  refine callsIn_of_wp_marks Tryd.func16 rfl trivial ?_ rfl
  simp only [Tryd.ntmps16, List.size_toArray, List.length_cons, List.length_nil, Nat.reduceAdd, Nat.reduceSub, Array.replicate_succ, Array.replicate_zero, List.push_toArray, List.append_toArray, List.nil_append, List.cons_append]
  gi_wp2_with fail
  refine ⟨trivial, ?_⟩
  refine (callsIn_wide.2 (c1 _)).mono ?_
  rintro e w1 ⟨rfl, hb1⟩
  have hb1w : Below w.heap.size w w1 := ((Below.refl _ w).alloc (Nat.le_refl _) _).trans (hb1.mono (by simp))
  have hbm : w1.heap[w.heap.size]? = some (.cells #[.pointer none, .slice none 0 0] 44 (0, 0)) := (hb1.block w.heap.size (by simp)).trans (heap_alloc_new _ _)
  clear c1 hb1
  have hcv := Lib.run_convert_string_bytes (P := Tryd.prog) w1 9 36 5 E Tryd.underlying9 Tryd.underlying36 Tryd.underlying5
  obtain ⟨cap, hcap⟩ : ∃ cap, cap = grownCap w1 E.size 0 5 := ⟨_, rfl⟩
  have hce : E.size ≤ cap := by rw [hcap]; exact grownCap_ge w1 E.size 0 _
  rw [← hcap] at hcv
  have hbw : w.heap.size < w1.heap.size := lt_of_block hbm
  have hw2z := Lib.bytesWorld_size w1 5 E
  have hw2c : ∀ j, j < E.size → (Lib.bytesWorld w1 5 E).cell? ⟨w1.heap.size, j, none⟩ = some (.int .u8 (E.data.toList.getD j 0).toNat) := fun j hj => Lib.bytesWorld_cell w1 _ E j hj
  have hw2b : Below w1.heap.size w1 (Lib.bytesWorld w1 5 E) := ⟨rfl, rfl, rfl, by omega, fun k hk => Lib.bytesWorld_at_old w1 _ E k hk⟩
  generalize Lib.bytesWorld w1 5 E = w2 at *
  have hbm2 : w2.heap[w.heap.size]? = some (.cells #[.pointer none, .slice none 0 0] 44 (0, 0)) := (hw2b.block _ hbw).trans hbm
  have hb2w : Below w.heap.size w w2 := hb1w.trans (hw2b.mono (by omega))
  generalize w1.heap.size = g at *
  have HW := Lib.hid (And.intro hw2z (And.intro hw2c (And.intro hbm2 hb2w)))
  clear hb1w hbm hcap hw2z hw2c hw2b hbm2 hb2w
  gi_wp2_with fail
  refine ⟨trivial, ?_⟩
  refine (callsIn_wide.2 (chunk_any _ _ _ _)).mono ?_
  rintro e w3 ⟨rfl, hw3⟩
  have hBs : w3.heap[w2.heap.size]? = some (.cells #[.slice (some ⟨g, 0, none⟩) E.size cap] 36 (0, 0)) := by
    rw [hw3]; exact (Below.heap_alloc _ _ _ (by simp)).trans (heap_alloc_new _ _)
  have hBn : w3.heap[w2.heap.size + 1]? = some (.cells #[.int .i64 76] 3 (0, 0)) := by
    rw [hw3]; have := heap_alloc_new (w2.alloc (.cells #[.slice (some ⟨g, 0, none⟩) E.size cap] 36 (0, 0))) (.cells #[.int .i64 76] 3 (0, 0)); rwa [World.size_alloc] at this
  have hz3 : w3.heap.size = w2.heap.size + 2 := by rw [hw3]; simp
  have hb3 : Below w2.heap.size w2 w3 := by rw [hw3]; exact ((Below.refl _ w2).alloc (Nat.le_refl _) _).alloc (by simp) _
  clear hw3
  gi_wp2_with fail
  have hEz := bsize E
  have hI0 : FoI w w3.heap.size w.heap.size g E [] w3 := by
    refine ⟨⟨.pointer none, .slice none 0 0, ⟨by have := HW.out.1; omega, (hb3.block _ (by have := HW.out.1; omega)).trans HW.out.2.2.1, ⟨by simp [Lib.byteCells, foldK], .inl ⟨rfl, by simp [Lib.byteCells, foldK]⟩⟩, .inl rfl⟩⟩, HW.out.2.2.2.trans (hb3.mono (by have := HW.out.2.2.2.size; omega)), fun j hj => ?_, Nat.le_refl _⟩
    exact (hb3.cell (p := ⟨g, j, none⟩) (by have := HW.out.1; simp; omega)).trans (HW.out.2.1 j hj)
  refine wpIn_rangeFunc_ownF (P := Tryd.prog) rfl (by decide) (gf := 34) (lb := #[.pointer (some ⟨w2.heap.size, 0, none⟩), .pointer (some ⟨w2.heap.size + 1, 0, none⟩)]) rfl trivial (enters_of Tryd.func34 (by kernel_rfl) rfl)
    (chunk_stops (3 - 1) (by decide) w2.heap.size (w2.heap.size + 1) g E.size cap (by omega) hce w3 _ _ hBs hBn) kb_trans (fun W l o o' _ h hc _ => kb_put W l o o' h hc) (Below.refl _ _) (fun _ => rfl)
    (FoI w w3.heap.size w.heap.size g E) (fun _ _ _ => False) (foI_own w w3.heap.size w.heap.size g E (by have := HW.out.2.2.2.size; omega)) (fun c s A B row h _ _ => h) hI0
    (fun x => { tmps := #[.string s, undef, .string ⟨#[]⟩, .pointer (some ⟨w.heap.size, 0, none⟩), chv g E.size x.1, .string s, .string E, .slice (some ⟨g, 0, none⟩) E.size cap, .func (.func 34) #[] #[.pointer (some ⟨w2.heap.size, 0, none⟩), .pointer (some ⟨w2.heap.size + 1, 0, none⟩)], chv g E.size x.1, undef, undef, undef, undef], defers := [] }) ?assign ?body ?done ?stop
  case assign =>
    intro l x W K hK
    gi_wp2
    exact hK
  case body =>
    rintro l pre x W hI hpl
    obtain ⟨⟨p, v, hb⟩, hbel, hsrc, hsz⟩ := hI
    have hfl := foldK_len E.data.toList pre
    obtain ⟨x, hx⟩ := x
    have hcl : (chunk E.data.toList x).length = min 76 (E.size - x * 76) := by unfold chunk; rw [List.length_take, List.length_drop, hEz]
    have hnw : ∀ j (h : j < (chunk E.data.toList x).length), W.cell? ((⟨g, x * 76, none⟩ : Addr).add j) = some (.int .u8 (chunk E.data.toList x)[j].toNat) := by
      intro j h
      rw [show (⟨g, x * 76, none⟩ : Addr).add j = ⟨g, x * 76 + j, none⟩ from Go.WideShapes.add_plain _ _ _, hsrc _ (by omega)]
      have hjl : x * 76 + j < E.data.toList.length := by omega
      rw [List.getD_eq_getElem?_getD, List.getElem?_eq_getElem hjl]
      simp only [Option.getD_some, chunk, List.getElem_take, List.getElem_drop]
    have c5 := wbytes2 w3.heap.size w.heap.size p v _ ⟨g, x * 76, none⟩ _ (min 76 (E.size - x * 76)) _ W hb hcl (by have := HW.out.1; simp; omega) hnw (by omega) hsz
    have hg1 := HW.out.1
    have hbz := HW.out.2.2.2.size
    have hSg : ¬ BS2 w3.heap.size w.heap.size g := by rintro (e | e) <;> omega
    have hS1 : ¬ BS2 w3.heap.size w.heap.size w2.heap.size := by rintro (e | e) <;> omega
    have hS2 : ¬ BS2 w3.heap.size w.heap.size (w2.heap.size + 1) := by rintro (e | e) <;> omega
    have HB := Lib.hid (And.intro hbel (And.intro hsrc (And.intro hSg (And.intro hS1 hS2))))
    have hfm : (foldK E.data.toList pre).length + (chunk E.data.toList x).length ≤ 100000000 := by omega
    have hcs : chv g E.size (⟨x, hx⟩ : Ch E.size).1 = .slice (some ⟨g, x * 76, none⟩) (min 76 (E.size - x * 76)) (min 76 (E.size - x * 76)) := rfl
    rw [hcs]
    generalize min 76 (E.size - x * 76) = m at *
    clear hnw hsrc hbel hfl hcl hb hSg hS1 hS2 hcs hI0 hBs hBn
    gi_wp2_with fail
    refine ⟨trivial, ?_⟩
    refine (CallsIn.inRound l (callsIn_wide.2 c5)).mono ?_
    rintro e W2 ⟨rfl, v2, hb2, he2, hk2⟩
    have hz2 := he2.size
    have c6 := wstr2 w3.heap.size w.heap.size _ v2 _ ⟨#[13, 10]⟩ W2 hb2 (by rw [List.length_append]; show _ + 2 ≤ _; omega) (by omega)
    have H2 := Lib.hid (And.intro he2 hk2)
    clear c5 hb2 he2 hk2
    gi_wp2_with fail
    refine ⟨trivial, ?_⟩
    refine (CallsIn.inRound l (callsIn_wide.2 c6)).mono ?_
    rintro e W3 ⟨rfl, v3, hb3', he3, hk3⟩
    have hEE := H2.out.1.trans he3
    have hKB : KB w2.heap.size (w2.heap.size + 1) W W3 := by
      rintro q (rfl | rfl) cs T f h
      · exact hEE.heap h HB.out.2.2.2.1
      · exact hEE.heap h HB.out.2.2.2.2
    have hKO := H2.out.2.trans hk3
    have hFI : FoI w w3.heap.size w.heap.size g E (pre ++ [⟨x, hx⟩]) W3 := by
      refine ⟨⟨.pointer (some ⟨w.heap.size, 0, none⟩), v3, ?_⟩, HB.out.1.trans (hEE.to_below HB.out.1.size ?_), fun j hj => hEE.cell (HB.out.2.1 j hj) HB.out.2.2.1, by have := hEE.size; omega⟩
      · rw [foldK_snoc, ← List.append_assoc]; exact hb3'
      · rintro k (e | e) <;> omega
    have HF := Lib.hid (And.intro hKO (And.intro hKB hFI))
    clear hKO hKB hFI hEE hb3' he3 hk3 c6
    gi_wp2
    exact HF.out
  case done =>
    rintro D ys W hD rfl hI hK
    obtain ⟨⟨p, v, hb⟩, hbel, hsrc, hsz⟩ := hI
    have c7 := bstr w.heap.size w.heap.size _ W (hb.bb (Nat.le_refl _)) hbel.size
    have hfe : foldK E.data.toList (chs E.size ((E.size + 75) / 76)) = foldL E.data.toList := by unfold foldL; rw [hEz]
    rw [hfe] at c7
    have HB := Lib.hid hbel
    clear hb hbel hsrc hfe
    gi_wp2_with fail
    refine ⟨trivial, ?_⟩
    refine (callsIn_wide.2 c7).mono ?_
    rintro e W2 ⟨rfl, hb2, hlo, hok⟩
    have hK2 : W2.heap[D]? = some (.deferred (some [])) := hok D _ hK (fun e => by have := Option.some.inj e; have := HW.out.1; omega) (fun c fz e => by cases e)
    have hBB : Below w.heap.size w W2 := HB.out.trans hlo
    have H8 := Lib.hid (And.intro hK2 hBB)
    clear hb2 hlo hok c7 hK hK2 hBB
    gi_wp2
    refine ⟨by simp, .inl ⟨_, _, rfl, run_takeDeferred H8.out.1, ?_⟩⟩
    refine ⟨_, results_tmp rfl _ _ _, rfl, ?_⟩
    exact H8.out.2.trans (belowK_b (w := w) (Nat.le_refl _) W2 D _ _ (by have := HW.out.1; omega) H8.out.1 rfl rfl)
  case stop =>
    rintro D c pre W _ _ h _
    exact h.elim
end Go.Proofs.YtlgkghpdmiageaaDoor
