/- Package wal: Sum. -/
import Derived.Test.YtnbefiaeihialaaGreatWalK
import Derived.Test.YtnbefiaeihialaaGreatRowB
set_option linter.unusedVariables false
set_option linter.unusedSimpArgs false
namespace Go.Proofs.YtnbefiaeihialaaGreat
open Go.RowKit
def zN (n : Nat) : Nat := (119 - n % 64) % 64
def padS (t : Bs) : Bs := t ++ [128] ++ List.replicate (zN t.length) 0 ++ bigF (8 * t.length) 8
theorem padS_len (t : Bs) : (padS t).length = t.length + 9 + zN t.length := by unfold padS; simp [bigF_len]; omega
theorem padS_mod (t : Bs) : (padS t).length % 64 = 0 := by rw [padS_len]; unfold zN; omega
theorem zN_lt (n : Nat) : zN n < 64 := by unfold zN; omega
theorem zN_iff {n k : Nat} (h : k ≤ zN n) : (n + 1 + k) % 64 = 56 ↔ k = zN n := by unfold zN at *; omega
def H0 : V8 := ⟨1779033703, 3144134277, 1013904242, 2773480762, 1359893119, 2600822924, 528734635, 1541459225⟩
def blkF (t : Bs) (k : Nat) : Bs := ((padS t).drop (64 * k)).take 64
def hsF (t : Bs) : Nat → V8
  | 0 => H0
  | k + 1 => pressF tabF (hsF t k) (blkF t k)
def outF (l : List Int) : Bs := l.flatMap fun x => bigF x.toNat 4
/-- The digest. -/
def shaF (t : Bs) : Bs := outF (hsF t ((padS t).length / 64)).list
theorem shaF_len (t : Bs) : (shaF t).length = 32 := by
  unfold shaF outF V8.list
  simp [bigF_len]
theorem outF_app (a b : List Int) : outF (a ++ b) = outF a ++ outF b := List.flatMap_append ..
def In32 (x : Int) : Prop := 0 ≤ x ∧ x < 4294967296
def V8.In (v : V8) : Prop := ∀ x ∈ v.list, In32 x
theorem hsF_in (t : Bs) : ∀ k, (hsF t k).In
  | 0 => by
    intro x hx
    have : ∀ y ∈ H0.list, In32 y := by unfold In32; decide
    exact this x hx
  | k + 1 => by
    intro x hx
    have : ∀ y : Int, In32 (y % 4294967296) := fun y => ⟨Int.emod_nonneg _ (by decide), Int.emod_lt_of_pos _ (by decide)⟩
    simp only [hsF, pressF, add8, V8.list, List.mem_cons, List.not_mem_nil, or_false] at hx
    rcases hx with rfl | rfl | rfl | rfl | rfl | rfl | rfl | rfl <;> exact this _
theorem bytes128 : (⟨#[128]⟩ : ByteArray).data.toList = [128] := rfl
theorem blkF_get {tl P : Bs} {k A j : Nat} (hP : P = padS tl) (hA : A = 64 * k) (hj : j < (blkF tl k).length) (h2 : A + j < P.length) : (blkF tl k)[j] = P[A + j] := by
  subst hP hA
  simp only [blkF, List.getElem_take, List.getElem_drop]
theorem idx8 (v0 v1 v2 v3 v4 v5 v6 v7 : Int) (W : World) : ∀ j : Nat, j < 8 → (Instr.index 127 (.agg #[.int .u32 v0, .int .u32 v1, .int .u32 v2, .int .u32 v3, .int .u32 v4, .int .u32 v5, .int .u32 v6, .int .u32 v7]) (.int .i64 (j : Int))).run Tryz.prog W = .ok (.int .u32 (nth [v0, v1, v2, v3, v4, v5, v6, v7] j)) W := by
  intro j hj
  match j, hj with
  | 0, _ => (show _ = _; kernel_rfl)
  | 1, _ => (show _ = _; kernel_rfl)
  | 2, _ => (show _ = _; kernel_rfl)
  | 3, _ => (show _ = _; kernel_rfl)
  | 4, _ => (show _ = _; kernel_rfl)
  | 5, _ => (show _ = _; kernel_rfl)
  | 6, _ => (show _ = _; kernel_rfl)
  | 7, _ => (show _ = _; kernel_rfl)
theorem outF_len (l : List Int) : (outF l).length = 4 * l.length := by
  induction l with
  | nil => rfl
  | cons a r ih => show (bigF a.toNat 4 ++ outF r).length = _; rw [List.length_append, bigF_len, ih]; simp; omega
theorem Eff.upto {S : Nat → Prop} {a b c : World} {B : Nat} (h : Eff S a b) (k : Below B b c) (hB : a.heap.size ≤ B) : Eff S a c :=
  ⟨k.os.trans h.os, k.tape.trans h.tape, k.output.trans h.output, Nat.le_trans h.size k.size, fun i hi hn => (k.block i (by omega)).trans (h.block i hi hn)⟩
def sLen : Value → Nat
  | .slice _ n _ => n
  | _ => 0
set_option maxRecDepth 100000 in
set_option maxHeartbeats 16000000 in
theorem sum_any (s g : Nat) (st : St) (mb : Nat) (d : Int) (tab : List Int) (t : ByteArray) (w : World) (h : StB w s g st mb d 0 tab) (hd : SumOk d tab) (ht : t.size ≤ 10000000000) :
    Calls Tryz.prog 30 #[.pointer (some ⟨s, 0, none⟩), .string t] w fun e w' => e = .returned (.string ⟨(shaF t.data.toList).toArray⟩) ∧ StB w' s g st mb 1 0 tabF ∧ Eff (· = s) w w' := by
  have hlt := h.lt
  have hs0 : (0 : Int) ≤ (t.size : Int) := by omega
  -- the box
  have hb1 : Below w.heap.size w (w.alloc (.cells #[.pointer (some ⟨s, 0, none⟩)] 44 (0, 0))) := (Below.refl _ w).alloc (Nat.le_refl _) _
  have hbx : (w.alloc (.cells #[.pointer (some ⟨s, 0, none⟩)] 44 (0, 0))).cell? ⟨w.heap.size, 0, none⟩ = some (.pointer (some ⟨s, 0, none⟩)) := by rw [cell_of_row _ _ _ _ _ _ (heap_alloc_new w _)]; rfl
  have c1 := do_any w.heap.size s g st mb d tab _ hbx (by omega) (h.below hb1) hd
  have HB := Lib.hid (And.intro hb1 hbx)
  obtain ⟨RES, hRES⟩ : ∃ R : ByteArray, R = ⟨(shaF t.data.toList).toArray⟩ := ⟨_, rfl⟩
  rw [← hRES]
  have HR := Lib.hid hRES
  clear hb1 hbx h hRES hd
  go_enter Tryz.func30, Tryz.ntmps30
  go_wp2_with fail
  refine c1.mono ?_
  rintro e w2 ⟨rfl, hst, he2⟩
  have hbx2 := he2.cell HB.out.2 (by show w.heap.size ≠ s; omega)
  have hE2 : Eff (· = s) w w2 := (Eff.of_below HB.out.1 _).trans he2
  clear c1 he2 HB
  -- the text as bytes
  have hcv := Lib.run_convert_string_bytes (P := Tryz.prog) w2 9 73 5 t Tryz.underlying9 Tryz.underlying73 Tryz.underlying5
  have hbf := BF.conv w2 t (by omega)
  have hb3 := bytesWorld_below w2 t
  generalize grownCap w2 t.size 0 5 = cap at *
  generalize Lib.bytesWorld w2 5 t = w3 at *
  have hbx3 := (hb3.cell (World.block_lt_of_cell? _ _ hbx2)).trans hbx2
  have H3 := Lib.hid (And.intro (hst.below hb3) (And.intro (hE2.trans (Eff.of_below hb3 _)) (And.intro hbf hb3)))
  have hsz3 := hb3.size
  have hw0 := hE2.size
  have hw1 : w.heap.size < w2.heap.size := World.block_lt_of_cell? _ _ hbx2
  have hlen1 : t.data.toList.length + 1 ≤ 1000000000000 := by rw [bsize]; omega
  clear hbf hb3 hst hE2 hbx2
  go_wp2_with (at_builtin; refine wp_bf1 rfl (.tmp 17) (.tmp 18) rfl w2.heap.size _ t.data.toList rfl 128 128 rfl H3.out.2.2.1 rfl hlen1 hsz3 ?_)
  intro v4 w4 hbf4 hb4
  have hsz4 : w2.heap.size ≤ w4.heap.size := by have := hb4.size; omega
  have H4 := Lib.hid (And.intro hbf4 hb4)
  clear hbf4 hb4 hcv
  obtain ⟨tl, htl⟩ : ∃ tl, tl = t.data.toList := ⟨_, rfl⟩
  rw [← htl] at HR H4
  have HTL := Lib.hid htl
  have htn : tl.length = t.size := by rw [htl, bsize]
  have HTN := Lib.hid htn
  clear htl htn
  go_wp2
  go_loopw [5] (fun v wr => ∃ (k N g cap : Nat) (L : Bs), k ≤ zN t.size ∧ Hid (N = t.size + 1 + k) ∧ Hid (L = tl ++ [128] ++ List.replicate k 0) ∧ v = .slice (some ⟨g, 0, none⟩) N cap ∧ Hid (BF wr w2.heap.size v L ∧ Below w2.heap.size w4 wr) ∧ w2.heap.size ≤ wr.heap.size) (fun v _ => t.size + 1 + zN t.size - sLen v)
  case atStart =>
    obtain ⟨g4, cap4, hv4, _, _⟩ := H4.out.1.shape
    have e : (tl ++ [128]).length = t.size + 1 := by rw [List.length_append, HTN.out]; rfl
    rw [e] at hv4
    exact ⟨0, t.size + 1, g4, cap4, tl ++ [128], Nat.zero_le _, Lib.hid rfl, Lib.hid (by simp), hv4, Lib.hid ⟨H4.out.1, Below.refl _ _⟩, hsz4⟩
  case round =>
    obtain ⟨k, N, gv, cap, L, hk, hN, hL, rfl, hrl, hsw⟩ := hrel
    have hN0 : (0 : Int) ≤ (N : Int) := by omega
    have hz := zN_lt t.size
    have hNb : N ≤ 10000000065 := by have := hN.out; omega
    have hbl : L.length = N := by
      rw [hL.out, List.length_append, List.length_append, HTN.out, List.length_replicate]; exact hN.out.symm
    have HBL := Lib.hid hbl
    clear hbl
    by_cases hkz : k = zN t.size
    · have hmod : ((N : Int) % 64 != 56) = false := by
        have h1 := (zN_iff hk).2 hkz
        have h2 := hN.out
        simp; omega
      have c2 := num_any (8 * t.size) 8 wr (by omega) (by decide)
      rw [show ((8 * t.size : Nat) : Int) = 8 * (t.size : Int) by omega, show ((8 : Nat) : Int) = 8 by rfl] at c2
      have hP : L ++ bigF (8 * t.size) 8 = padS tl := by
        rw [hL.out]; unfold padS; rw [HTN.out, hkz]
      have HP := Lib.hid hP
      obtain ⟨nb, hnb⟩ : ∃ nb : ByteArray, nb = ⟨(bigF (8 * t.size) 8).toArray⟩ := ⟨_, rfl⟩
      have hnbd : nb.data.toList = bigF (8 * t.size) 8 := by rw [hnb]
      have hnbs : nb.size = 8 := by rw [hnb, lsize, bigF_len]
      have HNB := Lib.hid (And.intro hnbd hnbs)
      rw [← hnb] at c2
      have hls : L.length + nb.size ≤ 1000000000000 := by rw [HBL.out, hnbs]; omega
      have hz2 : zN t.size < 64 := hz
      clear hz hP hnb hnbd hnbs hkz
      go_wp2_with fail
      refine c2.mono ?_
      rintro e w5 ⟨rfl, hb5⟩
      have hbf5 := hrl.out.1.below hb5
      have hB5 := hrl.out.2.trans (hb5.mono hsw)
      have hsw5 : w2.heap.size ≤ w5.heap.size := Nat.le_trans hsw hb5.size
      have H5 := Lib.hid (And.intro hbf5 hB5)
      clear c2 hb5 hbf5 hB5
      go_wp2_with (at_builtin; refine wp_bfs rfl (.tmp 27) (.tmp 31) rfl w2.heap.size _ L rfl nb H5.out.1 rfl hls hsw5 ?_)
      intro v6 w6 hbf6 hb6
      obtain ⟨g6, cap6, rfl, hg6, hg6l⟩ := hbf6.shape
      rw [HNB.out.1, HP.out] at hbf6 ⊢
      have hB6 := H5.out.2.trans hb6
      have hsw6 : w2.heap.size ≤ w6.heap.size := Nat.le_trans hsw5 hb6.size
      obtain ⟨P, hP⟩ : ∃ P, P = padS tl := ⟨_, rfl⟩
      rw [← hP] at hbf6 ⊢
      obtain ⟨LN, hLN⟩ : ∃ LN, LN = P.length := ⟨_, rfl⟩
      rw [← hLN] at hbf6 ⊢
      have hLNb : LN ≤ 10000000100 := by rw [hLN, hP, padS_len, HTN.out]; omega
      have hLN0 : (0 : Int) ≤ (LN : Int) := by omega
      have hLNm : LN % 64 = 0 := by rw [hLN, hP]; exact padS_mod _
      have H6 := Lib.hid (And.intro hP (And.intro hLN (And.intro hbf6 hB6)))
      clear hbf6 hb6 hB6 hP hLN H5 hrl hL hN HBL HP HNB hls hmod
      go_wp2
      have hh7 : (w6.alloc (.cells #[.int .u32 1779033703, .int .u32 3144134277, .int .u32 1013904242, .int .u32 2773480762, .int .u32 1359893119, .int .u32 2600822924, .int .u32 528734635, .int .u32 1541459225] 127 (0, 0))).heap[w6.heap.size]? = some (.cells (w32 (hsF tl 0).list).toArray 127 (0, 0)) := (heap_alloc_new w6 _).trans rfl
      have hb7 : Below w6.heap.size w6 (w6.alloc (.cells #[.int .u32 1779033703, .int .u32 3144134277, .int .u32 1013904242, .int .u32 2773480762, .int .u32 1359893119, .int .u32 2600822924, .int .u32 528734635, .int .u32 1541459225] 127 (0, 0))) := (Below.refl _ w6).alloc (Nat.le_refl _) _
      generalize w6.alloc (.cells #[.int .u32 1779033703, .int .u32 3144134277, .int .u32 1013904242, .int .u32 2773480762, .int .u32 1359893119, .int .u32 2600822924, .int .u32 528734635, .int .u32 1541459225] 127 (0, 0)) = w7 at *
      have hb37 : Below w2.heap.size w3 w7 := (H4.out.2.trans H6.out.2.2.2).trans (hb7.mono hsw6)
      have hst7 : StB w7 s g st mb 1 0 tabF := (hb37.block s (by omega)).trans H3.out.1
      have hbx7 : w7.cell? ⟨w.heap.size, 0, none⟩ = some (.pointer (some ⟨s, 0, none⟩)) := (hb37.cell (p := ⟨w.heap.size, 0, none⟩) hw1).trans hbx3
      have hE7 : Eff (· = s) w w7 := Eff.upto H3.out.2.1 hb37 hw0
      have H7 := Lib.hid (And.intro hh7 (And.intro hst7 (And.intro hbx7 (And.intro hE7 (H6.out.2.2.1.below hb7)))))
      have hlt67 : w6.heap.size < w7.heap.size := lt_of_block hh7
      clear hh7 hb37 hst7 hE7 hb7 hbx7 hbx3
      go_loopw [7] (fun i wr => ∃ k A : Nat, Hid (A = 64 * k) ∧ A ≤ LN ∧ i = .int .i64 A ∧ wr.heap[w6.heap.size]? = some (.cells (w32 (hsF tl k).list).toArray 127 (0, 0)) ∧ Below w6.heap.size w7 wr) (fun i _ => LN - (intOf i).toNat)
      case atStart => exact ⟨0, 0, Lib.hid rfl, Nat.zero_le _, rfl, H7.out.1, Below.refl _ _⟩
      case round =>
        obtain ⟨k, A, hA, hAle, rfl, hgh, hbl⟩ := hrel
        have hA0 : (0 : Int) ≤ (A : Int) := by omega
        by_cases hlt2 : A < LN
        · have hAi : (A : Int) < (LN : Int) := by omega
          have hA64 : A + 64 ≤ LN := by have := hA.out; omega
          have hA64i : (A : Int) + 64 ≤ (LN : Int) := by omega
          have hbf := H7.out.2.2.2.2.upto hbl hg6l
          have hst := (hbl.block s (by omega)).trans H7.out.2.1
          have hbx := (hbl.cell (p := ⟨w.heap.size, 0, none⟩) (by show w.heap.size < w6.heap.size; omega)).trans H7.out.2.2.1
          have hcp := hbf.max
          rw [← H6.out.2.1] at hcp
          have hcap6 : LN ≤ cap6 := hcp.1
          have hbk : (blkF tl k).length = 64 := by
            unfold blkF
            rw [List.length_take, List.length_drop, ← H6.out.1, ← H6.out.2.1, ← hA.out]; omega
          have c3 := fun (W : World) (hW : Below w6.heap.size w7 W) (h3 : StB W s g st mb 1 0 tabF) (n64 cc : Nat) (h64 : n64 = 64) (hcc : 64 ≤ cc) => by
            have hb := H7.out.2.2.2.2.upto hW hg6l
            have := press_any s (hsF tl k) g6 A cc (blkF tl k) tabF W hbk ⟨by omega, hcc⟩ (fun j hj => by
              have hj2 : A + j < P.length := by rw [← H6.out.2.1]; omega
              rw [hb.cell hj2, blkF_get H6.out.1 hA.out hj hj2]) (fun j hj => h3.tab (by rw [tabF_len]; exact hj))
            rw [← h64] at this
            exact this
          have HC3 := Lib.hid c3
          have hnx : hsF tl (k + 1) = pressF tabF (hsF tl k) (blkF tl k) := rfl
          generalize pressF tabF (hsF tl k) (blkF tl k) = vn at *
          generalize hsF tl k = v at *
          obtain ⟨v0, v1, v2, v3, v4', v5, v6', v7⟩ := v
          obtain ⟨n0, n1, n2, n3, n4, n5, n6, n7⟩ := vn
          have x0 : wr.cell? ⟨w6.heap.size, 0, none⟩ = some (.int .u32 v0) := by rw [cell_of_row _ _ _ _ _ _ hgh]; rfl
          have x1 : wr.cell? ⟨w6.heap.size, 1, none⟩ = some (.int .u32 v1) := by rw [cell_of_row _ _ _ _ _ _ hgh]; rfl
          have x2 : wr.cell? ⟨w6.heap.size, 2, none⟩ = some (.int .u32 v2) := by rw [cell_of_row _ _ _ _ _ _ hgh]; rfl
          have x3 : wr.cell? ⟨w6.heap.size, 3, none⟩ = some (.int .u32 v3) := by rw [cell_of_row _ _ _ _ _ _ hgh]; rfl
          have x4 : wr.cell? ⟨w6.heap.size, 4, none⟩ = some (.int .u32 v4') := by rw [cell_of_row _ _ _ _ _ _ hgh]; rfl
          have x5 : wr.cell? ⟨w6.heap.size, 5, none⟩ = some (.int .u32 v5) := by rw [cell_of_row _ _ _ _ _ _ hgh]; rfl
          have x6 : wr.cell? ⟨w6.heap.size, 6, none⟩ = some (.int .u32 v6') := by rw [cell_of_row _ _ _ _ _ _ hgh]; rfl
          have x7 : wr.cell? ⟨w6.heap.size, 7, none⟩ = some (.int .u32 v7) := by rw [cell_of_row _ _ _ _ _ _ hgh]; rfl
          have HW := Lib.hid (And.intro hnx (And.intro hgh (And.intro hbl hst)))
          have hgl := lt_of_block hgh
          unfold V8.agg at HC3
          have hA64p : (A : Int) ≤ (A : Int) + 64 := by omega
          have hAc : (A : Int) + 64 ≤ (cap6 : Int) := by omega
          have hAw : IntKind.i64.wrap ((A : Int) + 64) = (A : Int) + 64 := by rw [IntKind.wrap_i64]; omega
          have hAt : ((A : Int) + 64).toNat = A + 64 := by omega
          have hA0p : (0 : Int) ≤ (A : Int) + 64 := by omega
          have hAn : A ≤ A + 64 := by omega
          have hAcn : ¬ cap6 = A := by omega
          clear hnx hgh hbl hst hbf hcp hbk c3
          go_upto_region 10 with fail
          have c4 := HC3.out wr.drew HW.out.2.2.1.drew HW.out.2.2.2 64 (cap6 - A) rfl (by omega)
          have HX := Lib.hid (show ∀ W', Below wr.drew.heap.size wr.drew W' → (W'.cell? ⟨w6.heap.size, 0, none⟩ = some (.int .u32 v0) ∧ W'.cell? ⟨w6.heap.size, 1, none⟩ = some (.int .u32 v1) ∧ W'.cell? ⟨w6.heap.size, 2, none⟩ = some (.int .u32 v2) ∧ W'.cell? ⟨w6.heap.size, 3, none⟩ = some (.int .u32 v3) ∧ W'.cell? ⟨w6.heap.size, 4, none⟩ = some (.int .u32 v4') ∧ W'.cell? ⟨w6.heap.size, 5, none⟩ = some (.int .u32 v5) ∧ W'.cell? ⟨w6.heap.size, 6, none⟩ = some (.int .u32 v6') ∧ W'.cell? ⟨w6.heap.size, 7, none⟩ = some (.int .u32 v7)) ∧ (W'.frozen? ⟨w6.heap.size, 0, none⟩ = false ∧ W'.frozen? ⟨w6.heap.size, 1, none⟩ = false ∧ W'.frozen? ⟨w6.heap.size, 2, none⟩ = false ∧ W'.frozen? ⟨w6.heap.size, 3, none⟩ = false ∧ W'.frozen? ⟨w6.heap.size, 4, none⟩ = false ∧ W'.frozen? ⟨w6.heap.size, 5, none⟩ = false ∧ W'.frozen? ⟨w6.heap.size, 6, none⟩ = false ∧ W'.frozen? ⟨w6.heap.size, 7, none⟩ = false) from fun W' hW' => by
            have hh := (hW'.block _ hgl).trans HW.out.2.1
            refine ⟨⟨?_, ?_, ?_, ?_, ?_, ?_, ?_, ?_⟩, frozen_of_row _ _ _ _ _ hh, frozen_of_row _ _ _ _ _ hh, frozen_of_row _ _ _ _ _ hh, frozen_of_row _ _ _ _ _ hh, frozen_of_row _ _ _ _ _ hh, frozen_of_row _ _ _ _ _ hh, frozen_of_row _ _ _ _ _ hh, frozen_of_row _ _ _ _ _ hh⟩ <;> (rw [cell_of_row _ _ _ _ _ _ hh]; rfl))
          go_region_law (go_simp; go_at_call 55; (with_reducible refine c4.mono ?_); rintro e w9 ⟨rfl, hb9⟩; obtain ⟨⟨y0, y1, y2, y3, y4, y5, y6, y7⟩, j0, j1, j2, j3, j4, j5, j6, j7⟩ := HX.out _ hb9)
          all_goals
            have hgs := W8.here ((hb9.block _ hgl).trans HW.out.2.1) ⟨n0, n1, n2, n3, n4, n5, n6, n7⟩
            have hbs := W8.below (V := w6.heap.size) ⟨n0, n1, n2, n3, n4, n5, n6, n7⟩ ((HW.out.2.2.1.drew).trans (hb9.mono (Nat.le_of_lt hgl))) (Nat.le_refl _)
            have HF := Lib.hid (And.intro hgs hbs)
            clear hgs hbs hb9
            go_wp2
            go_roundw
            case rel => exact ⟨k + 1, A + 64, Lib.hid (by have := hA.out; omega), by omega, by go_num, HF.out.1.trans (by rw [HW.out.1]), HF.out.2⟩
            case measure => simp [intOf]; omega
        · obtain rfl : A = LN := by omega
          have hjE : ¬ (A : Int) < (A : Int) := by omega
          have hres : RES = ⟨(outF (hsF tl k).list).toArray⟩ := by
            rw [HR.out]
            unfold shaF
            rw [← H6.out.1, ← H6.out.2.1, hA.out, Nat.mul_div_cancel_left _ (by decide)]
          have hin := hsF_in tl k
          generalize hsF tl k = v at *
          obtain ⟨v0, v1, v2, v3, v4', v5, v6', v7⟩ := v
          have x0 : wr.cell? ⟨w6.heap.size, 0, none⟩ = some (.int .u32 v0) := by rw [cell_of_row _ _ _ _ _ _ hgh]; rfl
          have x1 : wr.cell? ⟨w6.heap.size, 1, none⟩ = some (.int .u32 v1) := by rw [cell_of_row _ _ _ _ _ _ hgh]; rfl
          have x2 : wr.cell? ⟨w6.heap.size, 2, none⟩ = some (.int .u32 v2) := by rw [cell_of_row _ _ _ _ _ _ hgh]; rfl
          have x3 : wr.cell? ⟨w6.heap.size, 3, none⟩ = some (.int .u32 v3) := by rw [cell_of_row _ _ _ _ _ _ hgh]; rfl
          have x4 : wr.cell? ⟨w6.heap.size, 4, none⟩ = some (.int .u32 v4') := by rw [cell_of_row _ _ _ _ _ _ hgh]; rfl
          have x5 : wr.cell? ⟨w6.heap.size, 5, none⟩ = some (.int .u32 v5) := by rw [cell_of_row _ _ _ _ _ _ hgh]; rfl
          have x6 : wr.cell? ⟨w6.heap.size, 6, none⟩ = some (.int .u32 v6') := by rw [cell_of_row _ _ _ _ _ _ hgh]; rfl
          have x7 : wr.cell? ⟨w6.heap.size, 7, none⟩ = some (.int .u32 v7) := by rw [cell_of_row _ _ _ _ _ _ hgh]; rfl
          have hstA := (hbl.block s (by omega)).trans H7.out.2.1
          have HA := Lib.hid (And.intro hres (And.intro hin (And.intro (show StB wr s g st mb 1 0 tabF from hstA) (Eff.upto H7.out.2.2.2.1 hbl (by omega)))))
          have hwsr : w.heap.size ≤ wr.heap.size := by have := lt_of_block hgh; omega
          clear hres hin hgh hbl hstA
          obtain ⟨wa, rfl⟩ : ∃ wa : World, wa = wr := ⟨_, rfl⟩
          go_wp2
          go_loopw [8, 49] (fun x i wr => ∃ (j : Nat) (o : ByteArray), j ≤ 8 ∧ i = .int .i64 j ∧ x = .string o ∧ Hid (o.data.toList = outF (([v0, v1, v2, v3, v4', v5, v6', v7] : List Int).take j)) ∧ Below wa.heap.size wa wr) (fun _ i _ => 8 - (intOf i).toNat)
          case atStart => exact ⟨0, ⟨#[]⟩, Nat.zero_le _, rfl, rfl, Lib.hid rfl, Below.refl _ _⟩
          case round =>
            obtain ⟨j, o, hj, rfl, rfl, ho, hbl⟩ := hrel
            have hj0 : (0 : Int) ≤ (j : Int) := by omega
            by_cases hlt3 : j < 8
            · have hji : (j : Int) < 8 := by omega
              have hix := idx8 v0 v1 v2 v3 v4' v5 v6' v7 wr j hlt3
              obtain ⟨y, hy⟩ : ∃ y, y = nth [v0, v1, v2, v3, v4', v5, v6', v7] j := ⟨_, rfl⟩
              rw [← hy] at hix
              have hjl : j < ([v0, v1, v2, v3, v4', v5, v6', v7] : List Int).length := hlt3
              have hy32 : In32 y := by
                rw [hy, nth_lt hjl]
                exact HA.out.2.1 _ (List.getElem_mem hjl)
              have hy0 : 0 ≤ y := hy32.1
              have hy1 : y < 4294967296 := hy32.2
              have hyw : IntKind.i64.wrap y = y := by rw [IntKind.wrap_i64]; omega
              have c5 := num_any y.toNat 4 wr (by omega) (by decide)
              rw [show ((y.toNat : Nat) : Int) = y by omega, show ((4 : Nat) : Int) = 4 by rfl] at c5
              have hos : o.size = 4 * j := by
                rw [← bsize, ho.out, outF_len, List.length_take]
                show 4 * min j 8 = _; omega
              obtain ⟨nb, hnb⟩ : ∃ nb : ByteArray, nb = ⟨(bigF y.toNat 4).toArray⟩ := ⟨_, rfl⟩
              rw [← hnb] at c5
              have hns : nb.size = 4 := by rw [hnb, lsize, bigF_len]
              have hnn : ¬ (9223372036854775807 < o.size + nb.size) := by omega
              have ho2 : (o ++ nb).data.toList = outF (([v0, v1, v2, v3, v4', v5, v6', v7] : List Int).take (j + 1)) := by
                rw [List.take_succ_eq_append_getElem hjl, outF_app, ← ho.out, ← nth_lt hjl, ← hy]
                have e : outF [y] = nb.data.toList := by rw [hnb]; simp [outF]
                rw [e]; simp
              have HO := Lib.hid (And.intro ho2 hbl)
              clear hy hy32 ho2 hbl ho hnb hos hns
              go_wp2_with fail
              refine c5.mono ?_
              rintro e w9 ⟨rfl, hb9⟩
              have HF := Lib.hid (HO.out.2.trans (hb9.mono HO.out.2.size))
              clear c5 hb9 hix
              go_wp2
              go_roundw
              case rel => exact ⟨j + 1, o ++ nb, by omega, by go_num, rfl, Lib.hid HO.out.1, HF.out⟩
              case measure => simp [intOf]; omega
            · obtain rfl : j = 8 := by omega
              have hjE3 : ¬ (8 : Int) < 8 := by omega
              have hoe : o = RES := by
                rw [HA.out.1]
                apply ba_ext
                rw [ho.out]; rfl
              subst hoe
              have HF := Lib.hid (And.intro (HA.out.2.2.1.below hbl) (HA.out.2.2.2.trans (Eff.of_below hbl _)))
              clear hbl ho
              go_wp2
              go_ret
              exact ⟨rfl, HF.out⟩
    · have hmod : ((N : Int) % 64 != 56) = true := by
        have h1 : ¬ (t.size + 1 + k) % 64 = 56 := fun e => hkz ((zN_iff hk).1 e)
        have h2 := hN.out
        simp; omega
      have hl1 : L.length + 1 ≤ 1000000000000 := by rw [HBL.out]; omega
      clear hz
      go_wp2_with (at_builtin; refine wp_bf1 rfl (.tmp 24) (.tmp 25) rfl w2.heap.size _ L rfl 0 0 rfl hrl.out.1 rfl hl1 hsw ?_)
      intro v5 w5 hbf5 hb5
      obtain ⟨g5, cap5, rfl, _, _⟩ := hbf5.shape
      have e5 : (L ++ [0]).length = N + 1 := by rw [List.length_append, HBL.out]; rfl
      have hr5 : L ++ [0] = tl ++ [128] ++ List.replicate (k + 1) 0 := by rw [hL.out, List.append_assoc, ← List.replicate_succ']
      have hsw5 := hb5.size
      rw [e5] at hbf5 ⊢
      have HF := Lib.hid (And.intro hbf5 (hrl.out.2.trans hb5))
      have HL5 := Lib.hid hr5
      have hsw6 : w2.heap.size ≤ w5.heap.size := by omega
      clear hbf5 hb5 e5 hr5
      go_wp2
      go_roundw
      case rel => exact ⟨k + 1, N + 1, g5, cap5, L ++ [0], by omega, Lib.hid (by have := hN.out; omega), HL5, rfl, HF, hsw6⟩
      case measure => have := hN.out; simp [sLen]; omega
end Go.Proofs.YtnbefiaeihialaaGreat
