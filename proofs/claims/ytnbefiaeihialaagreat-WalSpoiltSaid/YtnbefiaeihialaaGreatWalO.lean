/- Package wal: rows of changes; Print. -/
import Derived.Test.YtnbefiaeihialaaGreatWalN
import Derived.Test.YtnbefiaeihialaaGreatBuild
import Derived.Deep.RegionLawGrows
set_option linter.unusedVariables false
set_option linter.unusedSimpArgs false
namespace Go.Proofs.YtnbefiaeihialaaGreat
open Go.RowKit
def ch (xs : List Ch) (j : Nat) : Ch := xs.getD j ⟨⟨#[]⟩, ⟨#[]⟩, false⟩
theorem ch_get {xs : List Ch} {j : Nat} (h : j < xs.length) : ch xs j = xs[j] := by unfold ch; rw [List.getD_eq_getElem?_getD, List.getElem?_eq_getElem h]; rfl
/-- A row of changes that can be read. -/
structure ChsIn (w : World) (A : Option Addr) (n : Nat) (xs : List Ch) : Prop where
  len : xs.length = n
  max : n ≤ 9223372036854775807
  cells : 0 < n → ∃ b off, A = some ⟨b, off, none⟩ ∧ ∀ j, j < n → w.cell? ⟨b, off + j * 3, none⟩ = some (.string (ch xs j).key) ∧ w.cell? ⟨b, off + j * 3 + 1, none⟩ = some (.string (ch xs j).val) ∧ w.cell? ⟨b, off + j * 3 + 2, none⟩ = some (.bool (ch xs j).gone)
theorem ChsIn.below {w w' : World} {A : Option Addr} {n : Nat} {xs : List Ch} (h : ChsIn w A n xs) (hb : Below w.heap.size w w') : ChsIn w' A n xs :=
  ⟨h.len, h.max, fun hn => by
    obtain ⟨b, off, e, hc⟩ := h.cells hn
    refine ⟨b, off, e, fun j hj => ?_⟩
    obtain ⟨q, q', q''⟩ := hc j hj
    exact ⟨(hb.cell (p := ⟨b, off + j * 3, none⟩) (World.block_lt_of_cell? _ _ q)).trans q, (hb.cell (p := ⟨b, off + j * 3 + 1, none⟩) (World.block_lt_of_cell? _ _ q')).trans q', (hb.cell (p := ⟨b, off + j * 3 + 2, none⟩) (World.block_lt_of_cell? _ _ q'')).trans q''⟩⟩
theorem prT_take {xs : List Ch} {j : Nat} (h : j < xs.length) : prT (xs.take (j + 1)) = prT (xs.take j) ++ pr1 (ch xs j) := by
  rw [List.take_succ_eq_append_getElem h, prT_app, ch_get h]; simp [prT]
theorem not_ok {xs : List Ch} {j : Nat} (h : j < xs.length) (hb : ¬ (ch xs j).Ok) : ¬ ChsOk xs := fun hh => hb (by rw [ch_get h]; exact hh _ (List.getElem_mem h))
theorem bb_below {w w' : World} {B b : Nat} {l : List UInt8} (h : BB w B b l) (hb : Below w.heap.size w w') : BB w' B b l := by
  have key : ∀ p, Lib.BuilderAtF 75 5 B b p (Lib.byteCells l) w → Lib.BuilderAtF 75 5 B b p (Lib.byteCells l) w' := by
    rintro p ⟨hB, v, hbk, hown, hne⟩
    exact ⟨hB, v, (hb.block _ (lt_of_block hbk)).trans hbk, hown.kept (row := none) ⟨hb.os, hb.tape, hb.output, hb.size, fun i hi _ => hb.block i hi⟩ (by cases h : v.ownBlock; exact .inl rfl; exact .inr (by simp)), hne⟩
  exact h.elim (fun x => .inl (key _ x)) (fun x => .inr (key _ x))
/-- In a round: the builder, and the change in block b8. -/
structure PW (w : World) (b8 : Nat) (l : Bs) (K V : ByteArray) (gn : Bool) (W : World) : Prop where
  bb : BB W w.heap.size w.heap.size l
  below : Below w.heap.size w W
  lt : w.heap.size < b8
  row : W.heap[b8]? = some (.cells #[.string K, .string V, .bool gn] 25 (0, 0))
theorem PW.mono {w W W' : World} {b8 : Nat} {l : Bs} {K V : ByteArray} {gn : Bool} (h : PW w b8 l K V gn W) (hb : Below W.heap.size W W') : PW w b8 l K V gn W' :=
  ⟨bb_below h.bb hb, h.below.trans (hb.mono h.below.size), h.lt, (hb.block _ (lt_of_block h.row)).trans h.row⟩
theorem PW.drew {w W : World} {b8 : Nat} {l : Bs} {K V : ByteArray} {gn : Bool} (h : PW w b8 l K V gn W) : PW w b8 l K V gn W.drew :=
  h.mono (Below.refl _ _).drew
theorem PW.k0 {w W : World} {b8 : Nat} {l : Bs} {K V : ByteArray} {gn : Bool} (h : PW w b8 l K V gn W) : W.cell? ⟨b8, 0, none⟩ = some (.string K) := by rw [cell_of_row _ _ _ _ _ _ h.row]; rfl
theorem PW.k1 {w W : World} {b8 : Nat} {l : Bs} {K V : ByteArray} {gn : Bool} (h : PW w b8 l K V gn W) : W.cell? ⟨b8, 1, none⟩ = some (.string V) := by rw [cell_of_row _ _ _ _ _ _ h.row]; rfl
theorem PW.k2 {w W : World} {b8 : Nat} {l : Bs} {K V : ByteArray} {gn : Bool} (h : PW w b8 l K V gn W) : W.cell? ⟨b8, 2, none⟩ = some (.bool gn) := by rw [cell_of_row _ _ _ _ _ _ h.row]; rfl
theorem prT_len_le : ∀ {l : List Ch}, ChsOk l → (prT l).length ≤ l.length * 131075
  | [], _ => by simp [prT]
  | c :: r, h => by
    have h1 := prT_len_le (l := r) fun x hx => h x (List.mem_cons_of_mem _ hx)
    have h2 := h c (List.mem_cons_self ..)
    have h3 := pr1_len c
    have h4 := h2.1
    have h5 := h2.2
    have e : prT (c :: r) = pr1 c ++ prT r := rfl
    rw [e, List.length_append, h3, List.length_cons, Nat.add_mul]
    split <;> omega
def printS (xs : List Ch) : ByteArray := if ChsOk xs then ⟨(prT xs).toArray⟩ else ⟨#[]⟩
def printC (xs : List Ch) : Int := if ChsOk xs then 0 else 3
set_option maxRecDepth 100000 in
set_option maxHeartbeats 16000000 in
theorem print_any (A : Option Addr) (n c : Nat) (xs : List Ch) (w : World) (h : ChsIn w A n xs) (hn : n ≤ 100000) :
    Calls Tryz.prog 8 #[.slice A n c] w fun e w' => e = .returned (.tuple #[.string (printS xs), .int .i64 (printC xs)]) ∧ Below w.heap.size w w' := by
  have hn0 : (0 : Int) ≤ (n : Int) := by omega
  have hbb := bb_new w w.heap.size (Nat.le_refl _)
  have hb1 : Below w.heap.size w (w.alloc (.cells #[.pointer none, .slice none 0 0] 75 (0, 0))) := (Below.refl _ w).alloc (Nat.le_refl _) _
  have hs1 : w.heap.size < (w.alloc (.cells #[.pointer none, .slice none 0 0] 75 (0, 0))).heap.size := by simp
  have H := Lib.hid h
  have H1 := Lib.hid (And.intro hbb hb1)
  clear h hbb hb1
  go_enter Tryz.func8, Tryz.ntmps8
  go_wp2
  generalize w.alloc (.cells #[.pointer none, .slice none 0 0] 75 (0, 0)) = w1 at *
  go_loopw [11] (fun i wr => ∃ j : Nat, j ≤ n ∧ i = .int .i64 j ∧ Hid (BB wr w.heap.size w.heap.size (prT (xs.take j)) ∧ Below w.heap.size w wr) ∧ w.heap.size < wr.heap.size ∧ Hid (ChsOk (xs.take j))) (fun i _ => n - (intOf i).toNat)
  case atStart => exact ⟨0, Nat.zero_le _, rfl, Lib.hid ⟨H1.out.1, H1.out.2⟩, hs1, Lib.hid (fun x hx => by simp at hx)⟩
  case round =>
    obtain ⟨j, hj, rfl, hbl, hws, hok⟩ := hrel
    have hj0 : (0 : Int) ≤ (j : Int) := by omega
    by_cases hlt : j < n
    · have hji : (j : Int) < (n : Int) := by omega
      obtain ⟨b, off, rfl, hc⟩ := (H.out.below hbl.out.2).cells (by omega)
      obtain ⟨e1, e2, e3⟩ := hc j hlt
      have hjl : j < xs.length := by rw [H.out.len]; exact hlt
      have hpt := prT_take hjl
      have hno := not_ok hjl
      have hin : ∀ x, x = ch xs j → x.Ok → ChsOk (xs.take (j + 1)) := fun x hx hx2 y hy => by
        rw [List.take_succ_eq_append_getElem hjl] at hy
        rcases List.mem_append.1 hy with h | h
        · exact hok.out y h
        · rw [List.mem_singleton.1 h, ← ch_get hjl, ← hx]; exact hx2
      have hin2 := hin _ rfl
      generalize ch xs j = x at *
      obtain ⟨K, V, gn⟩ := x
      dsimp only at e1 e2 e3
      have hK0 : (0 : Int) ≤ (K.size : Int) := by omega
      have hV0 : (0 : Int) ≤ (V.size : Int) := by omega
      have HP := Lib.hid (And.intro hpt (And.intro hno hin2))
      clear hpt hno hin hin2 hc
      have hP : PW w wr.heap.size (prT (xs.take j)) K V gn (wr.alloc (.cells #[.string K, .string V, .bool gn] 25 (0, 0))) :=
        ⟨hbl.out.1.alloc _, hbl.out.2.alloc hbl.out.2.size _, hws, heap_alloc_new _ _⟩
      go_upto_region 5 with fail
      generalize wr.alloc (.cells #[.string K, .string V, .bool gn] 25 (0, 0)) = w6 at *
      obtain ⟨b8, hb8⟩ : ∃ b8, b8 = wr.heap.size := ⟨_, rfl⟩
      rw [← hb8] at hP ⊢
      have k1 := hP.k1
      have k2 := hP.k2
      obtain ⟨f, hf⟩ : ∃ f : Nat, f = if gn = true then 1 else 0 := ⟨_, rfl⟩
      obtain ⟨v, hv⟩ : ∃ v : ByteArray, v = if gn = true then ⟨#[]⟩ else V := ⟨_, rfl⟩
      have HPP := Lib.hid (And.intro hP (And.intro hf hv))
      clear hP hbl e1 e2 e3 hws hb8 hf hv
      go_quiet (fail)
      go_upto_if 18 with fail
      go_cut [7, 8] (fun a b wx => a = .int .i64 f ∧ b = .string v ∧ PW w b8 (prT (xs.take j)) K V gn wx)
      case first =>
        cases gn
        all_goals
          go_wp2
          go_meet
          refine ⟨by rw [HPP.out.2.1]; rfl, by rw [HPP.out.2.2]; rfl, ?_⟩
          exact HPP.out.1.mono ⟨rfl, rfl, rfl, Nat.le_refl _, fun _ _ => rfl⟩
      case rest =>
        obtain ⟨rfl, rfl, hP⟩ := hcut
        have m0 := hP.k0
        have m1 := hP.k1
        have hbad : ¬ (K.size ≤ 65535 ∧ V.size ≤ 65535) → printS xs = ⟨#[]⟩ ∧ printC xs = 3 := fun h => by
          have hb : ¬ ChsOk xs := HP.out.2.1 h
          unfold printS printC
          rw [if_neg hb, if_neg hb]; exact ⟨rfl, rfl⟩
        by_cases hk : (65535 : Int) < (K.size : Int)
        · have HF := Lib.hid (And.intro hP.below (hbad (by omega)))
          clear hP hbad
          go_wp2
          go_ret2
          rw [HF.out.2.1, HF.out.2.2]
          exact ⟨rfl, HF.out.1⟩
        · by_cases hk2 : (65535 : Int) < (V.size : Int)
          · have HF := Lib.hid (And.intro hP.below (hbad (by omega)))
            clear hP hbad
            go_wp2
            go_ret2
            rw [HF.out.2.1, HF.out.2.2]
            exact ⟨rfl, HF.out.1⟩
          · have hvs : v.size ≤ 65535 := by
              rw [HPP.out.2.2]; split
              · exact Nat.zero_le _
              · omega
            have hf1 : f ≤ 1 := by rw [HPP.out.2.1]; split <;> omega
            have hv0 : (0 : Int) ≤ (v.size : Int) := by omega
            have hf0 : (0 : Int) ≤ (f : Int) := by omega
            obtain ⟨N1, hN1⟩ : ∃ s : ByteArray, s = ⟨(bigF f 1).toArray⟩ := ⟨_, rfl⟩
            obtain ⟨N2, hN2⟩ : ∃ s : ByteArray, s = ⟨(bigF K.size 2).toArray⟩ := ⟨_, rfl⟩
            obtain ⟨N3, hN3⟩ : ∃ s : ByteArray, s = ⟨(bigF v.size 2).toArray⟩ := ⟨_, rfl⟩
            have c1 : ∀ W, Calls Tryz.prog 32 #[.int .i64 (f : Nat), .int .i64 1] W fun e w' => e = .returned (.string N1) ∧ Below W.heap.size W w' := fun W => by rw [hN1]; exact num_any f 1 W (by omega) (by omega)
            have c2 : ∀ W, Calls Tryz.prog 32 #[.int .i64 (K.size : Nat), .int .i64 2] W fun e w' => e = .returned (.string N2) ∧ Below W.heap.size W w' := fun W => by rw [hN2]; exact num_any K.size 2 W (by omega) (by omega)
            have c3 : ∀ W, Calls Tryz.prog 32 #[.int .i64 (v.size : Nat), .int .i64 2] W fun e w' => e = .returned (.string N3) ∧ Below W.heap.size W w' := fun W => by rw [hN3]; exact num_any v.size 2 W (by omega) (by omega)
            have z1 : N1.size = 1 := by rw [hN1, lsize, bigF_len]
            have z2 : N2.size = 2 := by rw [hN2, lsize, bigF_len]
            have z3 : N3.size = 2 := by rw [hN3, lsize, bigF_len]
            have hpl : (prT (xs.take j)).length ≤ 13107500000 := by
              have h1 := prT_len_le hok.out
              have h2 : (xs.take j).length = j := by rw [List.length_take]; omega
              rw [h2] at h1
              omega
            have hpx : prT (xs.take (j + 1)) = prT (xs.take j) ++ (N1 ++ N2 ++ N3 ++ K ++ v).data.toList := by
              rw [HP.out.1]
              congr 1
              unfold pr1
              rw [hN1, hN2, hN3]
              cases gn with
              | true => rw [HPP.out.2.1, HPP.out.2.2]; simp [bigF] <;> exact ⟨rfl, rfl⟩
              | false => rw [HPP.out.2.1, HPP.out.2.2]; simp [bigF]
            have cw := fun W (h : PW w b8 (prT (xs.take j)) K V gn W) => wstr w.heap.size w.heap.size (prT (xs.take j)) (N1 ++ N2 ++ N3 ++ K ++ v) W h.bb (by simp only [ByteArray.size_append]; omega) h.below.size
            have hB := Lib.hid (fun W (h : PW w b8 (prT (xs.take j)) K V gn W) => (⟨h.below, h.lt, lt_of_block h.row⟩ : _ ∧ _ ∧ _))
            have KEY := Lib.hid (fun W W' (h : PW w b8 (prT (xs.take j)) K V gn W) (hb : Below W.heap.size W W') => (⟨(h.mono hb).k0, (h.mono hb).k1, h.mono hb⟩ : _ ∧ _ ∧ PW w b8 (prT (xs.take j)) K V gn W'))
            have PD := Lib.hid (fun W (h : PW w b8 (prT (xs.take j)) K V gn W) => h.drew)
            have C1 := Lib.hid c1
            have C2 := Lib.hid c2
            have C3 := Lib.hid c3
            have CW := Lib.hid cw
            have HX := Lib.hid hpx
            have o1 : ¬ (9223372036854775807 < 5 + K.size) := by omega
            have o2 : ¬ (9223372036854775807 < 5 + K.size + v.size) := by omega
            clear c1 c2 c3 cw hbad hpl hpx hN1 hN2 hN3
            go_upto_region 10 with fail
            go_region_law (first
              | (go_simp; go_at_call 32; (first | (with_reducible refine (C1.out _).mono ?_) | (with_reducible refine (C2.out _).mono ?_) | (with_reducible refine (C3.out _).mono ?_)); rintro e w9 ⟨rfl, hb9⟩; obtain ⟨m0, m1, hP⟩ := KEY.out _ _ (by repeat (first | assumption | with_reducible refine PD.out _ ?_)) hb9)
              | (go_simp; go_at_call 31; (with_reducible refine (CW.out _ (by repeat (first | assumption | with_reducible refine PD.out _ ?_))).mono ?_); rintro e w10 ⟨rfl, hbb, hbl, _⟩))
            all_goals
              have hok2 := HP.out.2.2 ⟨by show K.size ≤ _; omega, by show V.size ≤ _; omega⟩
              rw [← HX.out] at hbb
              have hb2 := (hB.out _ hP).1.trans hbl
              have hz2 : w.heap.size < w10.heap.size := by have h1 := hb2; have h2 := (hB.out _ hP).2; have h3 := hbl.size; have h4 := hbb; first | omega | (have := hbl.size; omega)
              have HF := Lib.hid (And.intro hbb (And.intro hb2 (And.intro hz2 hok2)))
              clear hbb hbl hb2 hz2 hok2
              go_wp2
              go_roundw
              case rel => exact ⟨j + 1, by omega, by go_num, Lib.hid ⟨HF.out.1, HF.out.2.1⟩, HF.out.2.2.1, Lib.hid HF.out.2.2.2⟩
              case measure => simp [intOf]; omega
    · obtain rfl : j = n := by omega
      have hjE : ¬ (j : Int) < (j : Int) := by omega
      have hx : xs.take j = xs := by rw [← H.out.len]; exact List.take_length
      rw [hx] at hbl hok
      have cs := bstr w.heap.size w.heap.size (prT xs) wr hbl.out.1 hbl.out.2.size
      have hps : printS xs = ⟨(prT xs).toArray⟩ := if_pos hok.out
      have hpc : printC xs = 0 := if_pos hok.out
      have HF := Lib.hid (And.intro hbl.out.2 (And.intro hps hpc))
      clear hbl hok hps hpc
      go_wp2_with fail
      refine cs.mono ?_
      rintro e w7 ⟨rfl, _, hb7, _⟩
      have HG := Lib.hid (HF.out.1.trans hb7)
      clear cs hb7
      go_wp2
      go_ret2
      rw [HF.out.2.1, HF.out.2.2]
      exact ⟨rfl, HG.out⟩
end Go.Proofs.YtnbefiaeihialaaGreat
