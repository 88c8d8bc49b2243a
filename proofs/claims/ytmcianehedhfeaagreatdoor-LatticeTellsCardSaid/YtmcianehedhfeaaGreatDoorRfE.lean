/- The document's lattice: Parse. -/
import Derived.Test.YtmcianehedhfeaaGreatDoorRfD
import Derived.Test.YtmcianehedhfeaaGreatDoorLatO
set_option linter.unusedVariables false
set_option linter.unusedSimpArgs false
namespace Go.Proofs.YtmcianehedhfeaaGreatDoor
open Go.RowKit
section
variable {cp : List Bs} {n s : Bs}
theorem atLv_a (h : s.length < n.length ∨ s.take n.length ≠ n) : atLv cp n s = none := by unfold atLv; rw [if_pos h]
theorem atLv_b (h1 : ¬ s.length < n.length) (h2 : s.take n.length = n) (h0 : s.drop n.length = []) : atLv cp n s = some 0 := by
  unfold atLv; rw [if_neg (fun h => h.elim h1 (fun x => x h2)), if_pos h0]
theorem atLv_c (h1 : ¬ s.length < n.length) (h2 : s.take n.length = n) (h0 : s.drop n.length ≠ []) (h3 : (s.drop n.length).length < 3 ∨ (s.drop n.length).take 2 ≠ [47, 47]) : atLv cp n s = none := by
  unfold atLv; rw [if_neg (fun h => h.elim h1 (fun x => x h2)), if_neg h0, if_pos h3]
theorem atLv_d (h1 : ¬ s.length < n.length) (h2 : s.take n.length = n) (h0 : s.drop n.length ≠ []) (h3 : ¬ (s.drop n.length).length < 3) (h4 : (s.drop n.length).take 2 = [47, 47]) {m : Nat} {r : Bs} (h5 : grd cp 0 0 (s.drop (n.length + 1)) = (m, r)) :
    atLv cp n s = if r = [] then some m else none := by
  unfold atLv; rw [if_neg (fun h => h.elim h1 (fun x => x h2)), if_neg h0, if_neg (fun h => h.elim h3 (fun x => x h4)), h5]
end
theorem ext0 (s : ByteArray) (n : Nat) : (s.extract 0 n).data.toList = s.data.toList.take n := by
  rw [Lib.extract_data]; simp
theorem ext_end (s : ByteArray) (n : Nat) : (s.extract n s.size).data.toList = s.data.toList.drop n := by
  rw [Lib.extract_data]
  exact List.take_of_length_le (by rw [List.length_drop, bsize]; exact Nat.le_refl _)
theorem eq_data {x y : ByteArray} : x = y ↔ x.data.toList = y.data.toList :=
  ⟨fun h => by rw [h], fun h => ByteArray.ext (Array.ext' h)⟩
theorem empty_is {x : ByteArray} : (x.toList == []) = decide (x.data.toList = []) := by
  rw [Lib.toList_data, Bool.eq_iff_iff, beq_iff_eq, decide_eq_true_iff]
theorem bytes_true {x y : ByteArray} (h : x = y) : (x.toList == y.toList) = true := by rw [h]; exact beq_self_eq_true _
theorem bytes_false {x y : ByteArray} (h : x ≠ y) : (x.toList == y.toList) = false := by
  rw [bytes_eq2]; exact decide_eq_false (fun e => h (eq_data.2 e))
/-- Does a name stand there, byte by byte? -/
theorem takes_of {r y c : ByteArray} (hs : c.size = y.size + 1) (hc : c.data.toList = 47 :: y.data.toList) : takes y.data.toList r.data.toList ↔ c.size ≤ r.size ∧ r.extract 0 c.size = c ∧ (r.size = c.size ∨ ∃ h : c.size < r.size, r[c.size] = 47) := by
  have hy := bsize y
  have hr := bsize r
  have hg : ∀ (h : y.data.toList.length + 1 < r.data.toList.length) (h' : c.size < r.size), r.data.toList[y.data.toList.length + 1] = r[c.size]'h' := fun h h' => by
    have e : y.data.toList.length + 1 = c.size := by omega
    simp only [e]; rfl
  unfold takes
  rw [eq_data, ext0, hc]
  constructor
  · rintro ⟨h1, h2⟩
    have := congrArg List.length h1
    rw [List.length_take, List.length_cons] at this
    refine ⟨by omega, by rw [hs, ← hy]; exact h1, ?_⟩
    rcases h2 with h2 | ⟨h, h2⟩
    · exact .inl (by omega)
    · exact .inr ⟨by omega, by rw [← hg h]; exact h2⟩
  · rintro ⟨_, h1, h2⟩
    refine ⟨by rw [hs, ← hy] at h1; exact h1, ?_⟩
    rcases h2 with h2 | ⟨h, h2⟩
    · exact .inl (by omega)
    · exact .inr ⟨by omega, by rw [hg (by omega) h]; exact h2⟩
/-- The ways of the document's test. -/
theorem takes_ways (r y c : ByteArray) (hs : c.size = y.size + 1) (hc : c.data.toList = 47 :: y.data.toList) : ((r.size : Int) < (c.size : Int) ∧ ¬ takes y.data.toList r.data.toList) ∨
    ((c.size : Int) ≤ (r.size : Int) ∧ ((r.extract 0 c.size).toList == c.toList) = false ∧ ¬ takes y.data.toList r.data.toList) ∨
    ((c.size : Int) ≤ (r.size : Int) ∧ ((r.extract 0 c.size).toList == c.toList) = true ∧ ((r.size : Int) == (c.size : Int)) = true ∧ takes y.data.toList r.data.toList) ∨
    ((c.size : Int) < (r.size : Int) ∧ ((r.extract 0 c.size).toList == c.toList) = true ∧ ((r.size : Int) == (c.size : Int)) = false ∧
      (∃ z : Int, (∀ h, (r[c.size]'h).toNat = z) ∧ (((z == 47) = true ∧ takes y.data.toList r.data.toList) ∨ ((z == 47) = false ∧ ¬ takes y.data.toList r.data.toList)))) := by
  have ht := takes_of (r := r) hs hc
  by_cases h1 : r.size < c.size
  · left; exact ⟨by omega, fun h => by have := (ht.1 h).1; omega⟩
  · right
    by_cases h2 : r.extract 0 c.size = c
    · right
      by_cases h3 : r.size = c.size
      · left; exact ⟨by omega, bytes_true h2, by rw [h3]; simp, ht.2 ⟨by omega, h2, .inl h3⟩⟩
      · right
        have hlt : c.size < r.size := by omega
        refine ⟨by omega, bytes_true h2, by rw [beq_eq_false_iff_ne]; omega, (r[c.size].toNat : Int), fun _ => rfl, ?_⟩
        by_cases h4 : r[c.size] = 47
        · left; exact ⟨by rw [h4]; rfl, ht.2 ⟨by omega, h2, .inr ⟨hlt, h4⟩⟩⟩
        · right
          refine ⟨?_, fun h => ?_⟩
          · rw [beq_eq_false_iff_ne]; intro e
            exact h4 (UInt8.toNat_inj.1 (by have : (47 : UInt8).toNat = 47 := rfl; omega))
          · rcases (ht.1 h).2.2 with h | ⟨_, h⟩
            · exact h3 h
            · exact h4 h
    · left; exact ⟨by omega, bytes_false h2, fun h => h2 (ht.1 h).2.1⟩
set_option maxRecDepth 100000 in
set_option maxHeartbeats 8000000 in
theorem rparse_any (v1 v2 : Value) (lv cp : List ByteArray) (s : ByteArray) (w : World) (h1 : SlIn w v1 lv) (h2 : SlIn w v2 cp) (hml : lv.length ≤ 9223372036854775807 ∧ cp.length ≤ 9223372036854775807) (hz : ∀ x ∈ lv ++ cp, x.size ≤ 9223372036854775807) (hs : s.size ≤ 100000) :
    Calls Tryz.prog 9 #[.agg #[v1, v2], .string s] w fun e w' => e = .returned (.tuple #[labV (lpP (nms lv) (nms cp) s.data.toList).1 (lpP (nms lv) (nms cp) s.data.toList).2.1, .int .i64 (lpP (nms lv) (nms cp) s.data.toList).2.2]) ∧ Below w.heap.size w w' := by
  obtain ⟨A, c, rfl, hA, hA0⟩ := id h1
  obtain ⟨B, q, rfl, hB, hB0⟩ := id h2
  have HIN := Lib.hid (And.intro hA (And.intro hB (And.intro h1 h2)))
  have HML := Lib.hid hml
  have HZ := Lib.hid hz
  clear hA hB hA0 hB0 h1 h2 hz
  generalize hn : lv.length = n at *
  generalize hk : cp.length = k at *
  obtain ⟨hnm, hkm⟩ := hml
  have HNK := Lib.hid (And.intro hn hk)
  have hn0 : (0 : Int) ≤ (n : Int) := by omega
  have hk0 : (0 : Int) ≤ (k : Int) := by omega
  clear hn hk
  obtain ⟨R, hR⟩ : ∃ R, R = lpP (nms lv) (nms cp) s.data.toList := ⟨_, rfl⟩
  rw [← hR]
  unfold lpP at hR
  unfold labV
  have hlat := latR_iff (nms lv) (nms cp)
  have hbx := And.intro (heap_alloc2_old w (.cells #[.slice A n c, .slice B k q] 24 (0, 0)) (.cells #[.int .i64 0, .int .u64 0] 27 (0, 0))) (heap_alloc2_new w (.cells #[.slice A n c, .slice B k q] 24 (0, 0)) (.cells #[.int .i64 0, .int .u64 0] 27 (0, 0)))
  have hb3 := below2 w (.cells #[.slice A n c, .slice B k q] 24 (0, 0)) (.cells #[.int .i64 0, .int .u64 0] 27 (0, 0))
  go_enter Tryz.func9, Tryz.ntmps9
  go_wp2_with fail
  generalize ((w.alloc (.cells #[.slice A n c, .slice B k q] 24 (0, 0))).alloc (.cells #[.int .i64 0, .int .u64 0] 27 (0, 0))) = w1 at *
  obtain ⟨C, hCd⟩ : ∃ C : World → Prop, C = fun w3 => Hid (Below w1.heap.size w1 w3) := ⟨_, rfl⟩
  have key2 : ∀ w3, C w3 → w3.cell? ⟨w.heap.size, 0, none⟩ = some (.slice A n c) ∧ w3.cell? ⟨w.heap.size, 1, none⟩ = some (.slice B k q) ∧ w3.cell? ⟨w.heap.size + 1, 0, none⟩ = some (.int .i64 0) ∧ w3.cell? ⟨w.heap.size + 1, 1, none⟩ = some (.int .u64 0) ∧ C w3 := by
    intro w3 h
    have hb := h
    rw [hCd] at hb
    obtain ⟨x0, y0⟩ := agg_keep hbx.1 hb.out
    obtain ⟨x1, y1⟩ := agg_keep hbx.2 hb.out
    exact ⟨x0, y0, x1, y1, h⟩
  have hCs : ∀ w3, C w3 → C w3.drew := fun w3 h => by rw [hCd] at h ⊢; exact Lib.hid h.out.drew
  have hC2 : C w1 := by rw [hCd]; exact Lib.hid (Below.refl _ _)
  have hCb : ∀ w3, C w3 → Below w.heap.size w w3 := fun w3 h => by rw [hCd] at h; exact hb3.trans (h.out.mono hb3.size)
  have hCn : ∀ W W', C W → Below W.heap.size W W' → C W' := fun W W' h h' => by rw [hCd] at h ⊢; exact Lib.hid (h.out.trans (h'.mono h.out.size))
  have hCk : ∀ W o, C W → C (W.alloc o) := fun W o h => hCn W _ h ((Below.refl _ W).alloc (Nat.le_refl _) o)
  have HCK := Lib.hid hCk
  have hsl : ∀ W, C W → SlIn W (.slice A n c) lv ∧ SlIn W (.slice B k q) cp ∧ StrsIn W A n lv ∧ StrsIn W B k cp := fun W h => by have hb := hCb W h; exact ⟨HIN.out.2.2.1.below hb, HIN.out.2.2.2.below hb, HIN.out.1.below hb, HIN.out.2.1.below hb⟩
  have HSL := Lib.hid hsl
  clear hsl
  have HCB := Lib.hid hCb
  have HCN := Lib.hid hCn
  have HCS := Lib.hid hCs
  have HKY := Lib.hid key2
  have hrb : ∀ W, C W → W.heap[w.heap.size + 1]? = some (.cells #[.int .i64 0, .int .u64 0] 27 (0, 0)) := fun W h => by rw [hCd] at h; exact (h.out.block _ (lt_of_block hbx.2)).trans hbx.2
  have hst : ∀ W g i v, C W → w1.heap.size ≤ g → C (W.setCell ⟨g, i, none⟩ v) := fun W g i v h hg => by rw [hCd] at h ⊢; exact Lib.hid (h.out.setCell (p := ⟨g, i, none⟩) hg v)
  have hsz : ∀ W, C W → w1.heap.size ≤ W.heap.size := fun W h => by rw [hCd] at h; exact h.out.size
  have HRB := Lib.hid hrb
  have HST := Lib.hid hst
  have HSZ := Lib.hid hsz
  clear hrb hst hsz
  clear hCb hCn hCs hCk key2 hbx hb3 hCd
  have cR := fun W (h : C W) => (rright_any (.slice A n c) (.slice B k q) lv cp W (HSL.out W h).1 (HSL.out W h).2.1 (by rw [HNK.out.1, HNK.out.2]; exact HML.out) HZ.out).mono fun e w3 ⟨he, hb⟩ => (⟨he, HCN.out W w3 h hb⟩ : _ ∧ C w3)
  generalize hL : latR (nms lv) (nms cp) = L at *
  have HR := Lib.hid hR
  have HL := Lib.hid hlat
  have hs0 : (0 : Int) ≤ (s.size : Int) := by omega
  clear hR hL hlat
  refine (cR _ hC2).mono ?_
  rintro e wa ⟨rfl, hCa⟩
  clear cR hC2
  obtain ⟨a0, a1, a2, a3, aC⟩ := HKY.out _ hCa
  have z0 : wa.frozen? ⟨w.heap.size + 1, 0, none⟩ = false := frozen_of_row _ _ _ _ _ (HRB.out _ hCa)
  have z1 : wa.frozen? ⟨w.heap.size + 1, 1, none⟩ = false := frozen_of_row _ _ _ _ _ (HRB.out _ hCa)
  cases L with
  | false =>
    obtain rfl : R = (0, 0, 2) := HR.out
    go_wp2
    have hst := store_lab (HRB.out _ hCa) (.int .i64 0) (.int .u64 0)
    exact ret_lab2 rfl rfl rfl hst.1 rfl ⟨rfl, Eff.below (HCB.out _ hCa) hst.2 (HCB.out _ hCa).size (fun k hk => by have : k = w.heap.size + 1 := hk; omega)⟩
  | true =>
    have hRl : R = lpF (nms lv) (nms cp) s.data.toList := HR.out
    have hok := HL.out.1 rfl
    have hk64 : k ≤ 64 := by have := hok.c64; rw [nms_len, HNK.out.2] at this; exact this
    have HOK := Lib.hid (And.intro hok hRl)
    clear hok hRl HR HL
    go_wp2
    clear z0 z1
    clear a0 a1 a2 a3 aC
    go_loopw [6] (fun i wr => ∃ v : Nat, v ≤ n ∧ i = .int .i64 v ∧ Hid (∀ u (hu : u < (nms lv).length), u < v → atLv (nms cp) (nms lv)[u] s.data.toList = none) ∧ C wr) (fun i _ => n - (intOf i).toNat)
    case atStart => exact ⟨0, Nat.zero_le _, rfl, Lib.hid (fun u _ h => absurd h (by omega)), hCa⟩
    case round =>
      clear hCa
      obtain ⟨v, hv, rfl, hno, hCr⟩ := hrel
      have hv0 : (0 : Int) ≤ (v : Int) := by omega
      obtain ⟨r0, r1, r2, r3, rC⟩ := HKY.out _ hCr
      by_cases hvn : v < n
      · have hvi : (v : Int) < (n : Int) := by omega
        obtain ⟨bA, oA, rfl, hcA⟩ := (HSL.out _ hCr).2.2.1.cells (by omega)
        have hcv := hcA v hvn
        have hvl : v < lv.length := by rw [HNK.out.1]; exact hvn
        have hvm : v < (nms lv).length := by rw [nms_len]; exact hvl
        have hgx := str_get hvl
        have hnx : atLv (nms cp) (nms lv)[v] s.data.toList = none → ∀ u (hu : u < (nms lv).length), u < v + 1 → atLv (nms cp) (nms lv)[u] s.data.toList = none := fun h u hu huv => by
          by_cases e : u = v
          · subst e; exact h
          · exact hno.out u hu (by omega)
        have hyes : ∀ m, atLv (nms cp) (nms lv)[v] s.data.toList = some m → R = (v, m, 0) := fun m h => HOK.out.2.trans (lp_at HOK.out.1 hvm h)
        rw [hgx] at hnx hyes
        have hxz := bsize (str lv v)
        generalize str lv v = x at *
        have HNX := Lib.hid (And.intro hnx (And.intro hyes hxz))
        have hx0 : (0 : Int) ≤ (x.size : Int) := by omega
        have HSS := Lib.hid (bsize s)
        have HE := Lib.hid (And.intro (ext0 s x.size) (ext_end s x.size))
        clear hcA hvl hvm hgx hnx hyes hxz hno
        by_cases q1 : (s.size : Int) < (x.size : Int)
        · have HN := Lib.hid (HNX.out.1 (atLv_a (.inl (by rw [HSS.out, HNX.out.2.2]; omega))))
          go_wp2
          go_roundw
          case rel => exact ⟨v + 1, by omega, by go_num, HN.out, hCr⟩
          case measure => simp [intOf]; omega
        · have q1' : (x.size : Int) ≤ (s.size : Int) := by omega
          have q1n : ¬ s.data.toList.length < x.data.toList.length := by rw [HSS.out, HNX.out.2.2]; omega
          have Q1 := Lib.hid q1n
          clear q1n
          cases hq2 : ((s.extract 0 x.size).toList == x.toList) with
          | false =>
            have q2 : ((s.extract 0 x.size).toList != x.toList) = true := by rw [bne, hq2]; rfl
            have HN := Lib.hid (HNX.out.1 (atLv_a (.inr (by rw [HNX.out.2.2, ← HE.out.1]; rw [bytes_eq2] at hq2; exact of_decide_eq_false hq2))))
            go_wp2
            go_roundw
            case rel => exact ⟨v + 1, by omega, by go_num, HN.out, hCr⟩
            case measure => simp [intOf]; omega
          | true =>
            have q2 : ((s.extract 0 x.size).toList != x.toList) = false := by rw [bne, hq2]; rfl
            have Q2 : Hid (s.data.toList.take x.data.toList.length = x.data.toList) := Lib.hid (by rw [HNX.out.2.2, ← HE.out.1]; rw [bytes_eq2] at hq2; exact of_decide_eq_true hq2)
            obtain ⟨rest, hrest⟩ : ∃ rest, rest = s.extract x.size s.size := ⟨_, rfl⟩
            have hrd : rest.data.toList = s.data.toList.drop x.data.toList.length := by rw [hrest, HE.out.2, HNX.out.2.2]
            have hrz : rest.size = s.size - x.size := by rw [← bsize, hrd, List.length_drop, HSS.out, HNX.out.2.2]
            have HRD := Lib.hid (And.intro hrest (And.intro hrd hrz))
            clear hrest hrd hrz
            have gN := heap_alloc_new wr (.cells #[.int .i64 (v : Int), .int .u64 0] 27 (0, 0))
            have hCN : C (wr.alloc (.cells #[.int .i64 (v : Int), .int .u64 0] 27 (0, 0))) := HCK.out _ _ hCr
            have hgz := HSZ.out _ hCr
            obtain ⟨n0, n1, n2, n3, nC⟩ := HKY.out _ hCN
            cases hq3 : (rest.toList == []) with
            | true =>
              obtain rfl := HNX.out.2.1 0 (atLv_b Q1.out Q2.out (by rw [← HRD.out.2.1]; rw [empty_is] at hq3; exact of_decide_eq_true hq3))
              rw [HRD.out.1] at hq3
              have HC9 := Lib.hid (And.intro hCN gN)
              have z0 : (wr.alloc (.cells #[.int .i64 (v : Int), .int .u64 0] 27 (0, 0))).frozen? ⟨w.heap.size + 1, 0, none⟩ = false := frozen_of_row _ _ _ _ _ (HRB.out _ hCN)
              have z1 : (wr.alloc (.cells #[.int .i64 (v : Int), .int .u64 0] 27 (0, 0))).frozen? ⟨w.heap.size + 1, 1, none⟩ = false := frozen_of_row _ _ _ _ _ (HRB.out _ hCN)
              clear hCN gN
              go_wp2
              have hst := store_lab (HRB.out _ HC9.out.1) (.int .i64 (v : Int)) (.int .u64 0)
              exact ret_lab2 rfl rfl rfl hst.1 rfl ⟨rfl, Eff.below (HCB.out _ HC9.out.1) hst.2 (HCB.out _ HC9.out.1).size (fun k hk => by have : k = w.heap.size + 1 := hk; omega)⟩
            | false =>
              have Q3 : Hid (s.data.toList.drop x.data.toList.length ≠ []) := Lib.hid (by rw [← HRD.out.2.1]; rw [empty_is] at hq3; exact of_decide_eq_false hq3)
              rw [HRD.out.1] at hq3
              go_upto_region 12 with fail
              rw [← HRD.out.1] at *
              clear hq3 hq2 q2 n0 n1 n2 n3 nC r0 r1 r2 r3 rC hcv q1 q1'
              generalize wr.alloc (.cells #[.int .i64 (v : Int), .int .u64 0] 27 (0, 0)) = wN at *
              have hrs := bsize rest
              by_cases q4 : (rest.size : Int) < 3
              · have HN := Lib.hid (HNX.out.1 (atLv_c Q1.out Q2.out Q3.out (.inl (by rw [← HRD.out.2.1, hrs]; omega))))
                clear hrs
                go_wp2
                go_roundw
                case rel => exact ⟨v + 1, by omega, by go_num, HN.out, hCN⟩
                case measure => simp [intOf]; omega
              · have q4' : (3 : Int) ≤ (rest.size : Int) := by omega
                have Q4 : Hid (¬ (s.data.toList.drop x.data.toList.length).length < 3) := Lib.hid (by rw [← HRD.out.2.1, hrs]; omega)
                have he2 := ext0 rest 2
                have he1 := ext_end rest 1
                have hrz5 : rest.size ≤ 100000 := by rw [HRD.out.2.2]; omega
                cases hq5 : ((rest.extract 0 2).toList == [47, 47]) with
                | false =>
                  have q5 : ((rest.extract 0 2).toList != [47, 47]) = true := by rw [bne, hq5]; rfl
                  have HN := Lib.hid (HNX.out.1 (atLv_c Q1.out Q2.out Q3.out (.inr (by
                    rw [← HRD.out.2.1, ← he2, ← Lib.toList_data]; exact fun e => by rw [e] at hq5; cases hq5))))
                  clear hrs he2 he1
                  go_wp2
                  go_roundw
                  case rel => exact ⟨v + 1, by omega, by go_num, HN.out, hCN⟩
                  case measure => simp [intOf]; omega
                | true =>
                  have q5 : ((rest.extract 0 2).toList != [47, 47]) = false := by rw [bne, hq5]; rfl
                  have Q5 : Hid ((s.data.toList.drop x.data.toList.length).take 2 = [47, 47]) := Lib.hid (by
                    rw [← HRD.out.2.1, ← he2, ← Lib.toList_data]; exact eq_of_beq hq5)
                  have hgr : (rest.extract 1 rest.size).data.toList = s.data.toList.drop (x.data.toList.length + 1) := by rw [he1, HRD.out.2.1, List.drop_drop]
                  have hg1 : (rest.extract 1 rest.size).size ≤ 100000 := by rw [← bsize, he1, List.length_drop, hrs]; omega
                  have HGR := Lib.hid hgr
                  have HG1 := Lib.hid hg1
                  clear hrs he2 he1 hgr hg1
                  obtain ⟨n0, n1, n2, n3, nC⟩ := HKY.out _ hCN
                  go_wp2
                  generalize rest.extract 1 rest.size = r1 at *
                  obtain ⟨wq, rfl⟩ : ∃ wq : World, wq = wr := ⟨_, rfl⟩
                  clear q4 q4' hq5 q5 n0 n1 n2 n3 nC
                  go_loopw [9, 10] (fun rv i wx => ∃ (j acc : Nat) (rB : ByteArray), j ≤ k ∧ i = .int .i64 j ∧ rv = .string rB ∧ rB.size ≤ 100000 ∧ acc < 2 ^ j ∧ Hid (grd ((nms cp).drop j) j acc rB.data.toList = grd (nms cp) 0 0 (s.data.toList.drop (x.data.toList.length + 1))) ∧ wx.heap[wq.heap.size]? = some (.cells #[.int .i64 (v : Int), .int .u64 (acc : Int)] 27 (0, 0)) ∧ C wx) (fun _ i _ => k - (intOf i).toNat)
                  case atStart => exact ⟨0, 0, r1, Nat.zero_le _, rfl, rfl, HG1.out, by decide, Lib.hid (by rw [HGR.out]; rfl), gN, hCN⟩
                  case round =>
                    clear hCN gN
                    obtain ⟨j, acc, rB, hj, rfl, rfl, hrB, hacc, hgd, hlab, hCx⟩ := hrel
                    have hj0 : (0 : Int) ≤ (j : Int) := by omega
                    obtain ⟨x0, x1, x2, x3, xC⟩ := HKY.out _ hCx
                    have c0 : wr.cell? ⟨wq.heap.size, 0, none⟩ = some (.int .i64 (v : Int)) := by rw [cell_of_row _ _ _ _ _ _ hlab]; rfl
                    have c1 : wr.cell? ⟨wq.heap.size, 1, none⟩ = some (.int .u64 (acc : Int)) := by rw [cell_of_row _ _ _ _ _ _ hlab]; rfl
                    by_cases hjk : j < k
                    · have hji : (j : Int) < (k : Int) := by omega
                      obtain ⟨bB, oB, rfl, hcB⟩ := (HSL.out _ hCx).2.2.2.cells (by omega)
                      have hcj := hcB j hjk
                      have hjc : j < (nms cp).length := by rw [nms_len, HNK.out.2]; exact hjk
                      have hdr : (nms cp).drop j = (str cp j).data.toList :: (nms cp).drop (j + 1) := by rw [List.drop_eq_getElem_cons hjc, str_get (by rw [HNK.out.2]; exact hjk)]
                      have hyz : (str cp j).size ≤ 16 := by
                        rw [← bsize, ← str_get (by rw [HNK.out.2]; exact hjk)]
                        exact (nmOk_len (HOK.out.1.cpn _ (List.getElem_mem hjc))).2
                      have hgd2 := hgd.out
                      rw [hdr] at hgd2
                      generalize str cp j = y at *
                      have hcs : ((⟨#[47]⟩ : ByteArray) ++ y).size = y.size + 1 := by rw [ByteArray.size_append]; show 1 + _ = _; omega
                      have hcd : ((⟨#[47]⟩ : ByteArray) ++ y).data.toList = 47 :: y.data.toList := by simp
                      have HGD := Lib.hid hgd2
                      have HCS2 := Lib.hid (And.intro hcs hcd)
                      have hyb := bsize y
                      have hrb := bsize rB
                      have HYB := Lib.hid (And.intro hyb hrb)
                      clear hcB hjc hdr hgd hgd2 hcs hcd hyb hrb
                      go_upto_region 18 with fail
                      generalize (⟨#[47]⟩ : ByteArray) ++ y = cB at *
                      have hcz : cB.size ≤ 17 := by rw [HCS2.out.1]; omega
                      have hr0 : (0 : Int) ≤ (rB.size : Int) := by omega
                      have hc0 : (0 : Int) ≤ (cB.size : Int) := by omega
                      clear hcj
                      have hmiss : ¬ takes y.data.toList rB.data.toList → grd ((nms cp).drop (j + 1)) (j + 1) acc rB.data.toList = grd (nms cp) 0 0 (s.data.toList.drop (x.data.toList.length + 1)) := fun h => by rw [← HGD.out, grd_miss h]
                      have hhit : takes y.data.toList rB.data.toList → grd ((nms cp).drop (j + 1)) (j + 1) (acc + 2 ^ j) (rB.extract cB.size rB.size).data.toList = grd (nms cp) 0 0 (s.data.toList.drop (x.data.toList.length + 1)) := fun h => by
                        rw [← HGD.out, grd_hit h, ext_end, HCS2.out.1, HYB.out.1]
                      have hrz : (rB.extract cB.size rB.size).size ≤ 100000 := by rw [← bsize, ext_end, List.length_drop, HYB.out.2]; omega
                      have HM := Lib.hid (And.intro hmiss (And.intro hhit hrz))
                      clear hmiss hhit hrz
                      have hac2 : acc < 2 ^ (j + 1) := Nat.lt_of_lt_of_le hacc (Nat.pow_le_pow_right (by decide) (by omega))
                      have hac3 : acc + 2 ^ j < 2 ^ (j + 1) := by rw [Nat.pow_succ]; omega
                      have hac4 : acc + 2 ^ j < 18446744073709551616 := Nat.lt_of_lt_of_le hac3 (Nat.pow_le_pow_right (n := 2) (by decide) (show j + 1 ≤ 64 by omega))
                      have HAC := Lib.hid (And.intro hac2 hac3)
                      have hj64 : j < 64 := by omega
                      have cb := fun W => bit_any j hj64 W
                      have f1 : wr.frozen? ⟨wq.heap.size, 1, none⟩ = false := frozen_of_row _ _ _ _ _ hlab
                      have hwr : IntKind.u64.wrap ((acc : Int) + ((2 ^ j : Nat) : Int)) = ((acc + 2 ^ j : Nat) : Int) := by
                        generalize 2 ^ j = p at *
                        rw [IntWalk.u64_in _ (by omega)]; omega
                      have hstc := HST.out wr wq.heap.size 1 (.int .u64 ((acc + 2 ^ j : Nat) : Int)) hCx hgz
                      have hsth := setCell_heap hlab 1 (.int .u64 ((acc + 2 ^ j : Nat) : Int))
                      have HSH := Lib.hid (And.intro hstc (And.intro hsth (And.intro hlab hCx)))
                      have HGZ := Lib.hid hgz
                      clear hac2 hac3 hac4 hacc hstc hsth hlab hCx c0
                      generalize hpj : ((2 ^ j : Nat) : Int) = pj at *
                      generalize hacN : ((acc + 2 ^ j : Nat) : Int) = acN at *
                      have HAN := Lib.hid hacN
                      clear hacN hpj
                      rcases takes_ways rB y cB HCS2.out.1 HCS2.out.2 with ⟨t1, tn⟩ | ⟨t1, t2, tn⟩ | ⟨t1, t2, t3, tn⟩ | ⟨t1, t2, t3, z, t4, ⟨t5, tn⟩ | ⟨t5, tn⟩⟩
                      · have HT := Lib.hid (HM.out.1 tn)
                        clear tn
                        go_wp2
                        go_roundw
                        case rel => exact ⟨j + 1, acc, rB, by omega, by go_num, rfl, hrB, HAC.out.1, HT.out, HSH.out.2.2.1, HSH.out.2.2.2⟩
                        case measure => simp [intOf]; omega
                      · have HT := Lib.hid (HM.out.1 tn)
                        clear tn
                        go_wp2
                        go_roundw
                        case rel => exact ⟨j + 1, acc, rB, by omega, by go_num, rfl, hrB, HAC.out.1, HT.out, HSH.out.2.2.1, HSH.out.2.2.2⟩
                        case measure => simp [intOf]; omega
                      · have HT := Lib.hid (HM.out.2.1 tn)
                        clear tn
                        go_wp2_with fail
                        refine wp_region_still_tail 6 (by kernel_rfl) (by kernel_rfl) ?_
                        simp only [List.take_succ_cons, List.take_zero, List.drop_succ_cons, List.drop_zero]
                        still_step
                        still_step
                        still_step
                        still_call ((cb _).mono fun _ _ h => ⟨h.1, h.2.symm⟩)
                        still_step
                        still_step
                        refine wpStill_nil ?_
                        change wpList _ _ _ _ _ wr.drew
                        go_wp2
                        go_roundw
                        case rel => exact ⟨j + 1, acc + 2 ^ j, _, by omega, by go_num, rfl, HM.out.2.2, HAC.out.2, HT.out, by rw [HAN.out]; exact HSH.out.2.1, HCS.out _ HSH.out.1⟩
                        case measure => simp [intOf]; omega
                      · have HT := Lib.hid (HM.out.2.1 tn)
                        clear tn
                        go_wp2_with fail
                        refine wp_region_still_tail 6 (by kernel_rfl) (by kernel_rfl) ?_
                        simp only [List.take_succ_cons, List.take_zero, List.drop_succ_cons, List.drop_zero]
                        still_step
                        still_step
                        still_step
                        still_call ((cb _).mono fun _ _ h => ⟨h.1, h.2.symm⟩)
                        still_step
                        still_step
                        refine wpStill_nil ?_
                        change wpList _ _ _ _ _ wr.drew
                        go_wp2
                        go_roundw
                        case rel => exact ⟨j + 1, acc + 2 ^ j, _, by omega, by go_num, rfl, HM.out.2.2, HAC.out.2, HT.out, by rw [HAN.out]; exact HSH.out.2.1, HCS.out _ HSH.out.1⟩
                        case measure => simp [intOf]; omega
                      · have HT := Lib.hid (HM.out.1 tn)
                        clear tn
                        go_wp2
                        go_roundw
                        case rel => exact ⟨j + 1, acc, rB, by omega, by go_num, rfl, hrB, HAC.out.1, HT.out, HSH.out.2.2.1, HSH.out.2.2.2⟩
                        case measure => simp [intOf]; omega
                    · obtain rfl : j = k := by omega
                      have hjE : ¬ (j : Int) < (j : Int) := by omega
                      have hg9 : grd (nms cp) 0 0 (s.data.toList.drop (x.data.toList.length + 1)) = (acc, rB.data.toList) := by
                        rw [← hgd.out, List.drop_of_length_le (by rw [nms_len, HNK.out.2]; exact Nat.le_refl _)]; rfl
                      have hat := atLv_d (cp := nms cp) Q1.out Q2.out Q3.out Q4.out Q5.out hg9
                      cases hq9 : (rB.toList == []) with
                      | true =>
                        obtain rfl := HNX.out.2.1 acc (hat.trans (if_pos (by rw [empty_is] at hq9; exact of_decide_eq_true hq9)))
                        have z0 : wr.frozen? ⟨w.heap.size + 1, 0, none⟩ = false := frozen_of_row _ _ _ _ _ (HRB.out _ hCx)
                        have z1 : wr.frozen? ⟨w.heap.size + 1, 1, none⟩ = false := frozen_of_row _ _ _ _ _ (HRB.out _ hCx)
                        have HL9 := Lib.hid hlab
                        clear hg9 hat hgd hacc hlab
                        go_wp2
                        have hst := store_lab (HRB.out _ hCx) (.int .i64 (v : Int)) (.int .u64 (acc : Int))
                        exact ret_lab2 rfl rfl rfl hst.1 rfl ⟨rfl, Eff.below (HCB.out _ hCx) hst.2 (HCB.out _ hCx).size (fun k hk => by have : k = w.heap.size + 1 := hk; omega)⟩
                      | false =>
                        have HN := Lib.hid (HNX.out.1 (hat.trans (if_neg (by rw [empty_is] at hq9; exact of_decide_eq_false hq9))))
                        clear hg9 hat hgd hacc hlab
                        go_wp2
                        go_roundw
                        case rel => exact ⟨v + 1, by omega, by go_num, HN.out, hCx⟩
                        case measure => simp [intOf]; omega
      · obtain rfl : v = n := by omega
        have hjE : ¬ (v : Int) < (v : Int) := by omega
        obtain rfl := HOK.out.2.trans (lp_none HOK.out.1 (fun u hu => hno.out u hu (by rw [nms_len, HNK.out.1] at hu; exact hu)))
        have z0 : wr.frozen? ⟨w.heap.size + 1, 0, none⟩ = false := frozen_of_row _ _ _ _ _ (HRB.out _ hCr)
        have z1 : wr.frozen? ⟨w.heap.size + 1, 1, none⟩ = false := frozen_of_row _ _ _ _ _ (HRB.out _ hCr)
        clear hno
        go_wp2
        have hst := store_lab (HRB.out _ hCr) (.int .i64 0) (.int .u64 0)
        exact ret_lab2 rfl rfl rfl hst.1 rfl ⟨rfl, Eff.below (HCB.out _ hCr) hst.2 (HCB.out _ hCr).size (fun k hk => by have : k = w.heap.size + 1 := hk; omega)⟩
end Go.Proofs.YtmcianehedhfeaaGreatDoor
