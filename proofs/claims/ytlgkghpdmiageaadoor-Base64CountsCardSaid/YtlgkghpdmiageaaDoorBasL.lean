/- Package base64's law folder: Base64Counts. -/
import Derived.Test.YtlgkghpdmiageaaDoorBasI
import Derived.Test.YtlgkghpdmiageaaDoorStrs
set_option linter.unusedVariables false
set_option linter.unusedSimpArgs false
namespace Go.Proofs.YtlgkghpdmiageaaDoor
open Go.RowKit Go.ChangeShapes
theorem decStr_size (s : List UInt8) : (decStr s).size = decLen s := by
  unfold decStr decLen
  cases dec s with
  | none => rfl
  | some o => exact lsize o
theorem decLen_le (s : List UInt8) : decLen s ≤ s.length := by
  unfold decLen
  cases hd : dec s with
  | none => exact Nat.zero_le _
  | some o =>
    have h2 := congrArg List.length ((dec_iff _ _).1 hd)
    rw [enc_len] at h2
    show o.length ≤ _
    omega
set_option maxRecDepth 100000 in
set_option maxHeartbeats 4000000 in
theorem counts_all (A : Option Addr) (n c : Nat) (xs : List ByteArray) (w : World) (hm : MaxAt w) (h : StrsIn w A n xs) (hz : ∀ k, k < n → (str xs k).size ≤ reachBytes) :
    Calls Tryd.prog 6 #[.slice A n c] w fun e w' => e = .returned (.bool true) ∧ Below w.heap.size w w' := by
  have c1 := awake_any w hm
  have hmax := h.max
  have HS := Lib.hid h
  have HZ := Lib.hid hz
  clear h hm hz
  by_cases h50 : n ≤ 50
  · have hni : (n : Int) ≤ 50 := by omega
    go_enter Tryd.func6, Tryd.ntmps6
    go_wp2_with fail
    refine c1.mono ?_
    rintro e w1 ⟨rfl, hb1⟩
    have c2 := new_any w1
    have H1 := Lib.hid hb1
    clear c1 hb1
    go_wp2_with fail
    refine c2.mono ?_
    rintro e w2 ⟨rfl, hco, hb2⟩
    have hgl : w.heap.size ≤ w1.heap.size := H1.out.size
    have H2 := Lib.hid (And.intro hco (H1.out.trans (hb2.mono H1.out.size)))
    generalize w1.heap.size = g at *
    clear c2 hco hb2
    go_wp2
    go_loopw [4, 5] (fun t i wr => ∃ (j cnt : Nat), j ≤ n ∧ cnt ≤ j * 1000 ∧ t = .int .i64 cnt ∧ i = .int .i64 j ∧ CoAt wr g cnt ∧ Below w.heap.size w wr) (fun _ i _ => n - (intOf i).toNat)
    case atStart => exact ⟨0, 0, Nat.zero_le _, by omega, rfl, rfl, H2.out.1, H2.out.2⟩
    case round =>
      clear H2
      obtain ⟨j, cnt, hj, hcn, rfl, rfl, hco, hbl⟩ := hrel
      have hj0 : (0 : Int) ≤ (j : Int) := by omega
      by_cases hlt : j < n
      · have hji : (j : Int) < (n : Int) := by omega
        obtain ⟨b, off, rfl, hcs⟩ := HS.out.cells (by omega)
        have q := hcs j hlt
        have hzj := HZ.out j hlt
        have hq : wr.cell? ⟨b, off + j, none⟩ = some (.string (str xs j)) := (hbl.cell (p := ⟨b, off + j, none⟩) (World.block_lt_of_cell? _ _ q)).trans q
        generalize str xs j = x at *
        clear hcs
        unfold reachBytes at hzj
        have HB := Lib.hid (And.intro hco hbl)
        by_cases hx : x.size ≤ 1000
        · have hxi : (x.size : Int) ≤ 1000 := by omega
          have c3 := codec_any g cnt x wr hco (by omega) (by omega) (by omega)
          have c4 := fun W => decode_any x W (by omega)
          unfold DecPost at c3
          have hds := decStr_size x.data.toList
          have hdl := decLen_le x.data.toList
          rw [bsize] at hdl
          generalize decStr x.data.toList = X at *
          generalize decCode x.data.toList = C at *
          generalize decLen x.data.toList = N at *
          have hXi : (X.size : Int) = (N : Int) := by omega
          have hNi : (N : Int) ≤ 1000 := by omega
          have hci : (cnt : Int) ≤ 50000 := by omega
          have hci0 : (0 : Int) ≤ (cnt : Int) := by omega
          have hni0 : (0 : Int) ≤ (N : Int) := by omega
          clear hco hbl hq hds hdl
          have hcell : ∀ W, Below w.heap.size w W → W.cell? ⟨b, off + j, none⟩ = some (.string x) := fun W hb => (hb.cell (p := ⟨b, off + j, none⟩) (World.block_lt_of_cell? _ _ q)).trans q
          have hq := hcell wr HB.out.2
          have HCL := Lib.hid hcell
          clear hcell q
          go_wp2_with fail
          refine c3.mono ?_
          rintro e w3 ⟨rfl, hc3, he3⟩
          have H3 := Lib.hid (And.intro hc3 (HB.out.2.trans (he3.to_below HB.out.2.size (fun k hk => by rw [hk]; exact hgl))))
          have hq3 := HCL.out w3 H3.out.2
          clear c3 hc3 he3 hq
          go_wp2_with fail
          refine (c4 w3).mono ?_
          rintro e w4 ⟨rfl, hb4⟩
          have H4 := Lib.hid (And.intro (H3.out.1.belowW hb4) (H3.out.2.trans (hb4.mono H3.out.2.size)))
          have c5 := count_any g _ w4 H4.out.1
          have hq4 := HCL.out w4 H4.out.2
          clear c4 hb4 hq3
          go_wp2_with fail
          refine c5.mono ?_
          rintro e w4 ⟨rfl, rfl⟩
          clear c5
          go_wp2
          go_roundw
          case rel => exact ⟨j + 1, cnt + N, by omega, by omega, by go_num, by go_num, H4.out.1, H4.out.2⟩
          case measure => simp [intOf]; omega
        · have hxi : (1000 : Int) < (x.size : Int) := by omega
          have hxi2 : (x.size : Int) ≤ 9223372036854775807 := by omega
          clear hco hbl q
          go_wp2
          go_ret
          exact ⟨rfl, HB.out.2⟩
      · obtain rfl : j = n := by omega
        have HB := Lib.hid hbl
        clear hbl hco
        go_wp2
        go_ret
        exact ⟨rfl, HB.out⟩
  · have hni : (50 : Int) < (n : Int) := by omega
    clear h50
    go_enter Tryd.func6, Tryd.ntmps6
    go_wp2_with fail
    refine c1.mono ?_
    rintro e w1 ⟨rfl, hb1⟩
    go_wp2
    go_ret
    exact ⟨rfl, hb1⟩
end Go.Proofs.YtlgkghpdmiageaaDoor
