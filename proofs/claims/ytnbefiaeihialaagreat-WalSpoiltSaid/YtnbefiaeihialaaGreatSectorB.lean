/- Package sector: Write. -/
import Derived.Test.YtnbefiaeihialaaGreatSectorA
set_option linter.unusedVariables false
set_option linter.unusedSimpArgs false
namespace Go.Proofs.YtnbefiaeihialaaGreat
open Go.RowKit
/-- So many zeros (simp does not write them out). -/
def zeros (n : Nat) : List UInt8 := List.replicate n 0
theorem zeros_len (n : Nat) : (zeros n).length = n := by simp [zeros]
def fill (s : List UInt8) : List UInt8 := s ++ List.replicate (64 - s.length) 0
theorem fill_len {s : List UInt8} (h : s.length ≤ 64) : (fill s).length = 64 := by simp [fill]; omega
def putAt (data : List UInt8) (o : Nat) (x : List UInt8) : List UInt8 := data.take o ++ x ++ data.drop (o + x.length)
theorem putAt_len {data x : List UInt8} {o : Nat} (h : o + x.length ≤ data.length) : (putAt data o x).length = data.length := by simp [putAt]; omega
theorem putAt_cells (d : List UInt8) (o : Nat) (x : List UInt8) (R : List Value) (h : o + x.length ≤ d.length) :
    (bcells d ++ R).take o ++ bcells x ++ (bcells d ++ R).drop (o + (bcells x).length) = bcells (putAt d o x) ++ R := by
  rw [bcells_length, List.take_append_of_le_length (by rw [bcells_length]; omega), List.drop_append_of_le_length (by rw [bcells_length]; omega), bcells_take, bcells_drop, putAt, bcells_append, bcells_append, List.append_assoc, List.append_assoc, List.append_assoc]
def tornN (k : Dk) : Nat := (max 0 (min k.torn 64)).toNat
/-- The disk behind a write that is let in. -/
def wroteK (k : Dk) (i : Nat) (s : List UInt8) : Dk :=
  if k.cut = k.since + 1 then { k with data := putAt k.data (i * 64) ((fill s).take (tornN k)), cut := 0, torn := 0, since := k.since + 1, all := k.all + 1, down := true }
  else { k with data := putAt k.data (i * 64) (fill s), since := k.since + 1, all := k.all + 1 }
def wroteC (k : Dk) : Int := if k.cut = k.since + 1 then 6 else 0
set_option maxHeartbeats 400000 in
theorem write_no (g : Nat) (i : Int) (s : ByteArray) (cd : Int) (w : World) (h0 : (cd != 0) = true)
    (c1 : Calls Tryz.prog 50 #[.pointer (some ⟨g, 0, none⟩), .int .i64 i] w fun e w' => e = .returned (.tuple #[.slice none 0 0, .int .i64 cd]) ∧ w = w') :
    Calls Tryz.prog 26 #[.pointer (some ⟨g, 0, none⟩), .int .i64 i, .string s] w fun e w' => e = .returned (.int .i64 cd) ∧ w = w' := by
  go_enter Tryz.func26, Tryz.ntmps26
  go_wp2_with (go_at_call 50; refine c1.mono ?_; rintro e w' ⟨rfl, rfl⟩)
  go_ret
  exact ⟨rfl, rfl⟩
set_option maxHeartbeats 400000 in
theorem write_long (g D c : Nat) (R : List Value) (k : Dk) (i : Nat) (s : ByteArray) (w : World) (h : DkAt w g D c R k) (hd : k.down = false) (hi : i < k.n) (hs : 64 < s.size) (hs2 : s.size ≤ 9223372036854775807) :
    Calls Tryz.prog 26 #[.pointer (some ⟨g, 0, none⟩), .int .i64 i, .string s] w fun e w' => e = .returned (.int .i64 3) ∧ w = w' := by
  have c1 := place_in g D c R k i w h hd hi
  clear h hd hi
  go_enter Tryz.func26, Tryz.ntmps26
  go_wp2_with (go_at_call 50; refine c1.mono ?_; rintro e w' ⟨rfl, rfl⟩)
  go_ret
  exact ⟨rfl, rfl⟩
theorem Tryz.infoByte : (Tryz.prog.info? 5).map (fun i => (i.zero, i.size, i.bytes)) = some (some (.int .u8 0), 1, 1) := by kernel_rfl
theorem Tryz.sizeByte : (Tryz.prog.info? 5).map (·.size) = some 1 := by kernel_rfl
set_option maxHeartbeats 1000000 in
theorem write_in (g D c : Nat) (R : List Value) (k : Dk) (i : Nat) (s : ByteArray) (w : World) (h : DkAt w g D c R k) (hd : k.down = false) (hi : i < k.n) (hs : s.size ≤ 64)
    (b1 : 0 ≤ k.since) (b2 : k.since < 1000000000000) (b3 : 0 ≤ k.all) (b4 : k.all < 1000000000000) :
    Calls Tryz.prog 26 #[.pointer (some ⟨g, 0, none⟩), .int .i64 i, .string s] w
      fun e w' => e = .returned (.int .i64 (wroteC k)) ∧ Eff (fun b => b = g ∨ b = D) w w' ∧ DkAt w' g D c R (wroteK k i s.data.toList) := by
  have c1 := place_in g D c R k i w h hd hi
  obtain ⟨m0, m1, m2, m3, m4, m5⟩ := h.cell
  have c2 := sadd_any ⟨g, 5, none⟩ k.all 1 w m5 (h.free 5) (by omega) (by omega)
  have hmk : ∀ W : World, (Instr.makeSlice 73 (.int .i64 64) (.int .i64 64)).run Tryz.prog W = .ok (.slice (some ⟨W.heap.size, 0, none⟩) 64 64) (W.alloc (.cells (madeCells #[.int .u8 0] 64) 5)) := fun W =>
    run_make_row' 73 5 (.int .u8 0) 1 Tryz.underlying73 Tryz.infoByte rfl .i64 .i64 64 (by decide) (by decide) W
  have H := Lib.hid h
  have HD := Lib.hid hd
  clear h hd m0 m1 m2 m3 m4 m5
  go_enter Tryz.func26, Tryz.ntmps26
  go_wp2_with (first | (go_at_call 50; refine c1.mono ?_; rintro e w' ⟨rfl, rfl⟩))
  refine c2.mono ?_
  rintro e w2 ⟨rfl, hw2⟩
  have hm2 : w2.heap[g]? = some (.cells ({ k with all := k.all + 1 }.cells D c) 90 (0, 0)) := by rw [← hw2, setCell_heap H.out.mem]; rfl
  have hd2 : w2.heap[D]? = some (.cells (bcells k.data ++ R).toArray 5 (0, 0)) := by rw [← hw2]; exact (Below.heap_setCell _ _ _ _ (fun e => H.out.ne e.symm)).trans H.out.dat
  have he2 : Eff (fun b => b = g ∨ b = D) w w2 := by rw [← hw2]; exact (Eff.refl _ _).setCell (p := ⟨g, 5, none⟩) (fun _ => .inl rfl) _
  have n3 : w2.cell? ⟨g, 3, none⟩ = some (.int .i64 k.since) := by rw [cell_of_row _ _ _ _ _ _ hm2]; rfl
  have f3 := frozen_of_row w2 g 3 _ _ hm2
  clear hw2 c1 c2
  have hz : (madeCells #[Value.int .u8 0] 64) = (bcells (zeros 64)).toArray := by unfold zeros; rw [← bcells_zero]
  rw [hz] at hmk
  clear hz
  go_wp2_with (with_reducible refine wpList_copy_string rfl (.tmp 36) (.tmp 37) 73 9 rfl 5 Tryz.underlying73 Tryz.sizeByte w2.heap.size 0 64 64 s rfl rfl (bcells (zeros 64)) 5 ?hg hs ?hfit ?_)
  case hg =>
    have h := heap_alloc_new (w2.setCell ⟨g, 3, none⟩ (.int .i64 (k.since + 1))) (.cells (bcells (zeros 64)).toArray 5 (0, 0))
    rwa [World.size_setCell] at h
  case hfit => rw [bcells_length, zeros_len]; omega
  intro w3 hE3 hm3
  have hgD := H.out.ne
  have hgl : g < w2.heap.size := lt_of_block hm2
  have hDl : D < w2.heap.size := lt_of_block hd2
  have hm3g : w3.heap[g]? = some (.cells ({ k with all := k.all + 1, since := k.since + 1 }.cells D c) 90 (0, 0)) := by
    refine (hE3.heap ?_ (by omega))
    exact (Below.heap_alloc _ _ _ (by simp; omega)).trans ((setCell_heap hm2 3 _).trans rfl)
  have hd3 : w3.heap[D]? = some (.cells (bcells k.data ++ R).toArray 5 (0, 0)) := by
    refine (hE3.heap ?_ (by omega))
    exact (Below.heap_alloc _ _ _ (by simp; omega)).trans ((Below.heap_setCell _ _ _ _ (fun e => hgD e.symm)).trans hd2)
  have he3 : Eff (fun b => b = g ∨ b = D) w w3 := by
    refine Eff.trans' (he2.setCell (p := ⟨g, 3, none⟩) (fun _ => .inl rfl) (.int .i64 (k.since + 1)) |>.alloc (.cells (bcells (zeros 64)).toArray 5 (0, 0))) hE3 (fun x hx e => ?_)
    have := he2.size
    omega
  have hm3b : w3.heap[w2.heap.size]? = some (.cells (bcells (fill s.data.toList)).toArray 5 (0, 0)) := by
    rw [hm3]
    have hsz : s.data.toList.length = s.size := by rw [Array.length_toList]; rfl
    rw [fill, bcells_append, ← hsz]
    try rw [List.take_zero, List.nil_append]
    try rw [Nat.zero_add]
    rw [bcells_drop]
    unfold zeros
    rw [List.drop_replicate]
  have n1 : w3.cell? ⟨g, 1, none⟩ = some (.int .i64 k.cut) := by rw [cell_of_row _ _ _ _ _ _ hm3g]; rfl
  have n2 : w3.cell? ⟨g, 2, none⟩ = some (.int .i64 k.torn) := by rw [cell_of_row _ _ _ _ _ _ hm3g]; rfl
  have n4 : w3.cell? ⟨g, 3, none⟩ = some (.int .i64 (k.since + 1)) := by rw [cell_of_row _ _ _ _ _ _ hm3g]; rfl
  have n5 : w3.cell? ⟨g, 4, none⟩ = some (.bool k.down) := by rw [cell_of_row _ _ _ _ _ _ hm3g]; rfl
  have f1 := frozen_of_row w3 g 1 _ _ hm3g
  have f2 := frozen_of_row w3 g 2 _ _ hm3g
  have f4 := frozen_of_row w3 g 4 _ _ hm3g
  have HM := Lib.hid (And.intro hm3g (And.intro hd3 (And.intro he3 hm3b)))
  clear hm3 hm3g hd3 he3 hm3b hE3 hm2 hd2 he2 n3 f3 hmk
  by_cases hc : k.cut = k.since + 1
  · have HC := Lib.hid hc
    rw [hc] at n1
    clear hc
    have hsz : s.data.toList.length = s.size := by rw [Array.length_toList]; rfl
    rcases (show k.torn ≤ 0 ∨ (0 < k.torn ∧ k.torn ≤ 64) ∨ 64 < k.torn by omega) with ht1 | ⟨ht1, ht2⟩ | ht1
    · have ht : tornN k = 0 := by unfold tornN; omega
      have HT := Lib.hid ht
      clear ht
      go_wp2
      go_quiet (fail)
      go_wp2_with (with_reducible refine wpList_copy_row rfl (.tmp 49) (.tmp 58) 73 73 rfl 5 Tryz.underlying73 Tryz.sizeByte D (i * 64) 64 64 _ _ _ rfl rfl (bcells k.data ++ R) 5 ?hgA (bcells ((fill s.data.toList).take (0))) ?hnA ?hsA ?hfA (bcells_one _) ?_)
      case hgA => exact HM.out.2.1
      case hnA => rw [bcells_length, List.length_take, fill_len (by rw [hsz]; exact hs)] <;> (show _ = min _ _; omega)
      case hsA =>
        intro j v hj
        rw [Go.WideShapes.add_plain, Nat.zero_add, World.cell?_drewN, cell_of_row _ _ _ _ _ _ HM.out.2.2.2, List.getElem?_toArray]
        rw [← bcells_take, List.getElem?_take] at hj; split at hj; exact hj; cases hj
      case hfA => rw [bcells_length, List.length_take, fill_len (by rw [hsz]; exact hs), List.length_append, bcells_length, H.out.ok.len]; omega
      intro w4 hE4 hm4
      have hlen : i * 64 + ((fill s.data.toList).take (0)).length ≤ k.data.length := by rw [H.out.ok.len, List.length_take, fill_len (by rw [hsz]; exact hs)]; omega
      rw [show k.data = k.data from rfl] at hm4
      have hm4' : w4.heap[D]? = some (.cells (bcells (putAt k.data (i * 64) ((fill s.data.toList).take (0))) ++ R).toArray 5 (0, 0)) := by
        rw [← putAt_cells _ _ _ _ hlen]
        first | exact hm4 | (simpa [bcells] using hm4)
      have hm4g := hE4.heap (HM.out.1 : (w3.drewN nq).heap[g]? = _) H.out.ne
      have he4 : Eff (fun b => b = g ∨ b = D) w w4 := Eff.trans' (HM.out.2.2.1.drewN nq) hE4 (fun x _ e => .inr e)
      have p1 : w4.cell? ⟨g, 1, none⟩ = some (.int .i64 k.cut) := by rw [cell_of_row _ _ _ _ _ _ hm4g]; rfl
      have p2 : w4.cell? ⟨g, 2, none⟩ = some (.int .i64 k.torn) := by rw [cell_of_row _ _ _ _ _ _ hm4g]; rfl
      have p4 : w4.cell? ⟨g, 4, none⟩ = some (.bool k.down) := by rw [cell_of_row _ _ _ _ _ _ hm4g]; rfl
      have e1 := frozen_of_row w4 g 1 _ _ hm4g
      have e2 := frozen_of_row w4 g 2 _ _ hm4g
      have e4 := frozen_of_row w4 g 4 _ _ hm4g
      have HF : Hid (Eff (fun b => b = g ∨ b = D) w (((w4.setCell ⟨g, 1, none⟩ (.int .i64 0)).setCell ⟨g, 2, none⟩ (.int .i64 0)).setCell ⟨g, 4, none⟩ (.bool true)) ∧
          DkAt (((w4.setCell ⟨g, 1, none⟩ (.int .i64 0)).setCell ⟨g, 2, none⟩ (.int .i64 0)).setCell ⟨g, 4, none⟩ (.bool true)) g D c R (wroteK k i s.data.toList)) := by
        refine ⟨((he4.setCell (p := ⟨g, 1, none⟩) (fun _ => .inl rfl) _).setCell (p := ⟨g, 2, none⟩) (fun _ => .inl rfl) _).setCell (p := ⟨g, 4, none⟩) (fun _ => .inl rfl) _, ?_⟩
        unfold wroteK
        rw [if_pos HC.out, HT.out]
        refine ⟨⟨H.out.ok.n1, H.out.ok.n2, by rw [putAt_len hlen]; exact H.out.ok.len⟩, H.out.cap, ?_, ?_⟩
        · exact (setCell_heap (setCell_heap (setCell_heap hm4g 1 _) 2 _) 4 _).trans rfl
        · refine (Below.heap_setCell _ _ _ _ (fun e => H.out.ne e.symm)).trans ((Below.heap_setCell _ _ _ _ (fun e => H.out.ne e.symm)).trans ((Below.heap_setCell _ _ _ _ (fun e => H.out.ne e.symm)).trans hm4'))
      have HW : Hid (wroteC k = 6) := if_pos HC.out
      clear hm4 hm4' hm4g hE4 he4 hlen n1 n2 n4 n5 f1 f2 f4
      go_wp2
      go_ret
      exact ⟨ret_int HW.out.symm, HF.out⟩
    · have ht : tornN k = k.torn.toNat := by unfold tornN; omega
      have HT := Lib.hid ht
      clear ht
      go_wp2
      go_quiet (fail)
      go_wp2_with (with_reducible refine wpList_copy_row rfl (.tmp 49) (.tmp 58) 73 73 rfl 5 Tryz.underlying73 Tryz.sizeByte D (i * 64) 64 64 _ _ _ rfl rfl (bcells k.data ++ R) 5 ?hgB (bcells ((fill s.data.toList).take (k.torn.toNat))) ?hnB ?hsB ?hfB (bcells_one _) ?_)
      case hgB => exact HM.out.2.1
      case hnB => rw [bcells_length, List.length_take, fill_len (by rw [hsz]; exact hs)] <;> (show _ = min _ _; omega)
      case hsB =>
        intro j v hj
        rw [Go.WideShapes.add_plain, Nat.zero_add, World.cell?_drewN, cell_of_row _ _ _ _ _ _ HM.out.2.2.2, List.getElem?_toArray]
        rw [← bcells_take, List.getElem?_take] at hj; split at hj; exact hj; cases hj
      case hfB => rw [bcells_length, List.length_take, fill_len (by rw [hsz]; exact hs), List.length_append, bcells_length, H.out.ok.len]; omega
      intro w4 hE4 hm4
      have hlen : i * 64 + ((fill s.data.toList).take (k.torn.toNat)).length ≤ k.data.length := by rw [H.out.ok.len, List.length_take, fill_len (by rw [hsz]; exact hs)]; omega
      rw [show k.data = k.data from rfl] at hm4
      have hm4' : w4.heap[D]? = some (.cells (bcells (putAt k.data (i * 64) ((fill s.data.toList).take (k.torn.toNat))) ++ R).toArray 5 (0, 0)) := by
        rw [← putAt_cells _ _ _ _ hlen]
        first | exact hm4 | (simpa [bcells] using hm4)
      have hm4g := hE4.heap (HM.out.1 : (w3.drewN nq).heap[g]? = _) H.out.ne
      have he4 : Eff (fun b => b = g ∨ b = D) w w4 := Eff.trans' (HM.out.2.2.1.drewN nq) hE4 (fun x _ e => .inr e)
      have p1 : w4.cell? ⟨g, 1, none⟩ = some (.int .i64 k.cut) := by rw [cell_of_row _ _ _ _ _ _ hm4g]; rfl
      have p2 : w4.cell? ⟨g, 2, none⟩ = some (.int .i64 k.torn) := by rw [cell_of_row _ _ _ _ _ _ hm4g]; rfl
      have p4 : w4.cell? ⟨g, 4, none⟩ = some (.bool k.down) := by rw [cell_of_row _ _ _ _ _ _ hm4g]; rfl
      have e1 := frozen_of_row w4 g 1 _ _ hm4g
      have e2 := frozen_of_row w4 g 2 _ _ hm4g
      have e4 := frozen_of_row w4 g 4 _ _ hm4g
      have HF : Hid (Eff (fun b => b = g ∨ b = D) w (((w4.setCell ⟨g, 1, none⟩ (.int .i64 0)).setCell ⟨g, 2, none⟩ (.int .i64 0)).setCell ⟨g, 4, none⟩ (.bool true)) ∧
          DkAt (((w4.setCell ⟨g, 1, none⟩ (.int .i64 0)).setCell ⟨g, 2, none⟩ (.int .i64 0)).setCell ⟨g, 4, none⟩ (.bool true)) g D c R (wroteK k i s.data.toList)) := by
        refine ⟨((he4.setCell (p := ⟨g, 1, none⟩) (fun _ => .inl rfl) _).setCell (p := ⟨g, 2, none⟩) (fun _ => .inl rfl) _).setCell (p := ⟨g, 4, none⟩) (fun _ => .inl rfl) _, ?_⟩
        unfold wroteK
        rw [if_pos HC.out, HT.out]
        refine ⟨⟨H.out.ok.n1, H.out.ok.n2, by rw [putAt_len hlen]; exact H.out.ok.len⟩, H.out.cap, ?_, ?_⟩
        · exact (setCell_heap (setCell_heap (setCell_heap hm4g 1 _) 2 _) 4 _).trans rfl
        · refine (Below.heap_setCell _ _ _ _ (fun e => H.out.ne e.symm)).trans ((Below.heap_setCell _ _ _ _ (fun e => H.out.ne e.symm)).trans ((Below.heap_setCell _ _ _ _ (fun e => H.out.ne e.symm)).trans hm4'))
      have HW : Hid (wroteC k = 6) := if_pos HC.out
      clear hm4 hm4' hm4g hE4 he4 hlen n1 n2 n4 n5 f1 f2 f4
      go_wp2
      go_ret
      exact ⟨ret_int HW.out.symm, HF.out⟩
    · have ht : tornN k = 64 := by unfold tornN; omega
      have HT := Lib.hid ht
      clear ht
      go_wp2
      go_quiet (fail)
      go_wp2_with (with_reducible refine wpList_copy_row rfl (.tmp 49) (.tmp 58) 73 73 rfl 5 Tryz.underlying73 Tryz.sizeByte D (i * 64) 64 64 _ _ _ rfl rfl (bcells k.data ++ R) 5 ?hgC (bcells ((fill s.data.toList).take (64))) ?hnC ?hsC ?hfC (bcells_one _) ?_)
      case hgC => exact HM.out.2.1
      case hnC => rw [bcells_length, List.length_take, fill_len (by rw [hsz]; exact hs)] <;> (show _ = min _ _; omega)
      case hsC =>
        intro j v hj
        rw [Go.WideShapes.add_plain, Nat.zero_add, World.cell?_drewN, cell_of_row _ _ _ _ _ _ HM.out.2.2.2, List.getElem?_toArray]
        rw [← bcells_take, List.getElem?_take] at hj; split at hj; exact hj; cases hj
      case hfC => rw [bcells_length, List.length_take, fill_len (by rw [hsz]; exact hs), List.length_append, bcells_length, H.out.ok.len]; omega
      intro w4 hE4 hm4
      have hlen : i * 64 + ((fill s.data.toList).take (64)).length ≤ k.data.length := by rw [H.out.ok.len, List.length_take, fill_len (by rw [hsz]; exact hs)]; omega
      rw [show k.data = k.data from rfl] at hm4
      have hm4' : w4.heap[D]? = some (.cells (bcells (putAt k.data (i * 64) ((fill s.data.toList).take (64))) ++ R).toArray 5 (0, 0)) := by
        rw [← putAt_cells _ _ _ _ hlen]
        first | exact hm4 | (simpa [bcells] using hm4)
      have hm4g := hE4.heap (HM.out.1 : (w3.drewN nq).heap[g]? = _) H.out.ne
      have he4 : Eff (fun b => b = g ∨ b = D) w w4 := Eff.trans' (HM.out.2.2.1.drewN nq) hE4 (fun x _ e => .inr e)
      have p1 : w4.cell? ⟨g, 1, none⟩ = some (.int .i64 k.cut) := by rw [cell_of_row _ _ _ _ _ _ hm4g]; rfl
      have p2 : w4.cell? ⟨g, 2, none⟩ = some (.int .i64 k.torn) := by rw [cell_of_row _ _ _ _ _ _ hm4g]; rfl
      have p4 : w4.cell? ⟨g, 4, none⟩ = some (.bool k.down) := by rw [cell_of_row _ _ _ _ _ _ hm4g]; rfl
      have e1 := frozen_of_row w4 g 1 _ _ hm4g
      have e2 := frozen_of_row w4 g 2 _ _ hm4g
      have e4 := frozen_of_row w4 g 4 _ _ hm4g
      have HF : Hid (Eff (fun b => b = g ∨ b = D) w (((w4.setCell ⟨g, 1, none⟩ (.int .i64 0)).setCell ⟨g, 2, none⟩ (.int .i64 0)).setCell ⟨g, 4, none⟩ (.bool true)) ∧
          DkAt (((w4.setCell ⟨g, 1, none⟩ (.int .i64 0)).setCell ⟨g, 2, none⟩ (.int .i64 0)).setCell ⟨g, 4, none⟩ (.bool true)) g D c R (wroteK k i s.data.toList)) := by
        refine ⟨((he4.setCell (p := ⟨g, 1, none⟩) (fun _ => .inl rfl) _).setCell (p := ⟨g, 2, none⟩) (fun _ => .inl rfl) _).setCell (p := ⟨g, 4, none⟩) (fun _ => .inl rfl) _, ?_⟩
        unfold wroteK
        rw [if_pos HC.out, HT.out]
        refine ⟨⟨H.out.ok.n1, H.out.ok.n2, by rw [putAt_len hlen]; exact H.out.ok.len⟩, H.out.cap, ?_, ?_⟩
        · exact (setCell_heap (setCell_heap (setCell_heap hm4g 1 _) 2 _) 4 _).trans rfl
        · refine (Below.heap_setCell _ _ _ _ (fun e => H.out.ne e.symm)).trans ((Below.heap_setCell _ _ _ _ (fun e => H.out.ne e.symm)).trans ((Below.heap_setCell _ _ _ _ (fun e => H.out.ne e.symm)).trans hm4'))
      have HW : Hid (wroteC k = 6) := if_pos HC.out
      clear hm4 hm4' hm4g hE4 he4 hlen n1 n2 n4 n5 f1 f2 f4
      go_wp2
      go_ret
      exact ⟨ret_int HW.out.symm, HF.out⟩
  · have hcc : (k.cut == k.since + 1) = false := by simp [hc]
    have HC := Lib.hid hc
    clear hc
    have hsz : s.data.toList.length = s.size := by rw [Array.length_toList]; rfl
    go_wp2
    go_quiet (fail)
    go_wp2_with (with_reducible refine wpList_copy_row rfl (.tmp 67) (.tmp 68) 73 73 rfl 5 Tryz.underlying73 Tryz.sizeByte D (i * 64) 64 64 _ _ _ rfl rfl (bcells k.data ++ R) 5 ?hgD (bcells (fill s.data.toList)) ?hnD ?hsD ?hfD (bcells_one _) ?_)
    case hgD => exact HM.out.2.1
    case hnD => rw [bcells_length, fill_len (by rw [hsz]; exact hs)] <;> (show _ = min _ _; omega)
    case hsD =>
      intro j v hj
      rw [Go.WideShapes.add_plain, Nat.zero_add, World.cell?_drewN, cell_of_row _ _ _ _ _ _ HM.out.2.2.2, List.getElem?_toArray]
      exact hj
    case hfD => rw [bcells_length, fill_len (by rw [hsz]; exact hs), List.length_append, bcells_length, H.out.ok.len]; omega
    intro w4 hE4 hm4
    have hlen : i * 64 + (fill s.data.toList).length ≤ k.data.length := by rw [H.out.ok.len, fill_len (by rw [hsz]; exact hs)]; omega
    rw [show k.data = k.data from rfl] at hm4
    have hm4' : w4.heap[D]? = some (.cells (bcells (putAt k.data (i * 64) (fill s.data.toList)) ++ R).toArray 5 (0, 0)) := by
      rw [← putAt_cells _ _ _ _ hlen]
      first | exact hm4 | (simpa [bcells] using hm4)
    have hm4g := hE4.heap (HM.out.1 : (w3.drewN nq).heap[g]? = _) H.out.ne
    have he4 : Eff (fun b => b = g ∨ b = D) w w4 := Eff.trans' (HM.out.2.2.1.drewN nq) hE4 (fun x _ e => .inr e)
    have p1 : w4.cell? ⟨g, 1, none⟩ = some (.int .i64 k.cut) := by rw [cell_of_row _ _ _ _ _ _ hm4g]; rfl
    have p2 : w4.cell? ⟨g, 2, none⟩ = some (.int .i64 k.torn) := by rw [cell_of_row _ _ _ _ _ _ hm4g]; rfl
    have p4 : w4.cell? ⟨g, 4, none⟩ = some (.bool k.down) := by rw [cell_of_row _ _ _ _ _ _ hm4g]; rfl
    have e1 := frozen_of_row w4 g 1 _ _ hm4g
    have e2 := frozen_of_row w4 g 2 _ _ hm4g
    have e4 := frozen_of_row w4 g 4 _ _ hm4g
    have HF : Hid (Eff (fun b => b = g ∨ b = D) w w4 ∧ DkAt w4 g D c R (wroteK k i s.data.toList)) := by
      refine ⟨he4, ?_⟩
      unfold wroteK
      rw [if_neg HC.out]
      exact ⟨⟨H.out.ok.n1, H.out.ok.n2, by rw [putAt_len hlen]; exact H.out.ok.len⟩, H.out.cap, hm4g, hm4'⟩
    have HW : Hid (wroteC k = 0) := if_neg HC.out
    clear hm4 hm4' hm4g hE4 he4 hlen n1 n2 n4 n5 f1 f2 f4
    go_wp2
    go_ret
    exact ⟨ret_int HW.out.symm, HF.out⟩
end Go.Proofs.YtnbefiaeihialaaGreat
