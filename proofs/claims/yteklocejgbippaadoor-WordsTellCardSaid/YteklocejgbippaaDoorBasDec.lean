/- Package base64: Decode (for seats that reach no Fold). -/
import Derived.Test.YteklocejgbippaaDoorBasE
set_option linter.unusedVariables false
set_option linter.unusedSimpArgs false
namespace Go.Proofs.YteklocejgbippaaDoor
open Go.RowKit
theorem decode_any (s : ByteArray) (w : World) (hs : s.size ≤ 1000000) :
    Calls Tryd.prog 18 #[.string s] w fun e w' => e = .returned (.tuple #[.string (decStr s.data.toList), .int .i64 (decCode s.data.toList)]) ∧ Below w.heap.size w w' := by
  have c1 := new_any w
  go_enter Tryd.func18, Tryd.ntmps18
  go_wp2_with fail
  refine c1.mono ?_
  rintro e w1 ⟨rfl, hc, hb⟩
  have c2 := codec_any w.heap.size 0 s w1 hc hs (by decide) (by decide)
  unfold DecPost at c2
  have HB := Lib.hid hb
  clear c1 hc hb
  go_wp2_with fail
  refine c2.mono ?_
  rintro e w2 ⟨rfl, hc, he⟩
  have H2 := Lib.hid (Below.trans HB.out (he.to_below (B := w.heap.size) HB.out.size (fun k hk => Nat.le_of_eq hk.symm)))
  clear c2 hc he
  go_wp2
  go_ret2
  exact ⟨rfl, H2.out⟩
theorem decStr_some {s o : List UInt8} (h : dec s = some o) : decStr s = ⟨o.toArray⟩ ∧ decCode s = 0 ∧ decLen s = o.length := by unfold decStr decCode decLen; rw [h]; exact ⟨rfl, rfl, rfl⟩
theorem decStr_none {s : List UInt8} (h : dec s = none) : decStr s = ⟨#[]⟩ ∧ decCode s = 2 ∧ decLen s = 0 := by unfold decStr decCode decLen; rw [h]; exact ⟨rfl, rfl, rfl⟩
theorem cat_ba (a t : ByteArray) : (⟨(a.data.toList ++ t.data.toList).toArray⟩ : ByteArray) = a ++ t := by
  apply ByteArray.ext; simp
theorem cat_ll (a t : List UInt8) : (⟨a.toArray⟩ : ByteArray) ++ (⟨t.toArray⟩ : ByteArray) = ⟨(a ++ t).toArray⟩ := by
  apply ByteArray.ext; simp
def MaxAt (w : World) : Prop := ∃ m, w.cell? ⟨0, 0, none⟩ = some (.int .i64 m)
theorem MaxAt.below {w w' : World} (h : MaxAt w) (hb : Below w.heap.size w w') : MaxAt w' := by
  obtain ⟨m, hm⟩ := h
  exact ⟨m, (hb.cell (World.block_lt_of_cell? _ _ hm)).trans hm⟩
end Go.Proofs.YteklocejgbippaaDoor
