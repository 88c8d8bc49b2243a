/- Package quoted: what a byte's sign is; Sign, of the program and of the document. -/
import Derived.Test.YtjkonhpmfolcoaaDoorRows
import Derived.Test.YtjkonhpmfolcoaaDoorBuild
import Derived.Test.YtjkonhpmfolcoaaDoorChg
import Derived.RegionTactic
import Derived.ChangeAlike
set_option linter.unusedVariables false
set_option linter.unusedSimpArgs false
namespace Go.Proofs.YtjkonhpmfolcoaaDoor
open Go.RowKit
def hexd (v : Nat) : UInt8 := UInt8.ofNat (if v < 10 then 48 + v else 55 + v)
theorem hexd_toNat {v : Nat} (h : v < 16) : (hexd v).toNat = if v < 10 then 48 + v else 55 + v := by
  unfold hexd
  rw [UInt8.toNat_ofNat']
  split <;> omega
/-- Is the byte told as it is? -/
def asIs (c : UInt8) (last : Bool) : Bool := decide (33 ≤ c.toNat ∧ c.toNat ≤ 126 ∧ c.toNat ≠ 61 ∨ (c.toNat = 32 ∨ c.toNat = 9) ∧ last = false)
def signL (c : UInt8) (last : Bool) : List UInt8 := if asIs c last then [c] else [61, hexd (c.toNat / 16), hexd (c.toNat % 16)]
theorem asIs_yes {c : UInt8} {last : Bool} (h : asIs c last = true) : (33 ≤ c.toNat ∧ c.toNat < 61) ∨ (61 < c.toNat ∧ c.toNat ≤ 126) ∨ (last = false ∧ c.toNat = 32) ∨ (last = false ∧ c.toNat = 9) := by
  unfold asIs at h
  cases last <;> simp at h ⊢ <;> omega
theorem asIs_no {c : UInt8} {last : Bool} (h : asIs c last = false) : c.toNat < 9 ∨ (9 < c.toNat ∧ c.toNat < 32) ∨ c.toNat = 61 ∨ 127 ≤ c.toNat ∨ (last = true ∧ c.toNat = 32) ∨ (last = true ∧ c.toNat = 9) := by
  unfold asIs at h
  cases last <;> simp at h ⊢ <;> omega
theorem conv1 (w : World) (c : UInt8) (n : Int) (hn : n = c.toNat) : (convert 33 9 (.slice (some ⟨w.heap.size, 0, none⟩) 1 1)).run Tryd.prog (w.alloc (.cells #[.int .u8 n] 5 (0, 0))) = .ok (.string ⟨#[c]⟩) (w.alloc (.cells #[.int .u8 n] 5 (0, 0))) := by
  subst hn
  exact conv_new (l := [c]) (R := []) (heap_alloc_new _ _) rfl
theorem conv3 (w : World) (a b c : UInt8) (x y z : Int) (hx : x = a.toNat) (hy : y = b.toNat) (hz : z = c.toNat) : (convert 33 9 (.slice (some ⟨w.heap.size, 0, none⟩) 3 3)).run Tryd.prog (w.alloc (.cells #[.int .u8 x, .int .u8 y, .int .u8 z] 5 (0, 0))) = .ok (.string ⟨#[a, b, c]⟩) (w.alloc (.cells #[.int .u8 x, .int .u8 y, .int .u8 z] 5 (0, 0))) := by
  subst hx hy hz
  exact conv_new (l := [a, b, c]) (R := []) (heap_alloc_new _ _) rfl
set_option maxRecDepth 100000 in
theorem sign_plain (c : UInt8) (last : Bool) (w : World) (h : asIs c last = true) :
    Calls Tryd.prog 14 #[.int .u8 c.toNat, .bool last] w fun e w' => e = .returned (.string ⟨#[c]⟩) ∧ Below w.heap.size w w' := by
  have hc := asIs_yes h
  have hcv := conv1 w c c.toNat rfl
  clear h
  obtain ⟨z, hz⟩ : ∃ z : Int, z = c.toNat := ⟨_, rfl⟩
  rw [← hz] at hcv ⊢
  have HC := Lib.hid hc
  rcases (show (33 ≤ z ∧ z < 61) ∨ (61 < z ∧ z ≤ 126) ∨ (last = false ∧ z = 32) ∨ (last = false ∧ z = 9) by rcases hc with h | h | ⟨h, h'⟩ | ⟨h, h'⟩; exact .inl (by omega); exact .inr (.inl (by omega)); exact .inr (.inr (.inl ⟨h, by omega⟩)); exact .inr (.inr (.inr ⟨h, by omega⟩))) with ⟨h1, h2⟩ | ⟨h1, h2⟩ | ⟨rfl, rfl⟩ | ⟨rfl, rfl⟩
  all_goals
    clear hz hc
    go_enter Tryd.func14, Tryd.ntmps14
    go_wp2
    go_ret
    exact ⟨rfl, (Below.refl _ _).alloc (Nat.le_refl _) _⟩
def digs : ByteArray := ⟨#[48, 49, 50, 51, 52, 53, 54, 55, 56, 57, 65, 66, 67, 68, 69, 70]⟩
theorem digs_at : ∀ v : Nat, v < 16 → ∀ h : v < digs.size, digs[v]'h = hexd v := by decide +kernel
theorem and15 : ∀ n : Fin 256, bits BinOp.and IntKind.u8 (n.val : Int) 15 = (n.val : Int) % 16 := by decide +kernel
theorem and15_of (z : Int) (h1 : 0 ≤ z) (h2 : z ≤ 255) : bits BinOp.and IntKind.u8 z 15 = z % 16 := by
  obtain ⟨n, rfl⟩ := Int.eq_ofNat_of_zero_le h1
  exact and15 ⟨n, by omega⟩
theorem conv3d (w : World) (a b c : UInt8) (x y z : Int) (hx : x = a.toNat) (hy : y = b.toNat) (hz : z = c.toNat) : (convert 33 9 (.slice (some ⟨w.heap.size, 0, none⟩) 3 3)).run Tryd.prog (w.alloc (.cells #[.int .u8 x, .int .u8 y, .int .u8 z] 5 (0, 0))).drew = .ok (.string ⟨#[a, b, c]⟩) (w.alloc (.cells #[.int .u8 x, .int .u8 y, .int .u8 z] 5 (0, 0))).drew := by
  subst hx hy hz
  exact conv_new (w := (w.alloc _).drew) (l := [a, b, c]) (R := []) (heap_alloc_new w _) rfl
set_option maxRecDepth 100000 in
theorem sign_coded (c : UInt8) (last : Bool) (w : World) (h : asIs c last = false) :
    Calls Tryd.prog 14 #[.int .u8 c.toNat, .bool last] w fun e w' => e = .returned (.string ⟨#[61, hexd (c.toNat / 16), hexd (c.toNat % 16)]⟩) ∧ Below w.heap.size w w' := by
  have hc := asIs_no h
  clear h
  obtain ⟨z, hz⟩ : ∃ z : Int, z = c.toNat := ⟨_, rfl⟩
  have hz1 : 0 ≤ z := by omega
  have hz2 : z ≤ 255 := by have := c.toNat_lt; omega
  rw [← hz]
  obtain ⟨x, hx⟩ : ∃ x, x = hexd (c.toNat / 16) := ⟨_, rfl⟩
  obtain ⟨y, hy⟩ : ∃ y, y = hexd (c.toNat % 16) := ⟨_, rfl⟩
  have hq1 : 0 ≤ z / 16 := by omega
  have hq2 : z / 16 < 16 := by omega
  have hr1 : 0 ≤ z % 16 := by omega
  have hr2 : z % 16 < 16 := by omega
  have hp : ∀ h, digs[(z / 16).toNat]'h = x := fun h => by rw [digs_at _ (by omega), hx]; congr 1; omega
  have hq : ∀ h, digs[(z % 16).toNat]'h = y := fun h => by rw [digs_at _ (by omega), hy]; congr 1; omega
  have hcv := conv3d w 61 x y 61 _ _ rfl rfl rfl
  unfold digs at hp hq
  rw [← hx, ← hy]
  have hb := and15_of _ hz1 hz2
  clear hx hy
  rcases (show z < 9 ∨ (9 < z ∧ z < 32) ∨ ((z != 61) = false ∧ 32 < z ∧ z < 127) ∨ 127 ≤ z ∨ (last = true ∧ (z == 32) = true ∧ z ≤ 32) ∨ (last = true ∧ (z == 32) = false ∧ (z == 9) = true ∧ z ≤ 32) by
      rcases hc with h | h | h | h | ⟨h, h'⟩ | ⟨h, h'⟩
      · exact .inl (by omega)
      · exact .inr (.inl (by omega))
      · exact .inr (.inr (.inl ⟨by simp; omega, by omega, by omega⟩))
      · exact .inr (.inr (.inr (.inl (by omega))))
      · exact .inr (.inr (.inr (.inr (.inl ⟨h, by simp; omega, by omega⟩))))
      · exact .inr (.inr (.inr (.inr (.inr ⟨h, by simp; omega, by simp; omega, by omega⟩))))) with h1 | ⟨h1, h2⟩ | ⟨h1, h2, h3⟩ | h1 | ⟨rfl, h2, h3⟩ | ⟨rfl, h2, h3, h4⟩
  all_goals
    clear hz hc
    go_enter Tryd.func14, Tryd.ntmps14
    go_wp2
    go_region
    go_wp2
    go_ret
    exact ⟨rfl, ((Below.refl _ _).alloc (Nat.le_refl _) _).drew⟩
theorem sign_any (c : UInt8) (last : Bool) (w : World) :
    Calls Tryd.prog 14 #[.int .u8 c.toNat, .bool last] w fun e w' => e = .returned (.string ⟨(signL c last).toArray⟩) ∧ Below w.heap.size w w' := by
  unfold signL
  cases h : asIs c last
  · exact sign_coded c last w h
  · exact sign_plain c last w h
end Go.Proofs.YtjkonhpmfolcoaaDoor
