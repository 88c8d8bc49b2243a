/- The document's disk: fill. -/
import Derived.Test.YtolkofnlihbncaaSectorF
import Derived.Test.YtolkofnlihbncaaRowB
set_option linter.unusedVariables false
set_option linter.unusedSimpArgs false
namespace Go.Proofs.Ytolkofnlihbncaa
open Go.RowKit
theorem BF.toS {w : World} {base g n cap : Nat} {l : List UInt8} (h : BF w base (.slice (some ⟨g, 0, none⟩) n cap) l) : (convert 54 9 (.slice (some ⟨g, 0, none⟩) n cap)).run Try.prog w = .ok (.string ⟨l.toArray⟩) w := by
  have h0 := h
  obtain ⟨g2, cap2, cur, fz, hv, _⟩ := h0
  have hl : l.length = n := by injection hv with _ h2; exact h2.symm
  exact conv_row hl fun j hj => by rw [Nat.zero_add]; exact h.cell hj
def slN : Value → Nat
  | .slice _ n _ => n
  | _ => 0
theorem bszS (s : ByteArray) : s.data.toList.length = s.size := by rw [Array.length_toList]; rfl
set_option maxRecDepth 100000 in
set_option maxHeartbeats 4000000 in
theorem rfill_any (s : ByteArray) (w : World) (hs : s.size ≤ 64) :
    Calls Try.prog 26 #[.string s] w fun e w' => e = .returned (.string ⟨(fill s.data.toList).toArray⟩) ∧ Below w.heap.size w w' := by
  have hs0 : (0 : Int) ≤ (s.size : Int) := by omega
  have hcv := Lib.run_convert_string_bytes (P := Try.prog) w 9 54 5 s Try.underlying9 Try.underlying54 Try.underlying5
  have hbf := BF.conv w s (by omega)
  have hb1 := bytesWorld_below w s
  obtain ⟨RR, hRR⟩ : ∃ R : ByteArray, R = ⟨(fill s.data.toList).toArray⟩ := ⟨_, rfl⟩
  rw [← hRR]
  obtain ⟨tl, htl⟩ : ∃ tl, tl = s.data.toList := ⟨_, rfl⟩
  rw [← htl] at hRR hbf
  have htn : tl.length = s.size := by rw [htl, bszS]
  generalize grownCap w s.size 0 5 = cap at *
  generalize Lib.bytesWorld w 5 s = w1 at *
  have H := Lib.hid (And.intro hbf (And.intro hb1 (And.intro hRR htn)))
  have hsz1 := hb1.size
  clear hbf hb1 hRR htl htn
  go_enter Try.func26, Try.ntmps26
  go_wp2
  clear hcv
  go_loopw [3] (fun v wr => ∃ (N g cap : Nat) (L : List UInt8), s.size ≤ N ∧ N ≤ 64 ∧ v = .slice (some ⟨g, 0, none⟩) N cap ∧ Hid (L = tl ++ List.replicate (N - s.size) 0) ∧ Hid (BF wr w.heap.size v L ∧ Below w.heap.size w wr) ∧ w.heap.size ≤ wr.heap.size) (fun v _ => 64 - slN v)
  case atStart => exact ⟨s.size, w.heap.size, cap, tl, Nat.le_refl _, hs, rfl, Lib.hid (by simp), Lib.hid ⟨H.out.1, H.out.2.1⟩, hsz1⟩
  case round =>
    obtain ⟨N, g, cap, L, h1, h2, rfl, hL, hrl, hsw⟩ := hrel
    have hN0 : (0 : Int) ≤ (N : Int) := by omega
    by_cases hlt : N < 64
    · have hlti : (N : Int) < 64 := by omega
      have hl1 : L.length + 1 ≤ 1000000000000 := by rw [hL.out, List.length_append, H.out.2.2.2, List.length_replicate]; omega
      go_wp2_with (at_builtin; refine wp_bf1 rfl (.tmp 9) (.tmp 10) rfl w.heap.size _ L rfl 0 0 rfl hrl.out.1 rfl hl1 hsw ?_)
      intro v5 w5 hbf5 hb5
      obtain ⟨g5, cap5, rfl, _, _⟩ := hbf5.shape
      have e5 : (L ++ [0]).length = N + 1 := by rw [List.length_append, hL.out, List.length_append, H.out.2.2.2, List.length_replicate]; simp; omega
      have hr5 : L ++ [0] = tl ++ List.replicate (N + 1 - s.size) 0 := by rw [hL.out, List.append_assoc, show N + 1 - s.size = (N - s.size) + 1 by omega, ← List.replicate_succ']
      have hsw5 := hb5.size
      rw [e5] at hbf5 ⊢
      have HF := Lib.hid (And.intro hbf5 (hrl.out.2.trans hb5))
      have HL5 := Lib.hid hr5
      have hsw6 : w.heap.size ≤ w5.heap.size := by omega
      clear hbf5 hb5 e5 hr5
      go_wp2
      go_roundw
      case rel => exact ⟨N + 1, g5, cap5, L ++ [0], by omega, by omega, rfl, HL5, HF, hsw6⟩
      case measure => simp [slN]; omega
    · obtain rfl : N = 64 := by omega
      have hcv2 := hrl.out.1.toS
      have hr : L = fill tl := by rw [hL.out]; unfold fill; rw [H.out.2.2.2]
      rw [hr, ← H.out.2.2.1] at hcv2
      have HF := Lib.hid hrl.out.2
      clear hrl hr
      go_wp2
      go_ret
      exact ⟨rfl, HF.out⟩
end Go.Proofs.Ytolkofnlihbncaa
