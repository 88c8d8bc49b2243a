/- Package wal: Get; the map's keys in order; whole; Keys. -/
import Derived.Test.YtnbefiaeihialaaGreatWalS
import Derived.Test.YtnbefiaeihialaaGreatIter
set_option linter.unusedVariables false
set_option linter.unusedSimpArgs false
namespace Go.Proofs
open Go.RowKit Go.Maps Go.Sort Go.Shelf
theorem Tryz.sortsI (m : Nat) : AnyZ.SortsIn Tryz.prog Tryz.sortedM_ren Fence.wide m :=
  ⟨fun blk off cap ss W hH hblk hsz => callsIn_wide.2 (AnyM.slices_Sort_string Tryz.sortM blk off cap ss W hH hblk hsz),
   fun p cap W => callsIn_wide.2 (AnyM.slices_Sort_string_none Tryz.sortM p cap W)⟩
theorem Tryz.keysI (mb : Option Nat) (W : World) : CallsIn Fence.wide 5 Tryz.prog 48 #[.map mb] W fun e w' => e = .returned (.func (.func 64) #[] #[.pointer (some ⟨W.heap.size, 0, none⟩)]) ∧ w' = W.alloc (.cells #[.map mb] 91) :=
  AnyZ.keys_in Tryz.keysM Fence.wide 5 trivial rfl mb W
set_option maxHeartbeats 1000000 in
theorem Tryz.sortedI {H : Type} (b nn : Nat) (D0 : DataW H) (R : Value → Option (DataW H × List MemPlace)) (w : World) (hown : w.ownsMap Tryz.prog 9 R b nn D0) (hmax : Maps.size D0 ≤ maxLen) (hbytes : Maps.size D0 * 16 ≤ 140737488355328) :
    CallsIn Fence.wide 5 Tryz.prog 47 #[.func (.func 64) #[] #[.pointer (some ⟨w.heap.size, 0, none⟩)]] (w.alloc (.cells #[.map (some b)] 91)) fun e w' => ∃ (v : Value) (ss : List (List UInt8)), e = .returned v ∧ ss.Perm (strKeys D0) ∧
      w'.ownsRow (w.alloc (.cells #[.map (some b)] 91)).heap.size 9 1 v ss.length ((ss.mergeSort (fun x y => decide (x ≤ y))).map encStr) ∧ (v = .slice none 0 0 ↔ ss = []) ∧ Below (w.alloc (.cells #[.map (some b)] 91)).heap.size (w.alloc (.cells #[.map (some b)] 91)) w' := by
  have hbl := hown.lt
  have hseq : SeqGives Fence.wide 2 Tryz.prog 64 #[.pointer (some ⟨w.heap.size, 0, none⟩)] encStr (fun ss => ss.Perm (strKeys D0)) (Maps.size D0) (w.alloc (.cells #[.map (some b)] 91)) :=
    AnyZ.keys_gives (ρ := Tryz.keysM_ren) { Tryz.keysM with } Fence.wide _ trivial rfl (by omega) w.heap.size b nn D0 _ (by simp) (by simp) (by
      obtain ⟨es, clock, hb, Ft, hs, hD⟩ := hown
      exact ⟨es, clock, (Below.heap_alloc _ _ b hbl).trans hb, Ft, hs, hD⟩)
  exact AnyZ.sorted_in Tryz.sortedM Fence.wide 5 trivial trivial trivial trivial rfl (by omega) (Tryz.sortsI _) (enters_of Tryz.func63 (by kernel_rfl) rfl) 64 #[.pointer (some ⟨w.heap.size, 0, none⟩)] trivial (enters_of Tryz.func64 (by kernel_rfl) rfl) _ _ hmax hbytes _ hseq
end Go.Proofs
namespace Go.Proofs.YtnbefiaeihialaaGreat
open Go.RowKit
theorem mkeys_any (mb : Nat) (W : World) : Calls Tryz.prog 48 #[.map (some mb)] W fun e w' => e = .returned (.func (.func 64) #[] #[.pointer (some ⟨W.heap.size, 0, none⟩)]) ∧ w' = W.alloc (.cells #[.map (some mb)] 91) :=
  callsIn_wide.1 (Tryz.keysI (some mb) W)
theorem sorted_any (mb : Nat) (M : List Pr) (w : World) (hm : MapB w mb M) (hs : Srt M) (hl : M.length ≤ 1000000) :
    Calls Tryz.prog 47 #[.func (.func 64) #[] #[.pointer (some ⟨w.heap.size, 0, none⟩)]] (w.alloc (.cells #[.map (some mb)] 91)) fun e w' => ∃ v, e = .returned v ∧ SSo w' w.heap.size v (M.map (·.1)) ∧ Below w.heap.size w w' := by
  have hsz : Maps.size (toD (H := Unit) M) = M.length := toD_size M
  have hB : Below w.heap.size w (w.alloc (.cells #[.map (some mb)] 91)) := (Below.refl _ w).alloc (Nat.le_refl _) _
  refine (callsIn_wide.1 (Tryz.sortedI mb M.length (toD M) _ w hm (by rw [hsz]; unfold maxLen; omega) (by rw [hsz]; omega))).mono ?_
  rintro e w' ⟨v, ss, rfl, hp, hrow, _, hb⟩
  have hk := sorted_keys hs hp
  have hle : ss.length = M.length := by have h1 := congrArg List.length hk; rw [List.length_mergeSort, List.length_map] at h1; exact h1
  rw [hk, hle, List.map_map] at hrow
  refine ⟨v, rfl, ?_, hB.trans (hb.mono hB.size)⟩
  unfold SSo
  rw [List.length_map, List.map_map]
  have e1 : (encStr ∘ fun p : Pr => p.1.data.toList) = (Value.string ∘ fun p : Pr => p.1) := by funext p; rfl
  rw [e1] at hrow
  rcases hrow.2 with ⟨h1, h2⟩ | ⟨g, cap, cur, h1, h2, h3⟩
  · exact ⟨hrow.1, .inl ⟨h1, h2⟩⟩
  · exact ⟨hrow.1, .inr ⟨g, cap, cur, h1, Nat.le_trans hB.size h2, h3⟩⟩
theorem findM_get (M : List Pr) (k : ByteArray) : (toD (H := Unit) M).atKey (.string k.data.toList) (.lit (.string [])) = .lit (.string ((findM M k).getD ⟨#[]⟩).data.toList) := toD_at M k
theorem Tryz.zeroStr (w : World) : (zeroValue 9).run Tryz.prog w = .ok (.string ⟨#[]⟩) w := by simp [Tryz.zeroValue9]
set_option maxRecDepth 100000 in
set_option maxHeartbeats 4000000 in
theorem get_any (s g : Nat) (st : St) (mb : Nat) (d : Int) (tab : List Int) (key : ByteArray) (w : World) (h : StB w s g st mb d 0 tab) (hm : MapB w mb st.M) (hk : key.size ≤ 1000000) :
    Calls Tryz.prog 20 #[.pointer (some ⟨s, 0, none⟩), .string key] w fun e w' => e = .returned (.tuple #[.string ((findM st.M key).getD ⟨#[]⟩), .bool (findM st.M key).isSome]) ∧ w = w' := by
  obtain ⟨c0, c1, c2, c3, c4, c5, c6, c7, c8, c9⟩ := h.cells
  have hKk := Go.WideMaps.keyOf_string_mk (P := Tryz.prog) (k := 9) Tryz.underlying9 (s := key) (by unfold maxLen; omega)
  have hz0 := plainElem_string (H := Unit) (P := Tryz.prog) (e := 9) Tryz.underlying9 (s := ⟨#[]⟩) (by decide)
  have H := Lib.hid hm
  have hat := findM_get st.M key
  have hhas := toD_has (H := Unit) st.M key
  generalize findM st.M key = o at *
  have HA := Lib.hid (And.intro hat hhas)
  clear hat hhas hm h
  go_enter Tryz.func20, Tryz.ntmps20
  go_wp2_with (at_lookup; refine wpList_lookup_own_ok _ rfl _ _ 91 rfl 9 9 Tryz.keyStr Tryz.underlying91 _ (Tryz.zeroStr _) _ [] hz0 mb st.M.length (toD st.M) rfl H.out _ _ rfl hKk ?_)
  intro v ps hv
  have e1 : (toD (H := Unit) st.M).atKey (.string key.data.toList) (.lit (.string (⟨#[]⟩ : ByteArray).data.toList)) = .lit (.string (o.getD ⟨#[]⟩).data.toList) := HA.out.1
  rw [e1] at hv
  obtain ⟨t, rfl, ht, _⟩ := plainElem_string_inv Tryz.underlying9 hv
  have e2 : t = o.getD ⟨#[]⟩ := by
    have h1 := congrArg Prod.fst ht
    injection h1 with h1
    injection h1 with h1
    exact (ba_ext h1).symm
  rw [HA.out.2, e2]
  go_wp2
  go_ret2
  exact ⟨rfl, rfl⟩
end Go.Proofs.YtnbefiaeihialaaGreat
