/- Package base64: Encode. -/
import Derived.Test.YteklocejgbippaaDoorBasA
import Derived.Test.YteklocejgbippaaDoorChg
import Derived.Laws.BitsLemmas
import Derived.IntWalk
set_option linter.unusedVariables false
set_option linter.unusedSimpArgs false
namespace Go.Proofs.YteklocejgbippaaDoor
open Go.RowKit
theorem wraps_i64 (n : Int) (h₀ : 0 ≤ n) (h₁ : n < 2 ^ 62) : IntKind.i64.wrap n = n := by rw [IntKind.wrap_i64]; omega
theorem or_i64 {a b : Nat} (i : Nat) (ha : a % 2 ^ i = 0) (hb : b < 2 ^ i) (ha1 : a < 2 ^ 40) (hb1 : b < 2 ^ 40) : bits BinOp.or IntKind.i64 (a : Int) (b : Int) = ((a + b : Nat) : Int) := by
  rw [bits_join .i64 62 (by decide) wraps_i64 i (a : Int) (b : Int) (by omega) (by exact_mod_cast ha) (by omega) (by omega) (by exact_mod_cast hb) (by omega)]
  omega
theorem and63 {x : Int} (h0 : 0 ≤ x) (h1 : x < 2 ^ 40) : bits BinOp.and IntKind.i64 x 63 = x % 64 := bits_mask .i64 62 (by decide) wraps_i64 6 (by decide) x h0 (by omega)
/-- make([]byte, 0, n). -/
theorem make_bytes (n : Nat) (hn : n ≤ 1000000000) (W : World) :
    (Instr.makeSlice 33 (.int .i64 0) (.int .i64 (n : Int))).run Tryd.prog W = .ok (.slice (some ⟨W.heap.size, 0, none⟩) 0 n) (W.alloc (.cells (bcells (List.replicate n 0)).toArray 5)) := by
  obtain ⟨i, hi, hz, hs, hb⟩ := info_parts Tryd.infoU8
  have hr := run_make (P := Tryd.prog) W 33 5 i _ Tryd.underlying33 hi hz .i64 .i64 0 n (by omega) (by omega) (by rw [hb]; omega) (by omega)
  rw [← bcells_zero]
  simp only [Int.toNat_natCast, hs, Nat.mul_one] at hr
  exact hr
theorem BS.made (n : Nat) (hn : n ≤ 1000000000) (W : World) : BS (W.alloc (.cells (bcells (List.replicate n 0)).toArray 5)) W.heap.size (.slice (some ⟨W.heap.size, 0, none⟩) 0 n) [] :=
  ⟨rfl, .inr ⟨W.heap.size, n, _, rfl, Nat.le_refl _, heap_alloc_new _ _, Nat.zero_le _, by unfold maxLen; omega, by simp [bcells], by simp [bcells]⟩⟩
def acc3 (l : List UInt8) (n : Nat) : Nat → Nat
  | 0 => 0
  | k + 1 => acc3 l n k * 256 + (if k < n then (l.getD k 0).toNat else 0)
theorem acc3_val (l : List UInt8) (h : 0 < l.length) : acc3 l (min 3 l.length) 3 = val3 l := by
  match l with
  | [a] => simp [acc3, val3]; omega
  | [a, b] => simp [acc3, val3]; omega
  | a :: b :: c :: r =>
    have e : min 3 (a :: b :: c :: r).length = 3 := by simp
    rw [e]; simp [acc3, val3]; omega
theorem acc3_lt (l : List UInt8) (n k : Nat) : acc3 l n k < 256 ^ k := by
  induction k with
  | zero => simp [acc3]
  | succ k ih =>
    have := (l.getD k 0).toNat_lt
    rw [acc3, Nat.pow_succ]
    split <;> omega
theorem val3_lt (l : List UInt8) : val3 l < 16777216 := by
  match l with
  | [] => decide
  | [a] => have := a.toNat_lt; simp only [val3]; omega
  | [a, b] => have := a.toNat_lt; have := b.toNat_lt; simp only [val3]; omega
  | a :: b :: c :: r => have := a.toNat_lt; have := b.toNat_lt; have := c.toNat_lt; simp only [val3]; omega
theorem ext_list (s : ByteArray) (a b : Nat) : (s.extract a b).data.toList = (s.data.toList.drop a).take (b - a) := by
  rw [Lib.extract_data]
def lets : ByteArray := ⟨#[65, 66, 67, 68, 69, 70, 71, 72, 73, 74, 75, 76, 77, 78, 79, 80, 81, 82, 83, 84, 85, 86, 87, 88, 89, 90, 97, 98, 99, 100, 101, 102, 103, 104, 105, 106, 107, 108, 109, 110, 111, 112, 113, 114, 115, 116, 117, 118, 119, 120, 121, 122, 48, 49, 50, 51, 52, 53, 54, 55, 56, 57, 43, 47]⟩
theorem lets_at : ∀ v : Nat, v < 64 → ∀ h : v < lets.size, lets[v]'h = L64 v := by decide +kernel
theorem quad_take {v n k : Nat} (hk : k < 4) : (quad v n).take (k + 1) = (quad v n).take k ++ [quadAt v n k] := by
  match k, hk with
  | 0, _ => rfl
  | 1, _ => rfl
  | 2, _ => rfl
  | 3, _ => rfl
set_option maxRecDepth 100000 in
set_option maxHeartbeats 4000000 in
theorem encode_any (s : ByteArray) (w : World) (hs : s.size ≤ 1000000) :
    Calls Tryd.prog 22 #[.string s] w fun e w' => e = .returned (.string ⟨(enc s.data.toList).toArray⟩) ∧ Below w.heap.size w w' := by
  have hsz := bsize s
  obtain ⟨n, hn⟩ : ∃ n : Nat, n = (s.size + 2) / 3 * 4 := ⟨_, rfl⟩
  have hni : ((s.size : Int) + 2) / 3 * 4 = (n : Int) := by omega
  have hmk := make_bytes n (by omega)
  have hB := BS.made n (by omega) w
  have HB := Lib.hid hB
  have hnb : (n : Int) ≤ 2000000 := by omega
  have hn0 : 0 ≤ (n : Int) := by omega
  clear hB hn
  go_enter Tryd.func22, Tryd.ntmps22
  go_wp2
  go_loopw [0, 3] (fun x v wr => ∃ (r : ByteArray) (pre : List UInt8), x = .string r ∧ pre ++ enc r.data.toList = enc s.data.toList ∧ r.size ≤ s.size ∧ BS wr w.heap.size v pre ∧ Below w.heap.size w wr) (fun x _ _ => Lib.strSize x)
  case atStart => exact ⟨s, [], rfl, rfl, Nat.le_refl _, HB.out, (Below.refl _ w).alloc (Nat.le_refl _) _⟩
  case round =>
    clear hmk HB hni hnb hn0
    obtain ⟨r, pre, rfl, hpe, hrs, hown, hbl⟩ := hrel
    have hrz := bsize r
    have hpl : pre.length ≤ 2000000 := by
      have := congrArg List.length hpe
      rw [List.length_append, enc_len, enc_len, hsz, hrz] at this
      omega
    by_cases h0 : 0 < r.size
    · have hes := enc_step r.data.toList (by omega)
      have hav := acc3_val r.data.toList (by omega)
      have hal := acc3_lt r.data.toList (min 3 r.size)
      have hri : (r.size : Int) ≤ 1000000 := by omega
      rw [hrz] at hes hav
      obtain ⟨m, hm⟩ : ∃ m : Nat, m = min 3 r.size := ⟨_, rfl⟩
      rw [← hm] at hes hav hal
      have hmi : min (3 : Int) (r.size : Int) = (m : Int) := by omega
      have hm1 : 1 ≤ m := by omega
      have hm3 : m ≤ 3 := by omega
      have hmr : m ≤ r.size := by omega
      have HE := Lib.hid hes
      have HA := Lib.hid hav
      have HM := Lib.hid hm
      have HP := Lib.hid hpe
      have HAL := Lib.hid hal
      clear hes hav hpe hm hal
      rcases (show ((r.size : Int) < 3 ∧ (m : Int) = r.size) ∨ (3 ≤ (r.size : Int) ∧ (m : Int) = 3) by omega) with ⟨hc1, hc2⟩ | ⟨hc1, hc2⟩
      all_goals
        clear hmi
        have HC := Lib.hid (And.intro hc1 hc2)
        go_wp2
        clear hc1 hc2
        go_loop [5, 25] (fun v i => ∃ k : Nat, k ≤ 3 ∧ v = .int .i64 (acc3 r.data.toList m k) ∧ i = .int .i64 k) (fun _ i => 3 - (intOf i).toNat)
        case atStart => exact ⟨0, by omega, rfl, rfl⟩
        case round =>
          obtain ⟨k, hk, rfl, rfl⟩ := hrel
          have hak := HAL.out k
          have hk0 : (0 : Int) ≤ (k : Int) := by omega
          have hc := HC.out
          by_cases hk3 : k < 3
          · have hak2 : acc3 r.data.toList m k < 65536 := Nat.lt_of_lt_of_le hak (by have := Nat.pow_le_pow_right (show 0 < 256 by decide) (show k ≤ 2 by omega); omega)
            have hki : (k : Int) < 3 := by omega
            clear hak
            by_cases hkm : k < m
            · have has : acc3 r.data.toList m (k + 1) = acc3 r.data.toList m k * 256 + (r.data.toList.getD k 0).toNat := by rw [acc3, if_pos hkm]
              have hkr : k < r.data.toList.length := by omega
              have hrk : r.data.toList.getD k 0 = r.data.toList[k] := by rw [List.getD_eq_getElem?_getD, List.getElem?_eq_getElem hkr]; rfl
              rw [hrk] at has
              obtain ⟨c, hc⟩ : ∃ c, c = r.data.toList[k]'hkr := ⟨_, rfl⟩
              have hbt : ∀ h, (r[k]'h) = c := fun h => by rw [hc]; simp; rfl
              rw [← hc] at has
              clear hc
              have hcl := c.toNat_lt
              generalize acc3 r.data.toList m k = a at *
              have hor := or_i64 (a := a * 256) (b := c.toNat) 8 (by omega) (by omega) (by omega) (by omega)
              rw [← has] at hor
              have hkri : (k : Int) < (r.size : Int) := by omega
              have hai : (a : Int) < 65536 := by omega
              have hci : (c.toNat : Int) < 256 := by omega
              have HAS := Lib.hid has
              rw [Int.natCast_mul, show ((256 : Nat) : Int) = 256 from rfl] at hor
              clear has hrk hak2 hcl hk3 hkm hkr hc
              go_wp2
              go_round
              case rel => exact ⟨k + 1, by omega, by first | rfl | go_num, by go_num⟩
              case measure => simp [intOf]; omega
            · first
              | exfalso; omega
              | have has : acc3 r.data.toList m (k + 1) = acc3 r.data.toList m k * 256 := by rw [acc3, if_neg hkm, Nat.add_zero]
                have hkri : (r.size : Int) ≤ (k : Int) := by omega
                generalize acc3 r.data.toList m k = a at *
                have hwr : wrap64 ((a : Int) * 256) = ((a * 256 : Nat) : Int) := by rw [IntWalk.wrap64_in _ (by omega)]; omega
                rw [← has] at hwr
                clear has hak2 hk3 hkm hc
                go_wp2
                go_round
                case rel => exact ⟨k + 1, by omega, by first | rfl | go_num, by go_num⟩
                case measure => simp [intOf]; omega
          · obtain rfl : k = 3 := by omega
            rw [HA.out]
            have hV := val3_lt r.data.toList
            obtain ⟨V, hVe⟩ : ∃ V, V = val3 r.data.toList := ⟨_, rfl⟩
            rw [← hVe] at hV ⊢
            have HV := Lib.hid hVe
            have HO := Lib.hid (And.intro hown hbl)
            clear hVe hak hc hown hbl
            go_wp2
            go_loopw [3, 40] (fun v i wr2 => ∃ k : Nat, k ≤ 4 ∧ i = .int .i64 k ∧ BS wr2 w.heap.size v (pre ++ (quad V m).take k) ∧ Below w.heap.size w wr2) (fun _ i _ => 4 - (intOf i).toNat)
            case atStart => exact ⟨0, by omega, rfl, by rw [List.take_zero, List.append_nil]; exact HO.out.1, HO.out.2⟩
            case round =>
              obtain ⟨k, hk, rfl, hown, hbl⟩ := hrel
              have hk0 : (0 : Int) ≤ (k : Int) := by omega
              have hc := HC.out
              by_cases hk4 : k < 4
              · have hki : (k : Int) < 4 := by omega
                have hqt := quad_take (v := V) (n := m) hk4
                have hwl : w.heap.size ≤ wr.heap.size := hbl.size
                have hlen : (pre ++ (quad V m).take k).length ≤ 3000000 := by
                  rw [List.length_append, List.length_take]; simp [quad]; omega
                by_cases hmk : m < k
                · first
                  | exfalso; omega
                  | have hq : quadAt V m k = 61 := by unfold quadAt; rw [if_pos hmk]
                    rw [hq] at hqt
                    have hkri : (r.size : Int) < (k : Int) := by omega
                    have HQ := Lib.hid hqt
                    have HB := Lib.hid hbl
                    clear hqt hc hmk hk4
                    go_wp2_with (at_builtin; refine wp_app1 rfl (.tmp 46) (.tmp 47) rfl w.heap.size _ (pre ++ (quad V m).take k) rfl 61 _ rfl hown rfl (by omega) hwl ?_)
                    intro v' w2 hown2 hch
                    go_wp2
                    go_roundw
                    case rel => refine ⟨k + 1, by omega, by go_num, ?_, HB.out.trans hch.below⟩; rw [HQ.out]; exact hown2
                    case measure => simp [intOf]; omega
                · have hkri : (k : Int) ≤ (r.size : Int) := by omega
                  have HQ := Lib.hid hqt
                  have HB := Lib.hid hbl
                  have HK4 := Lib.hid hk4
                  have HMK := Lib.hid hmk
                  obtain ⟨y, hy⟩ : ∃ y, y = V / 2 ^ (18 - 6 * k) % 64 := ⟨_, rfl⟩
                  have hqa : quadAt V m k = L64 y := by unfold quadAt; rw [if_neg hmk, hy]
                  have hyl : y < 64 := by omega
                  have hbt : bits BinOp.and IntKind.i64 ((V : Int) / 2 ^ (18 - 6 * k)) 63 = (y : Int) := by
                    have e : ((V : Int) / 2 ^ (18 - 6 * k)) = ((V / 2 ^ (18 - 6 * k) : Nat) : Int) := by simp
                    have h2 : V / 2 ^ (18 - 6 * k) ≤ V := Nat.div_le_self _ _
                    rw [e]
                    generalize V / 2 ^ (18 - 6 * k) = z at *
                    rw [and63 (by omega) (by omega), hy]; omega
                  have hle : ∀ h, lets[y]'h = L64 y := fun h => lets_at y hyl h
                  have hyi : (y : Int) < 64 := by omega
                  obtain ⟨c, hcc⟩ : ∃ c, c = L64 y := ⟨_, rfl⟩
                  rw [← hcc] at hle hqa
                  unfold lets at hle
                  have HQA := Lib.hid hqa
                  clear hqt hc hmk hk4 hV hk3 hk0 hy hqa hyl hcc
                  go_wp2_with (at_builtin; refine wp_app1 rfl (.tmp 49) (.tmp 57) rfl w.heap.size _ (pre ++ (quad V m).take k) rfl c _ rfl hown rfl (by omega) hwl ?_)
                  intro v' w2 hown2 hch
                  go_wp2
                  go_roundw
                  case rel => refine ⟨k + 1, by omega, by go_num, ?_, HB.out.trans hch.below⟩; rw [HQ.out, HQA.out]; exact hown2
                  case measure => simp [intOf]; omega
              · obtain rfl : k = 4 := by omega
                have hq4 : (quad V m).take 4 = quad V m := rfl
                rw [hq4] at hown
                have HO2 := Lib.hid (And.intro hown hbl)
                clear hown hbl hq4 hV hk
                go_wp2
                go_roundw
                case rel =>
                  refine ⟨_, pre ++ quad V m, rfl, ?_, ?_, HO2.out.1, HO2.out.2⟩
                  · have key : ∀ L, L = r.data.toList.drop 3 → pre ++ quad V m ++ enc L = enc s.data.toList := by
                      intro L hL; rw [hL, HV.out, List.append_assoc, ← HE.out]; exact HP.out
                    first
                    | exact key _ (by rw [List.drop_of_length_le (by omega)]; rfl)
                    | exact key _ (by rw [ext_list, List.take_of_length_le (by rw [List.length_drop]; omega)])
                  · first
                    | rw [ByteArray.size_extract]; omega
                    | exact Nat.zero_le _
                case measure =>
                  rw [Lib.strSize_string, Lib.strSize_string]
                  first
                  | rw [ByteArray.size_extract]; omega
                  | exact h0
    · obtain hr0 : r.data.toList = [] := List.eq_nil_of_length_eq_zero (by omega)
      rw [hr0] at hpe
      have hcv := hown.conv
      have HP := Lib.hid hpe
      clear hpe
      go_wp2
      go_ret
      refine ⟨?_, hbl⟩
      rw [← HP.out]
      simp [enc]
end Go.Proofs.YteklocejgbippaaDoor
