/- Package wal's law folder: awake answers true. -/
import Derived.Test.YtnbefiaeihialaaGreatWalAb
set_option linter.unusedVariables false
set_option linter.unusedSimpArgs false
namespace Go.Proofs.YtnbefiaeihialaaGreat
open Go.RowKit
theorem chs_one {w : World} {b : Nat} {x y : ByteArray} {g : Bool} (h : w.heap[b]? = some (.cells #[.string x, .string y, .bool g] 25 (0, 0))) : ChsIn w (some ⟨b, 0, none⟩) 1 [⟨x, y, g⟩] := by
  refine ⟨rfl, by decide, fun _ => ⟨b, 0, rfl, fun j hj => ?_⟩⟩
  obtain rfl : j = 0 := by omega
  refine ⟨?_, ?_, ?_⟩ <;> (rw [cell_of_row _ _ _ _ _ _ h]; rfl)
theorem Eff.three {w0 w w' : World} {s g D : Nat} (hb : Below w0.heap.size w0 w) (he : Eff (fun x => x = s ∨ x = g ∨ x = D) w w') (hs : w0.heap.size ≤ s) (hg : w0.heap.size ≤ g) (hD : w0.heap.size ≤ D) : Below w0.heap.size w0 w' :=
  Eff.below hb he hb.size (fun x e => by rcases (e : x = s ∨ x = g ∨ x = D) with h | h | h <;> omega)
theorem Eff.toDisk2 {g D : Nat} {a b : World} (h : Eff (· = g) a b) : Eff (fun x => x = g ∨ x = D) a b := ⟨h.os, h.tape, h.output, h.size, fun k hk hn => h.block k hk (fun e => hn (.inl e))⟩
def aP : Ch := ⟨⟨#[107]⟩, ⟨#[118, 118]⟩, false⟩
theorem aP_str : printS [aP] = ⟨#[0, 0, 1, 0, 2, 107, 118, 118]⟩ ∧ printC [aP] = 0 := by
  unfold printS printC
  rw [if_pos (by decide), if_pos (by decide)]
  exact ⟨by decide, rfl⟩
theorem aP_back : parseC [0, 0, 1, 0, 2, 107, 118, 118] = 0 ∧ (parseL [0, 0, 1, 0, 2, 107, 118, 118]).length = 1 := by
  constructor <;> decide
theorem aX_get : (findM aS2.M ⟨#[97]⟩).getD ⟨#[]⟩ = ⟨#[120]⟩ ∧ (findM aS2.M ⟨#[97]⟩).isSome = true := by
  constructor <;> decide
theorem armK_n (k : Dk) (a t : Int) : (armK k a t).n = k.n := rfl
theorem startK_n (k : Dk) : (startK k).n = k.n := rfl
theorem startK_down (k : Dk) : (startK k).down = false := rfl
theorem armK_cnt (k : Dk) (a t : Int) (N : Nat) (h1 : 0 ≤ k.all) (h2 : k.all ≤ N) : Cnt (armK k a t) N := ⟨Int.le_refl 0, by show (0 : Int) ≤ N; omega, h1, h2⟩
theorem aK3n : aK3.n = 8 := (armK_n aK2 2 0).trans aw_good.2.2
theorem aK5n : aK5.n = 8 := (startK_n aK4).trans aW4_wr.2.2.1
theorem aK5d : aK5.down = false := startK_down aK4
theorem aK3c : Cnt aK3 50000002 := armK_cnt aK2 2 0 50000002 aK2_facts.2.2.2.2.2.1 (by have := aK2_facts.2.2.2.2.2.2; omega)
theorem aX_keys : (keysM aS2.M ⟨#[]⟩).length = 1 := by decide
set_option maxRecDepth 100000 in
set_option maxHeartbeats 16000000 in
theorem wawake_any (w : World) : Calls Tryz.prog 7 #[] w fun e w' => e = .returned (.bool true) ∧ Below w.heap.size w w' := by
  have c1 := made_any 4 w (by decide) (by decide)
  rw [show ((2 * 4 : Nat) : Int) = 8 from rfl] at c1
  go_enter Tryz.func7, Tryz.ntmps7
  go_wp2_with fail
  refine c1.mono ?_
  rintro e w1 ⟨s, mb, g, D, rfl, hS1, hb1, hc1, hs1, hs2, hs3, hs4⟩
  replace hS1 : StAt w1 s mb g D (2 * 4 * 64) [] aK1 (makeS 0 4) 1 tabF := hS1
  replace hc1 : Cnt aK1 20000002 := hc1
  have H1 := Lib.hid (And.intro hS1 (And.intro hb1 hc1))
  have HZ := Lib.hid (And.intro hs1 (And.intro hs2 (And.intro hs3 hs4)))
  clear c1 hS1 hb1 hc1 hs1 hs2 hs3 hs4
  -- the first commit
  have hrow := heap_alloc_new w1 (.cells #[.string ⟨#[97]⟩, .string ⟨#[120]⟩, .bool false] 25 (0, 0))
  have hal : Below w1.heap.size w1 (w1.alloc (.cells #[.string ⟨#[97]⟩, .string ⟨#[120]⟩, .bool false] 25 (0, 0))) := (Below.refl _ w1).alloc (Nat.le_refl _) _
  have c2 := commit_any (some ⟨w1.heap.size, 0, none⟩) 1 1 s mb g D (2 * 4 * 64) 20000002 [] aK1 (makeS 0 4) 1 tabF [aX] _ (H1.out.1.below hal) (.inr ⟨rfl, rfl⟩) (chs_one hrow) H1.out.2.2 (by decide) (by rw [aw_make.2.2]; decide) (by decide) (by decide) (by decide) srt_nil (fun p hp => by cases hp) (by decide) (by rw [aX_len]; decide) (by decide) (fun c hc => (aX_ok c hc).fit)
  rw [aw_c1] at c2
  have hb2 := H1.out.2.1.trans (hal.mono H1.out.2.1.size)
  have HB2 := Lib.hid hb2
  clear hrow hal hb2
  go_wp2_with fail
  refine c2.mono ?_
  rintro e w2 ⟨mb2, d2, tab2, rfl, hS2, hd2, he2, hc2⟩
  have hb3 := Eff.three HB2.out he2 HZ.out.1 HZ.out.2.2.1 HZ.out.2.2.2
  have c3 := arm_any g D (2 * 4 * 64) [] aK2 2 0 w2 hS2.dk
  have HS2 := Lib.hid (And.intro hS2 (And.intro hd2 (And.intro hb3 hc2)))
  clear c2 hS2 hd2 he2 hc2 hb3
  dsimp only
  go_wp2_with fail
  refine c3.mono ?_
  rintro e w3 ⟨rfl, he3, hk3⟩
  have hS3 : StAt w3 s mb2 g D (2 * 4 * 64) [] aK3 aS2 d2 tab2 := HS2.out.1.disk he3.toDisk2 hk3
  have hb3 := Eff.two HS2.out.2.2.1 (he3.toDisk2 (D := D)) HZ.out.2.2.1 HZ.out.2.2.2
  have hc3 := aK3c
  have HS3 := Lib.hid (And.intro hS3 (And.intro hb3 hc3))
  clear c3 he3 hk3 hS3 hb3 hc3
  -- the second is cut
  have hrow := heap_alloc_new w3 (.cells #[.string ⟨#[97]⟩, .string ⟨#[121]⟩, .bool false] 25 (0, 0))
  have hal : Below w3.heap.size w3 (w3.alloc (.cells #[.string ⟨#[97]⟩, .string ⟨#[121]⟩, .bool false] 25 (0, 0))) := (Below.refl _ w3).alloc (Nat.le_refl _) _
  have c4 := commit_any (some ⟨w3.heap.size, 0, none⟩) 1 1 s mb2 g D (2 * 4 * 64) 50000002 [] aK3 aS2 d2 tab2 [aY] _ (HS3.out.1.below hal) HS2.out.2.1 (chs_one hrow) HS3.out.2.2 (by decide) (by rw [aK3n]; decide) (by decide) (by decide) (by decide) aw_good.2.1.srt aw_good.2.1.mok (by decide) (by rw [aY_len]; decide) (by decide) (fun c hc => (aY_ok c hc).fit)
  rw [aw_c2] at c4
  have HB4 := Lib.hid (HS3.out.2.1.trans (hal.mono HS3.out.2.1.size))
  clear hrow hal
  go_wp2_with fail
  refine c4.mono ?_
  rintro e w4 ⟨mb4, d4, tab4, rfl, hS4, hd4, he4, hc4⟩
  have hb4 := Eff.three HB4.out he4 HZ.out.1 HZ.out.2.2.1 HZ.out.2.2.2
  have c5 := get_any s g { aS2 with M := [] } mb4 d4 tab4 ⟨#[97]⟩ w4 hS4.mem hS4.map (by decide)
  have e5 : (findM ({ aS2 with M := [] } : St).M ⟨#[97]⟩).getD ⟨#[]⟩ = ⟨#[]⟩ ∧ (findM ({ aS2 with M := [] } : St).M ⟨#[97]⟩).isSome = false := ⟨rfl, rfl⟩
  rw [e5.1, e5.2] at c5
  have HS4 := Lib.hid (And.intro hS4 (And.intro hd4 hb4))
  clear c4 hS4 hd4 he4 hc4 hb4 e5
  dsimp only
  go_wp2_with fail
  refine c5.mono ?_
  rintro e w4' ⟨rfl, rfl⟩
  have c6 := start_any g D (2 * 4 * 64) [] aK4 w4 HS4.out.1.dk
  clear c5
  go_wp2_with fail
  refine c6.mono ?_
  rintro e w6 ⟨rfl, he6, hk6⟩
  have hS6 : StAt w6 s mb4 g D (2 * 4 * 64) [] aK5 { aS2 with M := [] } d4 tab4 := HS4.out.1.disk he6.toDisk2 hk6
  have hb6 := Eff.two HS4.out.2.2 (he6.toDisk2 (D := D)) HZ.out.2.2.1 HZ.out.2.2.2
  have c7 := open_any g D (2 * 4 * 64) [] aK5 0 4 w6 hS6.dk aK5d (by decide) (by rw [aK5n]; decide)
  rw [aw_open, show ((2 * 4 : Nat) : Int) = 8 from rfl] at c7
  have HS6 := Lib.hid (And.intro hS6 hb6)
  clear c6 he6 hk6 hS6 hb6
  go_wp2_with fail
  refine c7.mono ?_
  rintro e w7 ⟨hb7, t, mt, dt, tabt, rfl, hT, hdt, ht1, ht2⟩
  have hS7 := HS6.out.1.below hb7
  have hB7 := HS6.out.2.trans (hb7.mono HS6.out.2.size)
  have c8 := get_any t g aS2 mt dt tabt ⟨#[97]⟩ w7 hT.mem hT.map (by decide)
  rw [aX_get.1, aX_get.2] at c8
  have hlt6 := HS6.out.1.mem.lt
  have HS7 := Lib.hid (And.intro hS7 (And.intro hT hB7))
  have HT7 := Lib.hid (And.intro hlt6 (And.intro ht1 ht2))
  clear c7 hb7 hS7 hT hB7 hdt ht1 ht2 hlt6
  go_wp2_with fail
  refine c8.mono ?_
  rintro e w7' ⟨rfl, rfl⟩
  clear c8
  -- the text
  have hrow := heap_alloc_new w7 (.cells #[.string ⟨#[107]⟩, .string ⟨#[118, 118]⟩, .bool false] 25 (0, 0))
  have hal : Below w7.heap.size w7 (w7.alloc (.cells #[.string ⟨#[107]⟩, .string ⟨#[118, 118]⟩, .bool false] 25 (0, 0))) := (Below.refl _ w7).alloc (Nat.le_refl _) _
  have c9 := print_any (some ⟨w7.heap.size, 0, none⟩) 1 1 [aP] _ (chs_one hrow) (by decide)
  rw [aP_str.1, aP_str.2] at c9
  have HA := Lib.hid hal
  clear hrow hal
  go_wp2_with fail
  refine c9.mono ?_
  rintro e w9 ⟨rfl, hb9⟩
  have hb9' : Below w7.heap.size w7 w9 := HA.out.trans (hb9.mono HA.out.size)
  have c10 := parse_any ⟨#[0, 0, 1, 0, 2, 107, 118, 118]⟩ w9 (by decide)
  change Calls _ _ _ _ (fun e w' => ∃ v, CHo w' w9.heap.size v (parseL [0, 0, 1, 0, 2, 107, 118, 118]) ∧ e = .returned (.tuple #[v, .int .i64 (parseC [0, 0, 1, 0, 2, 107, 118, 118])]) ∧ Below w9.heap.size w9 w') at c10
  rw [aP_back.1] at c10
  have HB9 := Lib.hid hb9'
  clear c9 hb9 hb9'
  go_wp2_with fail
  refine c10.mono ?_
  rintro e w10 ⟨v, hv, rfl, hb10⟩
  obtain ⟨ao, cap, rfl⟩ := hv.shape
  rw [aP_back.2]
  have hb10' : Below w7.heap.size w7 w10 := HB9.out.trans (hb10.mono HB9.out.size)
  have HB10 := Lib.hid hb10'
  have c11 := open_no g 0 3 w10 (.inr (.inl ⟨by decide, by decide⟩))
  clear c10 hv hb10 hb10'
  go_wp2_with fail
  refine c11.mono ?_
  rintro e w10' ⟨rfl, rfl⟩
  clear c11
  have c12 := sum_any s g { aS2 with M := [] } mb4 d4 tab4 ⟨#[97, 98, 99]⟩ w10 (HS7.out.1.below HB10.out).mem HS4.out.2.1 (by decide)
  obtain ⟨SS, hSS⟩ : ∃ x : ByteArray, x = ⟨(shaF [97, 98, 99]).toArray⟩ := ⟨_, rfl⟩
  change Calls _ _ _ _ (fun e w' => e = .returned (.string ⟨(shaF [97, 98, 99]).toArray⟩) ∧ _ ∧ _) at c12
  rw [← hSS] at c12
  have hs32 : SS.size = 32 := by rw [hSS, lsize, shaF_len]
  have i0 : SS[0]'(by omega) = 186 := by
    subst hSS
    have h5 := sha_abc.1
    rw [List.getD_eq_getElem?_getD, List.getElem?_eq_getElem (by rw [shaF_len]; decide)] at h5
    exact h5
  have i31 : SS[31]'(by omega) = 173 := by
    subst hSS
    have h5 := sha_abc.2
    rw [List.getD_eq_getElem?_getD, List.getElem?_eq_getElem (by rw [shaF_len]; decide)] at h5
    exact h5
  clear hSS
  go_wp2_with fail
  refine c12.mono ?_
  rintro e w12 ⟨rfl, hS12, he12⟩
  have hB12 := Eff.below (HS7.out.2.2.trans (HB10.out.mono HS7.out.2.2.size)) he12 (HS7.out.2.2.trans (HB10.out.mono HS7.out.2.2.size)).size (fun y e => by have h1 : y = s := e; have := HZ.out.1; omega)
  have hne : t ≠ s := by have := HT7.out.1; have := HT7.out.2.1; omega
  have hT12 := (HS7.out.2.1.below HB10.out).keep he12 (fun e => hne e) (fun e => by have h1 : mt = s := e; have := HT7.out.1; have := HT7.out.2.2; omega) (fun e => HS7.out.1.sg (show s = g from Eq.symm e)) (fun e => HS7.out.1.sD (show s = D from Eq.symm e))
  have c13 := keys_any t g aS2 mt dt tabt ⟨#[]⟩ w12 hT12.mem hT12.map aw_good.2.1.srt (by decide)
  have HF := Lib.hid hB12
  clear c12 hS12 he12 hB12 hT12 hne
  go_wp2_with fail
  refine c13.mono ?_
  rintro e w13 ⟨vk, rfl, hv, hb13⟩
  obtain ⟨ak, ck, rfl⟩ := hv.shape
  rw [aX_keys]
  have HF13 := Lib.hid (HF.out.trans (hb13.mono HF.out.size))
  clear c13 hv hb13
  go_wp2
  go_ret
  exact ⟨rfl, HF13.out⟩
end Go.Proofs.YtnbefiaeihialaaGreat
