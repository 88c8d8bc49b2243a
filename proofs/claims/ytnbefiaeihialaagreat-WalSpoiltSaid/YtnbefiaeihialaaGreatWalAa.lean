/- Package wal's law folder: what awake asks, in plain words. -/
import Derived.Test.YtnbefiaeihialaaGreatWalZ
set_option linter.unusedVariables false
set_option linter.unusedSimpArgs false
namespace Go.Proofs.YtnbefiaeihialaaGreat
open Go.RowKit
theorem layW_one {first half at_ : Nat} {b : Bs} (h : secN b.length = 1) (h2 : at_ + 1 < half) : layW first half at_ b = [(first + 1, []), (first, chunk b 0)] := by
  unfold layW
  rw [h, if_pos h2]
  rfl
def aX : Ch := ⟨⟨#[97]⟩, ⟨#[120]⟩, false⟩
def aY : Ch := ⟨⟨#[97]⟩, ⟨#[121]⟩, false⟩
def aS2 : St := ⟨0, 4, 0, 1, 2, 2, [(⟨#[97]⟩, ⟨#[120]⟩)]⟩
def aK1 : Dk := (wrL (newK 8) (makeW shaF 0 4)).1
def aW2 : List (Nat × Bs) := layW 1 4 1 (recF shaF 1 1 (prT [aX]))
def aK2 : Dk := (wrL aK1 aW2).1
def aW4 : List (Nat × Bs) := layW 2 4 2 (recF shaF 1 2 (prT [aY]))
def aK3 : Dk := armK aK2 2 0
def aK4 : Dk := (wrL aK3 aW4).1
def aK5 : Dk := startK aK4
theorem newK_still (n : Nat) (h1 : 1 ≤ n) (h2 : n ≤ 4096) : Still (newK n) 0 := ⟨⟨h1, h2, zeros_len _⟩, rfl, rfl, ⟨Int.le_refl 0, Int.le_refl 0⟩, ⟨Int.le_refl 0, Int.le_refl 0⟩⟩
theorem aX_len : (prT [aX]).length = 7 := by decide
theorem aY_len : (prT [aY]).length = 7 := by decide
theorem aW_rec (g n : Nat) (t : Bs) (h : t.length = 7) : secN (recF shaF g n t).length = 1 := by rw [recF_len shaF_len, h]; decide
theorem aW0_rec : secN (recF shaF 1 0 []).length = 1 := by rw [recF_len shaF_len]; decide
theorem aMakeW : makeW shaF 0 4 = [(4, []), (0, []), (1, []), (0, chunk (recF shaF 1 0 []) 0)] := by
  unfold makeW
  rw [layW_one aW0_rec (by decide)]; rfl
theorem aW2_eq : aW2 = [(2, []), (1, chunk (recF shaF 1 1 (prT [aX])) 0)] := by
  unfold aW2
  rw [layW_one (aW_rec _ _ _ aX_len) (by decide)]
theorem aW4_eq : aW4 = [(3, []), (2, chunk (recF shaF 1 2 (prT [aY])) 0)] := by
  unfold aW4
  rw [layW_one (aW_rec _ _ _ aY_len) (by decide)]
theorem aw_make : (wrL (newK 8) (makeW shaF 0 4)).2 = 0 ∧ Good shaF aK1 (0 + (makeW shaF 0 4).length) 1 (makeS 0 4) ∧ aK1.n = 8 := by
  obtain ⟨h1, h2, h3, _⟩ := make_good shaF_len (newK_still 8 (by decide) (by decide)) (from_ := 0) (half := 4) (by decide) (by decide)
  exact ⟨h1, h2, h3⟩
theorem aPlan : planF shaF (makeS 0 4) [aX] = some (aW2, aS2) := by
  unfold planF
  rw [aX_len]
  rw [if_pos (by decide)]
  rfl
theorem aX_ok : ChsOk [aX] := by decide
theorem aY_ok : ChsOk [aY] := by decide
theorem aw_good : (wrL aK1 aW2).2 = 0 ∧ Good shaF aK2 (0 + (makeW shaF 0 4).length + aW2.length) 2 aS2 ∧ aK2.n = 8 := by
  obtain ⟨_, hg, hn⟩ := aw_make
  obtain ⟨h1, h2, h3, _⟩ := commit_good shaF_len hg aX_ok aPlan (by decide) (by rw [aX_len]; decide) (by decide)
  exact ⟨h1, h2, h3.trans hn⟩
theorem aw_c1 : commitF aK1 (makeS 0 4) [aX] = (0, aK2, aS2) := by
  unfold commitF
  rw [if_neg (fun h => h aX_ok), if_neg (by decide), aPlan]
  show (if (wrL aK1 aW2).2 = 0 then _ else _) = _
  rw [if_pos aw_good.1]; rfl
theorem aPlan2 : ∃ st', planF shaF aS2 [aY] = some (aW4, st') := by
  unfold planF
  rw [aY_len]
  rw [if_pos (by decide)]
  exact ⟨_, rfl⟩
theorem aK2_facts : aK2.Ok ∧ aK2.cut = 0 ∧ aK2.down = false ∧ 0 ≤ aK2.since ∧ aK2.since ≤ 100 ∧ 0 ≤ aK2.all ∧ aK2.all ≤ 100 := by
  have h := aw_good.2.1.still
  have e : 0 + (makeW shaF 0 4).length + aW2.length = 6 := by rw [aMakeW, aW2_eq]; rfl
  rw [e] at h
  exact ⟨h.ok, h.cut, h.down, h.since.1, by have := h.since.2; omega, h.all.1, by have := h.all.2; omega⟩
theorem sec_new {n i : Nat} (h : i < n) : sec (newK n) i = pad [] := by
  have e : sec (newK n) i = ((zeros (n * 64)).drop (i * 64)).take 64 := rfl
  rw [e]
  unfold zeros pad
  rw [List.drop_replicate, List.take_replicate]
  show List.replicate _ 0 = List.replicate 64 0
  congr 1; omega
/-- The fourth sector is as it was made. -/
theorem aK2_sec3 : sec aK2 3 = pad [] := by
  obtain ⟨_, hg, hn⟩ := aw_make
  have hl1 : ∀ p ∈ makeW shaF 0 4, p.1 < (newK 8).n ∧ p.2.length ≤ 64 := by
    rw [aMakeW]
    intro p hp
    simp only [List.mem_cons, List.not_mem_nil, or_false] at hp
    rcases hp with rfl | rfl | rfl | rfl
    · exact ⟨by decide, by decide⟩
    · exact ⟨by decide, by decide⟩
    · exact ⟨by decide, by decide⟩
    · exact ⟨by decide, chunk_len _ _⟩
  have hl2 : ∀ p ∈ aW2, p.1 < aK1.n ∧ p.2.length ≤ 64 := by
    rw [aW2_eq, hn]
    intro p hp
    simp only [List.mem_cons, List.not_mem_nil, or_false] at hp
    rcases hp with rfl | rfl
    · exact ⟨by decide, by decide⟩
    · exact ⟨by decide, chunk_len _ _⟩
  have r1 := ((newK_still 8 (by decide) (by decide)).row hl1).2.2.2 3 (by decide)
  have r2 := (hg.still.row hl2).2.2.2 3 (by rw [hn]; decide)
  rw [lastW_none] at r1
  · rw [lastW_none] at r2
    · exact r2.trans (r1.trans (sec_new (by decide)))
    · rw [aW2_eq]
      intro p hp
      simp only [List.mem_cons, List.not_mem_nil, or_false] at hp
      rcases hp with rfl | rfl <;> decide
  · rw [aMakeW]
    intro p hp
    simp only [List.mem_cons, List.not_mem_nil, or_false] at hp
    rcases hp with rfl | rfl | rfl | rfl <;> decide
/-- The second write is cut: nothing of it comes. -/
theorem cut_wr (K : Dk) (ch : Bs) (hok : K.Ok) (hdn : K.down = false) (ha1 : 0 ≤ K.all) (ha2 : K.all ≤ 100) (hn : K.n = 8) (hs3 : sec K 3 = pad []) (hcl : ch.length ≤ 64) :
    ∃ K4, wrL (armK K 2 0) [(3, []), (2, ch)] = (K4, 6) ∧ K4.Ok ∧ K4.n = 8 ∧ K4.cut = 0 ∧ K4.since = 2 ∧ 0 ≤ K4.all ∧ K4.all ≤ 200 ∧ ∀ j, j < 8 → sec K4 j = sec K j := by
  have hlen := hok.len
  have e3 : armK K 2 0 = { K with cut := 2, torn := 0, since := 0 } := by unfold armK; rfl
  -- the first write
  have w1 : writeK (armK K 2 0) ((3 : Nat) : Int) [] = { K with cut := 2, torn := 0, since := 1, all := K.all + 1, data := putAt K.data (3 * 64) (fill []) } := by
    rw [e3]
    unfold writeK
    rw [if_pos ⟨hdn, ⟨by decide, by show ((3 : Nat) : Int) < (K.n : Int); rw [hn]; decide⟩, by decide⟩]
    rw [wroteK_miss (by show (2 : Int) ≠ 0 + 1; decide)]
    rfl
  have c1 : writeC (armK K 2 0) ((3 : Nat) : Int) [] = 0 := by
    rw [e3]
    unfold writeC
    rw [if_neg (by show ¬ K.down = true; simp [hdn]), if_neg (fun hh => hh ⟨by decide, by show ((3 : Nat) : Int) < (K.n : Int); rw [hn]; decide⟩), if_neg (by decide)]
    exact wroteC_miss (by show (2 : Int) ≠ 0 + 1; decide)
  obtain ⟨kA, hkA⟩ : ∃ kA, kA = writeK (armK K 2 0) ((3 : Nat) : Int) [] := ⟨_, rfl⟩
  rw [← hkA] at w1
  have hAn : kA.n = 8 := by rw [w1]; exact hn
  have hAd : kA.down = false := by rw [w1]; exact hdn
  have hAs : kA.since = 1 := by rw [w1]
  have hAc : kA.cut = 2 := by rw [w1]
  have hAt : kA.torn = 0 := by rw [w1]
  have hAa : kA.all = K.all + 1 := by rw [w1]
  have hAdat : kA.data = putAt K.data (3 * 64) (fill []) := by rw [w1]
  have hfl : (fill []).length = 64 := by decide
  have hAok : kA.Ok := ⟨by rw [hAn]; decide, by rw [hAn]; decide, by rw [hAdat, hAn, putAt_len (by rw [hfl, hlen, hn]; decide), hlen, hn]⟩
  have sA : ∀ j, j < 8 → sec kA j = sec K j := fun j hj => by
    rw [sec_put (k' := kA) hok (a := 3) (by rw [hn]; decide) hfl (by rw [hAn, hn]) hAdat (by rw [hn]; exact hj)]
    by_cases e : j = 3
    · subst e; rw [if_pos rfl, hs3]; rfl
    · rw [if_neg e]
  -- the second write is cut
  have hhit : kA.cut = kA.since + 1 := by rw [hAc, hAs]; rfl
  have hT : tornN kA = 0 := by unfold tornN; rw [hAt]; decide
  have w2 : writeK kA ((2 : Nat) : Int) ch = { kA with data := putAt kA.data (2 * 64) [], cut := 0, torn := 0, since := kA.since + 1, all := kA.all + 1, down := true } := by
    unfold writeK
    rw [if_pos ⟨hAd, ⟨by decide, by rw [hAn]; decide⟩, hcl⟩]
    unfold wroteK
    rw [if_pos hhit, hT, List.take_zero]; rfl
  have c2 : writeC kA ((2 : Nat) : Int) ch = 6 := by
    unfold writeC
    rw [if_neg (by simp [hAd]), if_neg (fun hh => hh ⟨by decide, by rw [hAn]; decide⟩), if_neg (by omega)]
    unfold wroteC
    rw [if_pos hhit]
  have hput : putAt kA.data (2 * 64) [] = kA.data := by unfold putAt; simp
  rw [hput] at w2
  refine ⟨writeK kA ((2 : Nat) : Int) ch, by rw [wrL_ok c1, ← hkA, wrL_bad (by rw [c2]; decide), c2], ?_, ?_, ?_, ?_, ?_, ?_, fun j hj => ?_⟩
  · rw [w2]; exact ⟨hAok.n1, hAok.n2, hAok.len⟩
  · rw [w2]; exact hAn
  · rw [w2]
  · rw [w2]; show kA.since + 1 = 2; rw [hAs]; rfl
  · rw [w2]; show 0 ≤ kA.all + 1; omega
  · rw [w2]; show kA.all + 1 ≤ 200; omega
  · rw [w2]; exact sA j hj
theorem aW4_wr : (wrL aK3 aW4).2 = 6 ∧ aK4.Ok ∧ aK4.n = 8 ∧ aK4.cut = 0 ∧ aK4.since = 2 ∧ 0 ≤ aK4.all ∧ aK4.all ≤ 200 ∧ ∀ j, j < 8 → sec aK4 j = sec aK2 j := by
  obtain ⟨hok, hcut, hdn, hs1, hs2, ha1, ha2⟩ := aK2_facts
  obtain ⟨K4, e, h⟩ := cut_wr aK2 (chunk (recF shaF 1 2 (prT [aY])) 0) hok hdn ha1 ha2 aw_good.2.2 aK2_sec3 (chunk_len _ _)
  have e2 : wrL aK3 aW4 = (K4, 6) := by rw [aW4_eq]; exact e
  have e3 : aK4 = K4 := by unfold aK4; rw [e2]
  rw [e3, e2]
  exact ⟨rfl, h⟩
theorem aw_c2 : commitF aK3 aS2 [aY] = (6, aK4, { aS2 with M := [] }) := by
  obtain ⟨st', hp⟩ := aPlan2
  unfold commitF
  rw [if_neg (fun h => h aY_ok), if_neg (by decide), hp]
  show (if (wrL aK3 aW4).2 = 0 then _ else _) = _
  have e := aW4_wr.1
  unfold aK4
  generalize wrL aK3 aW4 = z at *
  have h6 : ¬ z.2 = 0 := by rw [e]; intro h; cases h
  rw [if_neg h6, e]
theorem start_still (k : Dk) (hok : k.Ok) (hc : k.cut = 0) (h1 : 0 ≤ k.all) (h2 : k.all ≤ 200) : Still (startK k) 200 :=
  ⟨⟨hok.n1, hok.n2, hok.len⟩, hc, rfl, ⟨Int.le_refl 0, by show (0 : Int) ≤ 200; decide⟩, ⟨h1, h2⟩⟩
theorem start_away {k k' : Dk} {m c : Nat} {st : St} (hg : Good shaF k m c st) (hst : Still (startK k') 200) (hn : k'.n = k.n) (h8 : k.n = 8) (hsec : ∀ j, j < 8 → sec k' j = sec k j) (hh : st.from_ + 2 * st.half = 8) : Good shaF (startK k') 200 c st :=
  hg.away hst hn (Nat.le_refl _) (fun j hj1 hj2 => hsec j (by omega))
theorem start_open (k' : Dk) (st : St) (h : Good shaF (startK k') 200 2 st) (h1 : st.from_ = 0) (h2 : st.half = 4) : openF shaF (startK k') 0 4 = some st := by
  have := open_good h
  rw [h1, h2] at this
  exact this
theorem aw_open : openF shaF aK5 0 4 = some aS2 := by
  obtain ⟨_, hok, hn, hc, hs, h1, h2, hsec⟩ := aW4_wr
  have hg := aw_good.2.1
  have h8 := aw_good.2.2
  unfold aK5
  generalize aK4 = k4 at *
  generalize aK2 = k2 at *
  exact start_open k4 aS2 (start_away hg (start_still k4 hok hc h1 h2) (hn.trans h8.symm) h8 hsec rfl) rfl rfl
end Go.Proofs.YtnbefiaeihialaaGreat
