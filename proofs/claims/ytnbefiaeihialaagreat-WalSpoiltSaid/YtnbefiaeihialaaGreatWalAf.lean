/- Package wal's law folder: WalRoom. -/
import Derived.Test.YtnbefiaeihialaaGreatWalAe
set_option linter.unusedVariables false
set_option linter.unusedSimpArgs false
namespace Go.Proofs.YtnbefiaeihialaaGreat
open Go.RowKit
/-- What makes it no greater is let in. -/
theorem room {k : Dk} {m c : Nat} {st : St} (h : Good shaF k m c st) {xs : List Ch} (hok : ChsOk xs) (hc : c < 4294967295) (hn : xs.length ≤ 500) (hz : szM (appM st.M xs) ≤ szM st.M) : (commitF k st xs).1 = 0 ∧ (commitF k st xs).2.2.M = appM st.M xs := by
  obtain ⟨m', _, _, _, _, _, h6⟩ := good_step h xs hc hn
  rcases h6 with ⟨a, _, b⟩ | ⟨_, a, _⟩ | ⟨_, _, _, hp, _⟩
  · exact ⟨a, b⟩
  · exact absurd hok a
  · exfalso
    unfold planF at hp
    split at hp
    · cases hp
    · split at hp
      · rename_i h1 h2
        have h3 : (whole (appM st.M xs)).length = szM (appM st.M xs) := rfl
        have h4 := secN_mono (show 46 + szM (appM st.M xs) ≤ 46 + szM st.M by omega)
        have h5 := h.sz
        have h6 := h.free
        rw [h3] at h2
        omega
      · cases hp
theorem keys_all (M : List Pr) : keysM M ⟨#[]⟩ = M.map (·.1) := by
  unfold keysM
  rw [List.filter_eq_self]
  intro a _
  rfl
theorem drop_cons {M : List Pr} {x : Nat} (h : x < M.length) : M.drop x = M[x] :: M.drop (x + 1) := List.drop_eq_getElem_cons h
/-- The head is put again; the head goes. -/
theorem head_put {M : List Pr} {x : Nat} (h : x < M.length) (hs : Srt (M.drop x)) : appM (M.drop x) [⟨M[x].1, M[x].2, false⟩] = M.drop x := by
  show doneM M[x].1 M[x].2 true (M.drop x) = _
  rw [drop_cons h] at hs ⊢
  rw [put_eq hs rfl]
theorem head_del {M : List Pr} {x : Nat} (h : x < M.length) (hs : Srt (M.drop x)) : appM (M.drop x) [⟨M[x].1, ⟨#[]⟩, true⟩] = M.drop (x + 1) := by
  show doneM M[x].1 ⟨#[]⟩ false (M.drop x) = _
  rw [drop_cons h] at hs ⊢
  rw [doneM_false, List.filter_cons_of_neg (by simp), filter_gt (fun q hq => (List.pairwise_cons.1 hs).1 q hq)]
theorem head_get {M : List Pr} {x : Nat} (h : x < M.length) : findM (M.drop x) M[x].1 = some M[x].2 := by
  rw [drop_cons h, findM_cons, if_pos rfl]
theorem cst_pos (c : Ch) : 1 ≤ cst c := by unfold cst; omega
theorem len_rsum : ∀ l : List Ch, l.length ≤ rsum l
  | [] => Nat.zero_le _
  | c :: r => by
    have h1 := len_rsum r
    have h2 := cst_pos c
    have e : rsum (c :: r) = cst c + rsum r := rfl
    rw [e, List.length_cons]; omega
theorem len_tot (rows : List (List Ch)) : rows.length ≤ tot rows := by
  induction rows with
  | nil => exact Nat.zero_le _
  | cons l r ih =>
    have e : tot (l :: r) = (1 + rsum l) + tot r := rfl
    rw [e, List.length_cons]; omega
/-- A store of the law folder: on the whole of its disk. -/
structure LawS (w0 : World) (s g D c half : Nat) (N cN : Nat) (k : Dk) (st : St) (W : World) : Prop where
  ex : ∃ mb d tab m, StAt W s mb g D c [] k st d tab ∧ SumOk d tab ∧ Good shaF k m cN st
  cnt : Cnt k N
  from0 : st.from_ = 0
  half : st.half = half
  below : Below w0.heap.size w0 W
  at_ : w0.heap.size ≤ s ∧ w0.heap.size ≤ g ∧ w0.heap.size ≤ D
theorem LawS.mono {w0 W W' : World} {s g D c half N cN N' : Nat} {k : Dk} {st : St} (h : LawS w0 s g D c half N cN k st W) (hb : Below W.heap.size W W') (hN : N ≤ N') : LawS w0 s g D c half N' cN k st W' := by
  obtain ⟨mb, d, tab, m, h1, h2, h3⟩ := h.ex
  exact ⟨⟨mb, d, tab, m, h1.below hb, h2, h3⟩, h.cnt.mono hN, h.from0, h.half, h.below.trans (hb.mono h.below.size), h.at_⟩
theorem LawS.lt {w0 W : World} {s g D c half N cN : Nat} {k : Dk} {st : St} (h : LawS w0 s g D c half N cN k st W) : s < W.heap.size ∧ g < W.heap.size ∧ D < W.heap.size := by
  obtain ⟨mb, d, tab, m, h1, h2, h3⟩ := h.ex
  exact ⟨h1.mem.lt, lt_of_block h1.dk.mem, lt_of_block h1.dk.dat⟩
/-- Commit in the law folder. -/
theorem LawS.commit {w0 W : World} {s g D c half N cN : Nat} {k : Dk} {st : St} (h : LawS w0 s g D c half N cN k st W) (A : Option Addr) (n cc : Nat) (xs : List Ch) (hin : ChsIn W A n xs) (hn : n ≤ 500) (hN : N ≤ 10000000000) (hc : cN ≤ 4000000000) :
    Calls Tryz.prog 19 #[.pointer (some ⟨s, 0, none⟩), .slice A n cc] W fun e w' => e = .returned (.int .i64 (commitF k st xs).1) ∧ LawS w0 s g D c half (N + 30000000) (cN + 1) (commitF k st xs).2.1 (commitF k st xs).2.2 w' ∧ Eff (fun x => x = s ∨ x = g ∨ x = D) W w' := by
  obtain ⟨mb, d, tab, m, h1, h2, h3⟩ := h.ex
  have hl := hin.len
  obtain ⟨m', _, q2, _, q4, q5, _⟩ := good_step h3 xs (by omega) (by omega)
  refine (commit_law A n cc s mb g D c N cN m [] k st d tab xs W h1 h2 hin h.cnt hN h3 (by omega) hn).mono ?_
  rintro e w' ⟨mb', d', tab', m'', rfl, p1, p2, p3, p4, p5⟩
  exact ⟨rfl, ⟨⟨mb', d', tab', m'', p1, p2, p5⟩, p4, q4.trans h.from0, q5.trans h.half, Eff.three h.below p3 h.at_.1 h.at_.2.1 h.at_.2.2, h.at_⟩, p3⟩
set_option maxRecDepth 100000 in
set_option maxHeartbeats 16000000 in
theorem room_law (half : Nat) (A : Option Addr) (n c : Nat) (rows : List (List Ch)) (w : World) (h : RowsIn w A n rows) (ht : tot rows ≤ 120) (h2 : 2 ≤ half) (h3 : half ≤ 100) :
    Calls Tryz.prog 6 #[.int .i64 (2 * half : Nat), .slice A n c] w fun e w' => e = .returned (.bool true) ∧ Below w.heap.size w w' := by
  have c1 := wawake_any w
  have hrl := len_tot rows
  have hln := h.len
  have hn0 : (0 : Int) ≤ (n : Int) := by omega
  have hn1 : n ≤ 120 := by omega
  obtain ⟨N2, hN2⟩ : ∃ N2 : Nat, N2 = 2 * half := ⟨_, rfl⟩
  rw [← hN2]
  have g1 : ¬ (N2 : Int) < 4 := by omega
  have g2 : ¬ 200 < (N2 : Int) := by omega
  have g3 : ((N2 : Int) % 2 != 0) = false := by rw [bne_eq_false_iff_eq]; omega
  have g4 : (0 : Int) ≤ (N2 : Int) := by omega
  have H := Lib.hid (And.intro h (And.intro hln hN2))
  clear h hrl hln hN2
  go_enter Tryz.func6, Tryz.ntmps6
  go_wp2_with fail
  refine c1.mono ?_
  rintro e w1 ⟨rfl, hb1⟩
  have c2 := few_any A n c rows w1 (H.out.1.below hb1)
  rw [decide_eq_true ht] at c2
  clear c1
  go_wp2_with fail
  refine c2.mono ?_
  rintro e w2 ⟨rfl, dd, rfl⟩
  have c3 := made_any half (w1.drewN dd) h2 (by omega)
  rw [← H.out.2.2] at c3
  have HB1 := Lib.hid (Below.drewN' hb1 dd)
  clear c2 hb1
  go_wp2_with fail
  refine c3.mono ?_
  rintro e w3 ⟨s, mb, g, D, rfl, hS, hb3, hc3, hs1, hs2, hs3, hs4⟩
  have hz1 := HB1.out.size
  have hg3 := make_good shaF_len (newK_still (2 * half) (by omega) (by omega)) (from_ := 0) (half := half) h2 (by show 0 + 2 * half ≤ 2 * half; omega)
  have hL : LawS w s g D (2 * half * 64) half 20000002 1 (wrL (newK (2 * half)) (makeW shaF 0 half)).1 (makeS 0 half) w3 :=
    ⟨⟨mb, 1, tabF, _, hS, .inr ⟨rfl, rfl⟩, hg3.2.1⟩, hc3, rfl, rfl, HB1.out.trans (hb3.mono hz1), ⟨by omega, by omega, by omega⟩⟩
  have HL := Lib.hid hL
  clear c3 hS hb3 hc3 hs1 hs2 hs3 hs4 hg3 hL
  have hlt3 := HL.out.lt
  generalize (wrL (newK (2 * half)) (makeW shaF 0 half)).1 = k0 at *
  have h00 : (makeS 0 half).M = [] := rfl
  generalize makeS 0 half = st0 at *
  have H00 := Lib.hid h00
  clear h00 hlt3
  go_wp2
  go_loopw [7] (fun i wr => ∃ j : Nat, j ≤ n ∧ i = .int .i64 j ∧ Hid (∃ k st, LawS w s g D (2 * half * 64) half (20000002 + 30000000 * j) (1 + j) k st wr ∧ st.M.length + j ≤ tot (rows.take j))) (fun i _ => n - mzInt i)
  case atStart => exact ⟨0, Nat.zero_le _, rfl, Lib.hid ⟨k0, st0, HL.out, by rw [H00.out]; exact Nat.zero_le _⟩⟩
  case round =>
    obtain ⟨j, hj, rfl, hrl⟩ := hrel
    obtain ⟨k, st, hS, hM⟩ := hrl.out
    have hj0 : (0 : Int) ≤ (j : Int) := by omega
    by_cases hlt : j < n
    · have hji : (j : Int) < (n : Int) := by omega
      obtain ⟨b, off, rfl, hc⟩ := (H.out.1.below hS.below).cells (by omega)
      obtain ⟨Aj, cj, q, qin⟩ := hc j hlt
      have htt := tot_take (rows := rows) (j := j) (by rw [H.out.2.1]; exact hlt)
      have htl := tot_le rows (j + 1)
      have hlr := len_rsum (row rows j)
      obtain ⟨L, hL⟩ : ∃ L, L = row rows j := ⟨_, rfl⟩
      rw [← hL] at q qin htt hlr
      obtain ⟨M, hMl⟩ : ∃ M, M = L.length := ⟨_, rfl⟩
      rw [← hMl] at q qin hlr
      have hM0 : (0 : Int) ≤ (M : Int) := by omega
      have cc := hS.commit Aj M cj L qin (by omega) (by omega) (by omega)
      obtain ⟨mbx, dx, tabx, mx, _, _, hgx⟩ := hS.ex
      obtain ⟨m', _, _, _, _, _, h6⟩ := good_step hgx L (by omega) (by omega)
      have hnew : (commitF k st L).2.2.M.length + (j + 1) ≤ tot (rows.take (j + 1)) := by
        have h7 := appM_len hgx.srt L
        rcases h6 with ⟨_, _, e⟩ | ⟨_, _, e⟩ | ⟨_, _, _, _, e⟩ <;> rw [e] <;> omega
      have HN := Lib.hid hnew
      clear hnew h6 hgx htt htl hlr hL hMl qin hS hM hc hrl
      go_wp2_with fail
      refine cc.mono ?_
      rintro e w5 ⟨rfl, hS5, _⟩
      have HS5 := Lib.hid (hS5.mono (Below.refl _ _) (show 20000002 + 30000000 * j + 30000000 ≤ 20000002 + 30000000 * (j + 1) by omega))
      clear cc hS5
      go_wp2
      go_roundw
      case rel => exact ⟨j + 1, by omega, by go_num, Lib.hid ⟨_, _, by have := HS5.out; rwa [Nat.add_assoc 1 j 1] at this, HN.out⟩⟩
      case measure => simp [mzInt]; omega
    · obtain rfl : j = n := by omega
      have hjE : ¬ (j : Int) < (j : Int) := by omega
      obtain ⟨mbx, dx, tabx, mx, hx1, hx2, hgx⟩ := hS.ex
      have hML : st.M.length + j ≤ 120 := by
        have h5 : rows.take j = rows := by rw [← H.out.2.1, List.take_length]
        rw [h5] at hM; omega
      have ck := keys_any s g st mbx dx tabx ⟨#[]⟩ wr hx1.mem hx1.map hgx.srt (by omega)
      rw [keys_all] at ck
      have HS := Lib.hid (And.intro hS hML)
      have HG := Lib.hid hgx.srt
      have HGO := Lib.hid hgx.mok
      clear hS hM hML hgx hx1 hx2 hrl
      go_wp2_with fail
      refine ck.mono ?_
      rintro e w6 ⟨v, rfl, hv, hb6⟩
      obtain ⟨av, cv, rfl⟩ := hv.shape
      obtain ⟨MM, hMM⟩ : ∃ MM, MM = st.M := ⟨_, rfl⟩
      obtain ⟨K, hK⟩ : ∃ K, K = MM.length := ⟨_, rfl⟩
      have hlenk : (st.M.map (·.1)).length = K := by rw [List.length_map, hK, hMM]
      rw [hlenk] at hv ⊢
      rw [← hMM] at hv
      have hK120 : K + j ≤ 120 := by rw [hK, hMM]; exact HS.out.2
      have hK0 : (0 : Int) ≤ (K : Int) := by omega
      have hwz := HS.out.1.lt
      have hbelow := HS.out.1.below.size
      obtain ⟨B, hB⟩ : ∃ B, B = wr.heap.size := ⟨_, rfl⟩
      rw [← hB] at hv hwz hbelow
      have H6 := Lib.hid (And.intro hv (And.intro (HS.out.1.mono hb6 (Nat.le_refl _)) (And.intro hMM hK)))
      have HK := Lib.hid hK
      clear ck hv hb6 hlenk hMM hB hK
      go_wp2
      go_loopw [9] (fun i w7 => ∃ x : Nat, x ≤ K ∧ i = .int .i64 x ∧ Hid (∃ k2 st2, LawS w s g D (2 * half * 64) half (20000002 + 30000000 * j + 60000000 * x) (1 + j + 2 * x) k2 st2 w7 ∧ st2.M = MM.drop x ∧ SSo w7 B (.slice av K cv) (MM.map (·.1)))) (fun i _ => K - mzInt i)
      case atStart => exact ⟨0, Nat.zero_le _, rfl, Lib.hid ⟨k, st, H6.out.2.1, by rw [H6.out.2.2.1]; rfl, H6.out.1⟩⟩
      case round =>
        obtain ⟨x, hx, rfl, hr7⟩ := hrel
        obtain ⟨k2, st2, hS7, hM7, hv7⟩ := hr7.out
        have hx0 : (0 : Int) ≤ (x : Int) := by omega
        by_cases hxl : x < K
        · have hxi : (x : Int) < (K : Int) := by omega
          have hxm : x < MM.length := by have := HK.out; omega
          obtain ⟨mb7, d7, tab7, m7, y1, y2, hg7⟩ := hS7.ex
          have hs7 : Srt (MM.drop x) := by rw [← hM7]; exact hg7.srt
          have hP := head_put hxm hs7
          have hD := head_del hxm hs7
          have hGt := head_get (M := MM) hxm
          have hmem : MM[x] ∈ st2.M := by rw [hM7, drop_cons hxm]; exact List.mem_cons_self
          have hkv := hg7.mok _ hmem
          obtain ⟨gk, rfl, hcell⟩ := hv7.cellAt (j := x) (by rw [List.length_map]; exact hxm)
          rw [List.getElem_map] at hcell
          obtain ⟨key, hkey⟩ : ∃ key, key = MM[x].1 := ⟨_, rfl⟩
          obtain ⟨val, hval⟩ : ∃ val, val = MM[x].2 := ⟨_, rfl⟩
          rw [← hkey, ← hval] at hP hkv hGt
          rw [← hkey] at hD hcell
          rw [← hM7] at hP
          have cg := get_any s g st2 mb7 d7 tab7 key wr y1.mem y1.map (by have := hkv.1; show key.size ≤ _; omega)
          rw [hM7, hGt] at cg
          have okP : ChsOk [⟨key, val, false⟩] := fun c hc => by rw [List.mem_singleton.1 hc]; exact hkv
          have okD : ChsOk [⟨key, ⟨#[]⟩, true⟩] := fun c hc => by rw [List.mem_singleton.1 hc]; exact ⟨hkv.1, Nat.zero_le _⟩
          have hr1 := room hg7 okP (by omega) (by show 1 ≤ 500; omega) (by rw [hP]; exact Nat.le_refl _)
          have hal := (Below.refl wr.heap.size wr).alloc (Nat.le_refl _) (.cells #[.string key, .string val, .bool false] 25 (0, 0))
          have cm1 := (hS7.mono hal (Nat.le_refl _)).commit (some ⟨wr.heap.size, 0, none⟩) 1 1 [⟨key, val, false⟩] (chs_one (heap_alloc_new wr _)) (by omega) (by omega) (by omega)
          rw [hr1.1] at cm1
          have hM8 := hr1.2.trans (hP.trans hM7)
          have hv8 : SSo (wr.alloc (.cells #[.string key, .string val, .bool false] 25 (0, 0))) B (.slice (some ⟨gk, 0, none⟩) K cv) (MM.map (·.1)) := hv7.alloc _
          have hgk := hv8.cellAt (j := x) (by rw [List.length_map]; exact hxm)
          generalize commitF k2 st2 [⟨key, val, false⟩] = R8 at *
          obtain ⟨cd8, k8, st8⟩ := R8
          have HA := Lib.hid (And.intro hM8 (And.intro hv8 (And.intro okD (And.intro hD (And.intro hkey hxm)))))
          clear hr1 hal hM8 hv8 okP okD hP hD hGt hmem hkv y1 y2 hg7 hs7 hS7 hM7 hr7 hgk hkey hval hv7
          dsimp only at cm1
          go_wp2_with fail
          refine cg.mono ?_
          rintro e w7 ⟨rfl, rfl⟩
          clear cg
          dsimp only [Option.getD, Option.isSome]
          go_wp2_with fail
          refine cm1.mono ?_
          rintro e w9 ⟨rfl, hS9, he9⟩
          have hv9 : SSo w9 B (.slice (some ⟨gk, 0, none⟩) K cv) (MM.map (·.1)) := Eff.own he9 HA.out.2.1 (fun y hy e => by
            have h1 := (World.ownsRow.lt HA.out.2.1 y hy).1
            rcases (e : y = s ∨ y = g ∨ y = D) with h | h | h <;> omega)
          obtain ⟨gk2, hgk2, hcell9⟩ := hv9.cellAt (j := x) (by rw [List.length_map]; exact HA.out.2.2.2.2.2)
          rw [List.getElem_map, ← HA.out.2.2.2.2.1] at hcell9
          obtain rfl : gk = gk2 := by injection hgk2 with h; injection h
          obtain ⟨mb9, d9, tab9, m9, y1, y2, hg9⟩ := hS9.ex
          have hM8 := HA.out.1
          try dsimp only at hM8
          have hr2 := room hg9 HA.out.2.2.1 (by omega) (by show 1 ≤ 500; omega) (by rw [hM8, HA.out.2.2.2.1, drop_cons HA.out.2.2.2.2.2, szM_cons]; omega)
          rw [hM8, HA.out.2.2.2.1] at hr2
          have hal := (Below.refl w9.heap.size w9).alloc (Nat.le_refl _) (.cells #[.string key, .string ⟨#[]⟩, .bool true] 25 (0, 0))
          have cm2 := (hS9.mono hal (Nat.le_refl _)).commit (some ⟨w9.heap.size, 0, none⟩) 1 1 [⟨key, ⟨#[]⟩, true⟩] (chs_one (heap_alloc_new w9 _)) (by omega) (by omega) (by omega)
          rw [hr2.1] at cm2
          have hM9 := hr2.2
          generalize commitF k8 st8 [⟨key, ⟨#[]⟩, true⟩] = R9 at *
          obtain ⟨cd9, k9, st9⟩ := R9
          try dsimp only at cm2 hM9
          have HB := Lib.hid (And.intro hM9 (hv9.alloc (.cells #[.string key, .string ⟨#[]⟩, .bool true] 25 (0, 0))))
          clear cm1 hS9 he9 hv9 hgk2 y1 y2 hg9 hM8 hr2 hal hM9
          go_wp2_with fail
          refine cm2.mono ?_
          rintro e w10 ⟨rfl, hS10, he10⟩
          have hv10 : SSo w10 B (.slice (some ⟨gk, 0, none⟩) K cv) (MM.map (·.1)) := Eff.own he10 HB.out.2 (fun y hy e => by
            have h1 := (World.ownsRow.lt HB.out.2 y hy).1
            rcases (e : y = s ∨ y = g ∨ y = D) with h | h | h <;> omega)
          obtain ⟨mb10, d10, tab10, m10, y1, y2, hg10⟩ := hS10.ex
          have ck := keys_any s g st9 mb10 d10 tab10 ⟨#[]⟩ w10 y1.mem y1.map hg10.srt (by have := hg10.small; omega)
          rw [keys_all, HB.out.1] at ck
          have HC := Lib.hid (And.intro hS10 hv10)
          clear cm2 hS10 he10 hv10 y1 y2 hg10
          go_wp2_with fail
          refine ck.mono ?_
          rintro e w11 ⟨v11, rfl, hv11, hb11⟩
          obtain ⟨a11, c11, rfl⟩ := hv11.shape
          have hl11 : ((MM.drop (x + 1)).map (·.1)).length = K - x - 1 := by rw [List.length_map, List.length_drop, HK.out]; omega
          rw [hl11]
          obtain ⟨Y, hY⟩ : ∃ Y, Y = K - x - 1 := ⟨_, rfl⟩
          rw [← hY]
          have hY0 : (0 : Int) ≤ (Y : Int) := by omega
          have hcast : ((Y : Int) != (K : Int) - (x : Int) - 1) = false := by rw [bne_eq_false_iff_eq]; omega
          have HD := Lib.hid (And.intro (HC.out.1.mono hb11 (show 20000002 + 30000000 * j + 60000000 * x + 30000000 + 30000000 ≤ 20000002 + 30000000 * j + 60000000 * (x + 1) by omega)) (HC.out.2.below hb11))
          have hw1 : IntKind.i64.wrap ((K : Int) - (x : Int)) = (K : Int) - (x : Int) := by rw [IntKind.wrap_i64]; omega
          have hw2 : IntKind.i64.wrap ((K : Int) - (x : Int) - 1) = (K : Int) - (x : Int) - 1 := by rw [IntKind.wrap_i64]; omega
          clear ck hv11 hb11 hl11 hY
          go_wp2
          go_roundw
          case rel => exact ⟨x + 1, by omega, by go_num, Lib.hid ⟨k9, st9, by have h5 := HD.out.1; rwa [show 1 + j + 2 * x + 1 + 1 = 1 + j + 2 * (x + 1) by omega] at h5, HB.out.1, HD.out.2⟩⟩
          case measure => simp [mzInt]; omega
        · obtain rfl : x = K := by omega
          have hxE : ¬ (x : Int) < (x : Int) := by omega
          obtain ⟨mb7, d7, tab7, m7, y1, y2, hg7⟩ := hS7.ex
          have hop := open_good hg7
          rw [hS7.from0, hS7.half] at hop
          have har := hg7.area
          rw [hS7.from0, hS7.half] at har
          have co := open_any g D (2 * half * 64) [] k2 0 half wr y1.dk hg7.still.down h2 har
          rw [hop, ← H.out.2.2] at co
          have hM0 : st2.M = [] := by rw [hM7, HK.out, List.drop_length]
          have HS7 := Lib.hid (And.intro hS7.below (And.intro hM0 hg7.srt))
          clear hS7 hM7 hv7 hr7 y1 y2 hg7 hop har hM0
          go_wp2_with fail
          refine co.mono ?_
          rintro e w8 ⟨hb8, t, mt, dt, tabt, rfl, hT, hdt, ht1, ht2⟩
          have ck := keys_any t g st2 mt dt tabt ⟨#[]⟩ w8 hT.mem hT.map HS7.out.2.2 (by rw [HS7.out.2.1]; decide)
          have e0 : keysM st2.M ⟨#[]⟩ = [] := by rw [HS7.out.2.1]; rfl
          rw [e0] at ck
          have HB8 := Lib.hid (HS7.out.1.trans (hb8.mono HS7.out.1.size))
          clear co hb8 hT hdt ht1 ht2 e0
          go_wp2_with fail
          refine ck.mono ?_
          rintro e w9 ⟨v9, rfl, hv9, hb9⟩
          obtain ⟨a9, c9, rfl⟩ := hv9.shape
          have HB9 := Lib.hid (HB8.out.trans (hb9.mono HB8.out.size))
          clear ck hv9 hb9
          go_wp2
          go_ret
          exact ⟨rfl, HB9.out⟩
end Go.Proofs.YtnbefiaeihialaaGreat
