/- Package header: Print. -/
import Derived.Test.YtdaekoapkclliaaDoorHdrH
set_option linter.unusedVariables false
set_option linter.unusedSimpArgs false
namespace Go.Proofs.YtdaekoapkclliaaDoor
open Go.RowKit
theorem fds_drop {xs : List Fld} {k : Nat} (h : k < xs.length) : allR (fds (xs.drop k)) = (rtF (fl xs k).1.data.toList (fl xs k).2.data.toList && allR (fds (xs.drop (k + 1)))) := by
  rw [List.drop_eq_getElem_cons h, fl_get h]; rfl
theorem pr_bad {l : List Fd} (h : allR l = false) : prE l = 2 ∧ (⟨(prT l).toArray⟩ : ByteArray) = ⟨#[]⟩ := by
  have e : prE l = 2 := by unfold prE; rw [h, if_neg (by decide)]
  exact ⟨e, by unfold prT; rw [e, if_neg (by decide)]⟩
theorem pr_many {l : List Fd} (h : allR l = true) (h2 : 64 < l.length) : prE l = 3 ∧ (⟨(prT l).toArray⟩ : ByteArray) = ⟨#[]⟩ := by
  have e : prE l = 3 := by unfold prE; rw [h, if_pos rfl, if_pos h2]
  exact ⟨e, by unfold prT; rw [e, if_neg (by decide)]⟩
theorem pr_long {l : List Fd} (h : allR l = true) (h2 : ¬ 64 < l.length) {x : Bs} (hx : x ∈ prL l) (h3 : 998 < x.length) : prE l = 3 ∧ (⟨(prT l).toArray⟩ : ByteArray) = ⟨#[]⟩ := by
  have e : prE l = 3 := by unfold prE; rw [h, if_pos rfl, if_neg h2, if_pos (List.any_eq_true.2 ⟨x, hx, decide_eq_true h3⟩)]
  exact ⟨e, by unfold prT; rw [e, if_neg (by decide)]⟩
theorem pr_ok {l : List Fd} (h : allR l = true) (h2 : ¬ 64 < l.length) (h3 : ∀ x ∈ prL l, x.length ≤ 998) : prE l = 0 ∧ prT l = ctL (prL l) ++ [13, 10] := by
  have e : prE l = 0 := prE_zero.2 ⟨List.all_eq_true.1 h, by omega, h3⟩
  exact ⟨e, by unfold prT; rw [e, if_pos rfl]⟩
def prK (xs : List Fld) (k : Nat) : List Bs := prL (fds (xs.take k))
theorem prK_all (xs : List Fld) : prK xs xs.length = prL (fds xs) := by unfold prK; rw [List.take_length]
theorem prK_zero (xs : List Fld) : prK xs 0 = [] := rfl
theorem prL_app (a b : List Fd) : prL (a ++ b) = prL a ++ prL b := List.flatMap_append ..
theorem prK_succ {xs : List Fld} {k : Nat} (h : k < xs.length) : prK xs (k + 1) = prK xs k ++ foldL (fl xs k).1.data.toList (fl xs k).2.data.toList := by
  unfold prK
  rw [List.take_succ_eq_append_getElem h, fl_get h]
  show prL ((xs.take k ++ [xs[k]]).map fdb) = _
  rw [List.map_append, prL_app]
  show _ ++ prL [fdb xs[k]] = _
  simp [prL, fdb, fds]
theorem prK_in {xs : List Fld} {k : Nat} (h : k < xs.length) {x : Bs} (hx : x ∈ foldL (fl xs k).1.data.toList (fl xs k).2.data.toList) : x ∈ prL (fds xs) := by
  have : prL (fds xs) = prK xs (k + 1) ++ prL (fds (xs.drop (k + 1))) := by
    unfold prK
    rw [← prL_app]
    show _ = prL (((xs.take (k + 1)).map fdb) ++ ((xs.drop (k + 1)).map fdb))
    rw [← List.map_append, List.take_append_drop]; rfl
  rw [this, prK_succ h]
  exact List.mem_append_left _ (List.mem_append_right _ hx)
theorem ctL_app (a b : List Bs) : ctL (a ++ b) = ctL a ++ ctL b := List.flatMap_append ..
theorem ctL_len : ∀ ls : List Bs, (ctL ls).length = ls.flatten.length + 2 * ls.length
  | [] => rfl
  | x :: r => by
    have := ctL_len r
    show ((x ++ [13, 10]) ++ ctL r).length = _
    rw [List.length_append, this]; simp; omega
theorem foldL_len (n b : Bs) : (foldL n b).length ≤ b.length + 2 := by
  unfold foldL
  split
  · simp
  · have h1 := foldS_one n (wd b) (wd b).length
    have h2 := (wd_sum b).2
    rw [List.length_append]; simp; omega
theorem whole_len (n b : Bs) : (whole n b).length ≤ n.length + b.length + 2 := by
  unfold whole; split <;> simp <;> omega
theorem fold_ct (n b : Bs) : (ctL (foldL n b)).length ≤ n.length + 3 * b.length + 6 := by
  rw [ctL_len, foldL_flat]
  have := foldL_len n b
  have := whole_len n b
  omega
theorem prK_len {xs : List Fld} (hsm : Small xs) : ∀ k, k ≤ xs.length → (ctL (prK xs k)).length ≤ k * 400006
  | 0, _ => by rw [prK_zero]; simp [ctL]
  | k + 1, h => by
    have ih := prK_len hsm k (by omega)
    have hz := hsm.at_ (show k < xs.length by omega)
    have := fold_ct (fl xs k).1.data.toList (fl xs k).2.data.toList
    rw [prK_succ (by omega), ctL_app, List.length_append]
    rw [bsize, bsize] at this
    omega
/-- The lines so far: none is too long. -/
def Fine (ls : List Bs) : Prop := ∀ x ∈ ls, x.length ≤ 998
theorem Fine.app {a b : List Bs} (h : Fine a) (k : Fine b) : Fine (a ++ b) := fun x hx => (List.mem_append.1 hx).elim (h x) (k x)
theorem ba_pref (x : Bs) : ((⟨x.toArray⟩ : ByteArray) ++ (⟨#[13, 10]⟩ : ByteArray)) = ⟨(x ++ [13, 10]).toArray⟩ := ba_app x [13, 10]
set_option maxRecDepth 100000 in
set_option maxHeartbeats 8000000 in
theorem print_any (A : Option Addr) (n c : Nat) (xs : List Fld) (w : World) (h : FldsIn w A n xs) (hsm : Small xs) (hm : MaxAt w) :
    Calls Tryd.prog 11 #[.slice A n c] w fun e w' => e = .returned (.tuple #[.string ⟨(prT (fds xs)).toArray⟩, .int .i64 (prE (fds xs))]) ∧ Below w.heap.size w w' := by
  obtain ⟨T, hT⟩ : ∃ T : ByteArray, T = ⟨(prT (fds xs)).toArray⟩ := ⟨_, rfl⟩
  obtain ⟨E, hE⟩ : ∃ E : Int, E = prE (fds xs) := ⟨_, rfl⟩
  rw [← hT, ← hE]
  have hn0 : (0 : Int) ≤ (n : Int) := by omega
  have hnm := h.max
  have HTE := Lib.hid (And.intro hT hE)
  have H := Lib.hid (And.intro h (And.intro hsm hm))
  clear h hsm hT hE hm
  go_enter Tryd.func11, Tryd.ntmps11
  go_wp2
  go_loopw [13] (fun i wr => ∃ k : Nat, k ≤ n ∧ i = .int .i64 k ∧ Hid (allR (fds xs) = allR (fds (xs.drop k))) ∧ Below w.heap.size w wr) (fun i _ => n - (intOf i).toNat)
  case atStart => exact ⟨0, Nat.zero_le _, rfl, Lib.hid (by rw [List.drop_zero]), Below.refl _ _⟩
  case round =>
    obtain ⟨k, hk, rfl, hg, hbl⟩ := hrel
    have hk0 : (0 : Int) ≤ (k : Int) := by omega
    by_cases hlt : k < n
    · have hki : (k : Int) < (n : Int) := by omega
      obtain ⟨b, off, rfl, hc⟩ := (H.out.1.below hbl).cells (by omega)
      obtain ⟨e1, e2⟩ := hc k hlt
      have hkl : k < xs.length := by rw [H.out.1.len]; exact hlt
      have hsz := H.out.2.1.at_ hkl
      have hgd := hg.out
      rw [fds_drop hkl] at hgd
      generalize fl xs k = f at *
      obtain ⟨fn, fb⟩ := f
      dsimp only at e1 e2 hsz hgd
      have c1 := fun W => right_any fn fb W (by omega) (by omega)
      have hbn : Below w.heap.size w (wr.alloc (.cells #[.string fn, .string fb] 38 (0, 0))) := hbl.alloc hbl.size _
      have HB := Lib.hid hbn
      cases hs : rtF fn.data.toList fb.data.toList with
      | true =>
        rw [hs] at c1 hgd
        have HG := Lib.hid hgd
        clear hc hkl hg hbl hbn hs hsz hgd
        go_wp2_with fail
        refine (c1 _).mono ?_
        rintro e w1 ⟨rfl, hb1⟩
        have HF := Lib.hid (HB.out.trans (hb1.mono HB.out.size))
        clear c1 hb1
        go_wp2
        go_roundw
        case rel => exact ⟨k + 1, by omega, by go_num, HG.out, HF.out⟩
        case measure => simp [intOf]; omega
      | false =>
        rw [hs] at c1 hgd
        obtain ⟨q1, q2⟩ := pr_bad hgd
        rw [← HTE.out.1] at q2
        rw [← HTE.out.2] at q1
        subst q1
        subst q2
        clear hc hkl hg hbl hbn hs hsz hgd
        go_wp2_with fail
        refine (c1 _).mono ?_
        rintro e w1 ⟨rfl, hb1⟩
        have HF := Lib.hid (HB.out.trans (hb1.mono HB.out.size))
        clear c1 hb1
        go_wp2
        go_ret2
        exact ⟨rfl, HF.out⟩
    · obtain rfl : k = n := by omega
      have hjE : ¬ (k : Int) < (k : Int) := by omega
      have hall : allR (fds xs) = true := by rw [hg.out, List.drop_of_length_le (by rw [H.out.1.len]; exact Nat.le_refl _)]; rfl
      have hlen : (fds xs).length = k := by rw [fds_len]; exact H.out.1.len
      by_cases h64 : 64 < k
      · obtain ⟨q1, q2⟩ := pr_many hall (by rw [hlen]; exact h64)
        rw [← HTE.out.1] at q2
        rw [← HTE.out.2] at q1
        subst q1
        subst q2
        have h64i : (64 : Int) < (k : Int) := by omega
        have HF := Lib.hid hbl
        clear hg hbl hall hlen h64
        go_wp2
        go_ret2
        exact ⟨rfl, HF.out⟩
      · have h64i : ¬ (64 : Int) < (k : Int) := by omega
        have HA := Lib.hid (And.intro hall hlen)
        obtain ⟨b, hb⟩ : ∃ b, b = wr.heap.size := ⟨_, rfl⟩
        have hbb := bb_new wr wr.heap.size (Nat.le_refl _)
        rw [← hb] at hbb
        have hwb : w.heap.size ≤ b := by rw [hb]; exact hbl.size
        have hb2 : Below w.heap.size w (wr.alloc (.cells #[.pointer none, .slice none 0 0] 47 (0, 0))) := hbl.alloc hbl.size _
        have hbz : b < (wr.alloc (.cells #[.pointer none, .slice none 0 0] 47 (0, 0))).heap.size := by rw [size_alloc, hb]; omega
        have HS := Lib.hid (And.intro hbb (And.intro hb2 hbz))
        clear hg hbl hall hlen hbb hb2 hbz
        go_upto_region 10 with fail
        rw [← hb]
        clear hb
        go_wp2
        go_loopw [26] (fun i wr => ∃ j : Nat, j ≤ k ∧ i = .int .i64 j ∧ BB wr b b (ctL (prK xs j)) ∧ Hid (Fine (prK xs j)) ∧ Below w.heap.size w wr ∧ b < wr.heap.size) (fun i _ => k - (intOf i).toNat)
        case atStart => exact ⟨0, Nat.zero_le _, rfl, HS.out.1, Lib.hid (fun x hx => by cases hx), HS.out.2⟩
        case round =>
          obtain ⟨j, hj, rfl, hbb, hfi, hbl, hbz⟩ := hrel
          obtain ⟨wo, rfl⟩ : ∃ wo : World, wo = wr := ⟨_, rfl⟩
          have hj0 : (0 : Int) ≤ (j : Int) := by omega
          by_cases hlt : j < k
          · have hki : (j : Int) < (k : Int) := by omega
            obtain ⟨g0, off, rfl, hc⟩ := (H.out.1.below hbl).cells (by omega)
            obtain ⟨e1, e2⟩ := hc j hlt
            have hkl : j < xs.length := by rw [H.out.1.len]; exact hlt
            have hsz := H.out.2.1.at_ hkl
            have hin := fun {x : Bs} => prK_in hkl (x := x)
            have hsu := prK_succ hkl
            have hpl := prK_len H.out.2.1 j (by omega)
            generalize fl xs j = f at *
            obtain ⟨fn, fb⟩ := f
            dsimp only at e1 e2 hsz hin hsu
            have hbn : Below w.heap.size w (wo.alloc (.cells #[.string fn, .string fb] 38 (0, 0))) := hbl.alloc hbl.size _
            have c2 := folded_any fn fb (wo.alloc (.cells #[.string fn, .string fb] 38 (0, 0))) hsz.1 hsz.2 (H.out.2.2.below hbn)
            have hbb2 := hbb.alloc (.cells #[.string fn, .string fb] 38 (0, 0))
            have hbz2 : b < (wo.alloc (.cells #[.string fn, .string fb] 38 (0, 0))).heap.size := by rw [size_alloc]; omega
            have hct := fold_ct fn.data.toList fb.data.toList
            rw [bsize, bsize] at hct
            have HX := Lib.hid (And.intro hbn (And.intro hbb2 (And.intro hbz2 (And.intro hfi.out (And.intro hsu hpl)))))
            have HIN := Lib.hid (fun x => hin (x := x))
            have HCT := Lib.hid (And.intro hct hsz)
            clear hc hkl hbl hbn hsz hin hsu hpl hbb2 hbz2 hbb hfi hbz hct
            go_wp2_with fail
            refine c2.mono ?_
            rintro e w1 ⟨ls, g, cap, rfl, hls, hfl, hb1⟩
            have hbb3 := bb_below HX.out.2.1 hb1
            have hb3 := HX.out.1.trans (hb1.mono HX.out.1.size)
            have hz3 : b < w1.heap.size := Nat.lt_of_lt_of_le HX.out.2.2.1 hb1.size
            obtain ⟨N, hN⟩ : ∃ N, N = ls.length := ⟨_, rfl⟩
            have hgb : b ≠ g := by
              have h1 := hls.len.2.1
              have h4 := HX.out.2.2.1
              omega
            have HL := Lib.hid (And.intro hls (And.intro hfl (And.intro hbb3 (And.intro hb3 (And.intro hz3 (And.intro hN hgb))))))
            clear c2 hls hfl hb1 hbb3 hb3 hz3 hgb
            rw [← hN]
            have hNm : N ≤ 9223372036854775807 := by rw [hN]; have h1 := HL.out.1.len.2.2.2; unfold maxLen at h1; omega
            have hN0 : (0 : Int) ≤ (N : Int) := by omega
            clear hN
            go_wp2
            go_loopw [33] (fun i wr => ∃ m : Nat, m ≤ N ∧ i = .int .i64 m ∧ BB wr b b (ctL (prK xs j) ++ ctL ((bss ls).take m)) ∧ Hid (Fine ((bss ls).take m)) ∧ SSo wr (wo.alloc (.cells #[.string fn, .string fb] 38 (0, 0))).heap.size (.slice (some ⟨g, 0, none⟩) ls.length cap) ls ∧ Below w.heap.size w wr ∧ b < wr.heap.size) (fun i _ => N - (intOf i).toNat)
            case atStart => exact ⟨0, Nat.zero_le _, rfl, by have := HL.out.2.2.1; simpa [ctL] using this, Lib.hid (fun x hx => by cases hx), HL.out.1, HL.out.2.2.2.1, HL.out.2.2.2.2.1⟩
            case round =>
              obtain ⟨m, hm, rfl, hbb, hfi, hss, hbl, hbz⟩ := hrel
              have hm0 : (0 : Int) ≤ (m : Int) := by omega
              by_cases hlt2 : m < N
              · have hmi : (m : Int) < (N : Int) := by omega
                have hml : m < ls.length := by rw [← HL.out.2.2.2.2.2.1]; exact hlt2
                obtain ⟨ec, ef⟩ := hss.at_ hml
                have htk : (bss ls).take (m + 1) = (bss ls).take m ++ [ls[m].data.toList] := by
                  rw [List.take_succ_eq_append_getElem (by rw [bss_len]; exact hml)]
                  simp [bss]
                have hxin : ls[m].data.toList ∈ foldL fn.data.toList fb.data.toList := by
                  rw [← HL.out.2.1]; exact List.mem_map.2 ⟨_, List.getElem_mem hml, rfl⟩
                have hlx : ls[m].size ≤ 400006 := by
                  have h1 := (List.sublist_flatten_of_mem hxin).length_le
                  have h2 := HCT.out.1
                  rw [ctL_len] at h2
                  have h3 := HCT.out.2
                  rw [bsize] at h1
                  omega
                have hpre : (ctL ((bss ls).take m)).length ≤ 400006 := by
                  have h2 := HCT.out.1
                  have h3 := HCT.out.2
                  rw [← HL.out.2.1] at h2
                  have h5 : (ctL (bss ls)).length = (ctL ((bss ls).take m)).length + (ctL ((bss ls).drop m)).length := by
                    rw [← List.length_append, ← ctL_app, List.take_append_drop]
                  omega
                generalize ls[m] = x at *
                have hxd : (x ++ (⟨#[13, 10]⟩ : ByteArray)).data.toList = x.data.toList ++ [13, 10] := by simp
                have hxe : (x ++ (⟨#[13, 10]⟩ : ByteArray)).size = x.size + 2 := by rw [ByteArray.size_append]; rfl
                have hx0 : (0 : Int) ≤ (x.size : Int) := by omega
                by_cases hbig : 998 < x.size
                · have hbi : (998 : Int) < (x.size : Int) := by omega
                  obtain ⟨q1, q2⟩ := pr_long HA.out.1 (by rw [HA.out.2]; exact h64) (HIN.out _ hxin) (by rw [bsize]; exact hbig)
                  rw [← HTE.out.1] at q2
                  rw [← HTE.out.2] at q1
                  subst q1
                  subst q2
                  have HF := Lib.hid hbl
                  clear hbb hfi hss hbl hbz hml htk hxin hlx hpre hxd hxe hbig
                  go_wp2
                  go_ret2
                  exact ⟨rfl, HF.out⟩
                · have hbi : ¬ (998 : Int) < (x.size : Int) := by omega
                  have c4 := wstr b b (ctL (prK xs j) ++ ctL ((bss ls).take m)) (x ++ ⟨#[13, 10]⟩) wr hbb (by
                    have h1 := HX.out.2.2.2.2.2
                    rw [hxe, List.length_append]; omega) (Nat.le_of_lt hbz)
                  have HN := Lib.hid (And.intro hxd (And.intro htk (And.intro hfi.out (And.intro hss (And.intro hbl (And.intro hbz (show x.data.toList.length ≤ 998 by rw [bsize]; omega)))))))
                  clear hbb hfi hss hbl hml htk hxin hlx hpre hxd hbig
                  go_wp2_with fail
                  refine c4.mono ?_
                  rintro e w3 ⟨rfl, hbb3, hbl3, hok3⟩
                  have hbb4 : BB w3 b b (ctL (prK xs j) ++ ctL ((bss ls).take (m + 1))) := by
                    rw [HN.out.2.1, ctL_app, ← List.append_assoc]
                    rw [HN.out.1] at hbb3
                    simpa [ctL] using hbb3
                  have hss3 := SSo.chg HN.out.2.2.2.1 (Chg.of_others hbl3 hok3) (fun g' hg' => by
                    have : g = g' := by simpa [Value.ownBlock] using hg'
                    subst this
                    exact fun e => HL.out.2.2.2.2.2.2 e.symm)
                  have hfi3 : Fine ((bss ls).take (m + 1)) := by
                    rw [HN.out.2.1]
                    exact HN.out.2.2.1.app (fun y hy => by rw [List.mem_singleton.1 hy]; exact HN.out.2.2.2.2.2.2)
                  have hb4 := HN.out.2.2.2.2.1.trans (hbl3.mono hwb)
                  have HF := Lib.hid (And.intro hbb4 (And.intro hfi3 (And.intro hss3 (And.intro hb4 (Nat.lt_of_lt_of_le hbz hbl3.size)))))
                  clear c4 hbb3 hbl3 hok3 hbb4 hss3 hfi3 hb4
                  go_wp2
                  go_roundw
                  case rel => exact ⟨m + 1, by omega, by go_num, HF.out.1, Lib.hid HF.out.2.1, HF.out.2.2.1, HF.out.2.2.2⟩
                  case measure => simp [intOf]; omega
              · obtain rfl : m = N := by omega
                have hjE2 : ¬ (m : Int) < (m : Int) := by omega
                have htk : (bss ls).take m = foldL fn.data.toList fb.data.toList := by
                  rw [HL.out.2.2.2.2.2.1, ← bss_len, List.take_length]; exact HL.out.2.1
                rw [htk, ← ctL_app, ← HX.out.2.2.2.2.1] at hbb
                have hfi2 : Fine (prK xs (j + 1)) := by
                  rw [HX.out.2.2.2.2.1]
                  have h1 := hfi.out
                  rw [htk] at h1
                  exact HX.out.2.2.2.1.app h1
                have HF := Lib.hid (And.intro hbb (And.intro hfi2 (And.intro hbl hbz)))
                clear hbb hfi hss hbl hbz htk hfi2
                go_wp2
                go_roundw
                case rel => exact ⟨j + 1, by omega, by go_num, HF.out.1, Lib.hid HF.out.2.1, HF.out.2.2⟩
                case measure => simp [intOf]; omega
          · obtain rfl : j = k := by omega
            have hjE3 : ¬ (j : Int) < (j : Int) := by omega
            have hpl := prK_len H.out.2.1 j (by rw [H.out.1.len]; exact Nat.le_refl _)
            have c5 := bstr b b (ctL (prK xs j)) wo hbb (Nat.le_of_lt hbz)
            have hpe : prK xs j = prL (fds xs) := by rw [← H.out.1.len]; exact prK_all xs
            have h1 := hfi.out
            rw [hpe] at h1
            obtain ⟨q1, q2⟩ := pr_ok HA.out.1 (by rw [HA.out.2]; exact h64) h1
            rw [← HTE.out.2] at q1
            subst q1
            have hT2 : T = (⟨(ctL (prK xs j)).toArray⟩ : ByteArray) ++ (⟨#[13, 10]⟩ : ByteArray) := by
              rw [ba_pref, HTE.out.1, q2, hpe]
            have hzl : (⟨(ctL (prK xs j)).toArray⟩ : ByteArray).size ≤ 30000000 := by rw [lsize]; omega
            have HF := Lib.hid (And.intro hT2 hbl)
            clear hbb hfi hbl hbz hpl hpe h1 q2 hT2
            generalize (⟨(ctL (prK xs j)).toArray⟩ : ByteArray) = sb at *
            go_wp2_with fail
            refine c5.mono ?_
            rintro e w2 ⟨rfl, -, hbl2, -⟩
            have HG := Lib.hid (HF.out.2.trans (hbl2.mono hwb))
            clear c5 hbl2
            go_wp2
            go_ret2
            exact ⟨by rw [HF.out.1]; rfl, HG.out⟩
end Go.Proofs.YtdaekoapkclliaaDoor
