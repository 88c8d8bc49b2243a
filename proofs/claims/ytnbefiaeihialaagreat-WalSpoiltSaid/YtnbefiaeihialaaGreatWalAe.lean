/- Package wal: Commit on a store that lies well. -/
import Derived.Test.YtnbefiaeihialaaGreatWalAd
set_option linter.unusedVariables false
set_option linter.unusedSimpArgs false
namespace Go.Proofs.YtnbefiaeihialaaGreat
open Go.RowKit
set_option maxRecDepth 100000 in
set_option maxHeartbeats 4000000 in
theorem commit_bad (A : Option Addr) (n cc s : Nat) (xs : List Ch) (w : World) (hin : ChsIn w A n xs) (hn : n ≤ 100000) (hno : ¬ ChsOk xs) :
    Calls Tryz.prog 19 #[.pointer (some ⟨s, 0, none⟩), .slice A n cc] w fun e w' => e = .returned (.int .i64 3) ∧ Below w.heap.size w w' := by
  have c1 := print_any A n cc xs w hin hn
  have e1 : printC xs = 3 := if_neg hno
  rw [e1] at c1
  clear hin e1 hno
  go_enter Tryz.func19, Tryz.ntmps19
  go_wp2_with fail
  refine c1.mono ?_
  rintro e w1 ⟨rfl, hb1⟩
  clear c1
  go_wp2
  go_ret
  exact ⟨rfl, hb1⟩
theorem szM_len : ∀ M : List Pr, 5 * M.length ≤ szM M
  | [] => Nat.zero_le _
  | p :: r => by have := szM_len r; rw [szM_cons, List.length_cons]; omega
/-- The sizes of a store that lies. -/
theorem Good.small {k : Dk} {m c : Nat} {st : St} (h : Good shaF k m c st) : st.half ≤ 2048 ∧ szM st.M ≤ 131072 ∧ st.M.length ≤ 26300 := by
  have h1 := h.area
  have h2 := h.still.ok.n2
  have h3 := h.sz
  have h4 := h.free
  have h5 : szM st.M ≤ 131072 := by unfold secN at h3; omega
  have h6 := szM_len st.M
  exact ⟨by omega, h5, by omega⟩
theorem appM_sz {M : List Pr} (hs : Srt M) {l : List Ch} (hl : ChsOk l) : szM (appM M l) ≤ szM M + l.length * 131075 := by
  induction l generalizing M with
  | nil => show szM M ≤ szM M + 0 * 131075; omega
  | cons c r ih =>
    have h1 := ih (hs.ap c) (fun x hx => hl x (List.mem_cons_of_mem _ hx))
    have h2 : szM (apM M c) ≤ szM M + 131075 := by
      have hc := hl c List.mem_cons_self
      unfold apM
      cases c.gone with
      | true =>
        show szM (doneM c.key c.val false M) ≤ _
        rw [doneM_false]
        have := szM_filter (fun p => decide (p.1 ≠ c.key)) M
        omega
      | false =>
        have := szM_put (k := c.key) (v := c.val) hs
        have h3 := hc.1
        have h4 := hc.2
        show szM (doneM c.key c.val true M) ≤ _
        omega
    show szM (appM (apM M c) r) ≤ _
    rw [List.length_cons]
    omega
/-- What Commit does to a store that lies: it lies again. -/
theorem good_step {k : Dk} {m c : Nat} {st : St} (h : Good shaF k m c st) (xs : List Ch) (hc : c < 4294967295) (hn : xs.length ≤ 500) :
    ∃ m', Good shaF (commitF k st xs).2.1 m' (c + 1) (commitF k st xs).2.2 ∧ (commitF k st xs).2.1.n = k.n ∧
      (∀ j, j < k.n → (j < st.from_ ∨ st.from_ + 2 * st.half ≤ j) → sec (commitF k st xs).2.1 j = sec k j) ∧ (commitF k st xs).2.2.from_ = st.from_ ∧ (commitF k st xs).2.2.half = st.half ∧
      (((commitF k st xs).1 = 0 ∧ ChsOk xs ∧ (commitF k st xs).2.2.M = appM st.M xs) ∨ ((commitF k st xs).1 = 3 ∧ ¬ ChsOk xs ∧ (commitF k st xs).2.2 = st) ∨ ((commitF k st xs).1 = 5 ∧ ChsOk xs ∧ xs ≠ [] ∧ planF shaF st xs = none ∧ (commitF k st xs).2.2 = st)) := by
  have h0 : Good shaF k m (c + 1) st := h.away h.still rfl (Nat.le_succ _) (fun _ _ _ => rfl)
  by_cases hok : ChsOk xs
  · by_cases hz : xs.length = 0
    · have e : commitF k st xs = (0, k, st) := by unfold commitF; rw [if_neg (fun hh => hh hok), if_pos hz]
      rw [e]
      obtain rfl : xs = [] := List.eq_nil_of_length_eq_zero hz
      exact ⟨m, h0, rfl, fun _ _ _ => rfl, rfl, rfl, .inl ⟨rfl, hok, rfl⟩⟩
    · cases hp : planF shaF st xs with
      | none =>
        have e : commitF k st xs = (5, k, st) := by unfold commitF; rw [if_neg (fun hh => hh hok), if_neg hz, hp]
        rw [e]
        exact ⟨m, h0, rfl, fun _ _ _ => rfl, rfl, rfl, .inr (.inr ⟨rfl, hok, fun e => hz (by rw [e]; rfl), rfl, rfl⟩)⟩
      | some p =>
        obtain ⟨ws, st'⟩ := p
        have hsm := h.small
        have hpl := prT_len_le hok
        have hsz := appM_sz h.srt hok
        obtain ⟨g1, g2, g3, g4, g5, g6, g7⟩ := commit_good shaF_len h hok hp hc (by omega) (by show szM _ < _; omega)
        have e : commitF k st xs = (0, (wrL k ws).1, st') := by
          unfold commitF
          rw [if_neg (fun hh => hh hok), if_neg hz, hp]
          show (if (wrL k ws).2 = 0 then _ else _) = _
          rw [if_pos g1]
        rw [e]
        exact ⟨m + ws.length, g2, g3, g4, g6, g7, .inl ⟨rfl, hok, g5⟩⟩
  · have e : commitF k st xs = (3, k, st) := if_pos hok
    rw [e]
    exact ⟨m, h0, rfl, fun _ _ _ => rfl, rfl, rfl, .inr (.inl ⟨rfl, hok, rfl⟩)⟩
/-- Commit, on a store that lies. -/
def CommitG (s mb g D c : Nat) (R : List Value) (N cN : Nat) (k : Dk) (st : St) (xs : List Ch) (w : World) (e : Ending) (w' : World) : Prop :=
  ∃ mb' d' tab' m', e = .returned (.int .i64 (commitF k st xs).1) ∧ StAt w' s mb' g D c R (commitF k st xs).2.1 (commitF k st xs).2.2 d' tab' ∧ SumOk d' tab' ∧ Eff (fun x => x = s ∨ x = g ∨ x = D) w w' ∧ Cnt (commitF k st xs).2.1 (N + 30000000) ∧ Good shaF (commitF k st xs).2.1 m' (cN + 1) (commitF k st xs).2.2
theorem commit_law (A : Option Addr) (n cc s mb g D c N cN m : Nat) (R : List Value) (k : Dk) (st : St) (d : Int) (tab : List Int) (xs : List Ch) (w : World) (hst : StAt w s mb g D c R k st d tab) (hd : SumOk d tab) (hin : ChsIn w A n xs) (hcn : Cnt k N) (hN : N ≤ 10000000000)
    (hg : Good shaF k m cN st) (hc : cN < 4294967295) (hn : n ≤ 500) :
    Calls Tryz.prog 19 #[.pointer (some ⟨s, 0, none⟩), .slice A n cc] w (CommitG s mb g D c R N cN k st xs w) := by
  have hl := hin.len
  obtain ⟨m', h1, h2, h3, h4, h5, h6⟩ := good_step hg xs hc (by omega)
  by_cases hok : ChsOk xs
  · have hsm := hg.small
    have hpl := prT_len_le hok
    have hgn := hg.gen
    have hgx := hg.next
    refine (commit_any A n cc s mb g D c N R k st d tab xs w hst hd hin hcn hN hg.area hg.side ⟨by omega, by omega⟩ hg.free hg.srt hg.mok (by omega) (by omega) (by omega) (fun c hc => (hok c hc).fit)).mono ?_
    rintro e w' ⟨mb', d', tab', rfl, q1, q2, q3, q4⟩
    exact ⟨mb', d', tab', m', rfl, q1, q2, q3, q4, h1⟩
  · have e : commitF k st xs = (3, k, st) := if_pos hok
    refine (commit_bad A n cc s xs w hin (by omega) hok).mono ?_
    rintro e' w' ⟨rfl, hb⟩
    unfold CommitG
    rw [e] at h1 ⊢
    exact ⟨mb, d, tab, m', rfl, hst.below hb, hd, Eff.of_below hb _, hcn.mono (by omega), h1⟩
end Go.Proofs.YtnbefiaeihialaaGreat
