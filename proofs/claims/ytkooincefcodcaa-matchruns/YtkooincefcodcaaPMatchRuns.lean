import Derived.Test.YtkooincefcodcaaMatch2
import Derived.Test.YtkooincefcodcaaMMatchRuns
set_option linter.unusedVariables false
set_option linter.unusedSimpArgs false
set_option maxRecDepth 100000
namespace Go.Xr.Try
open Go Go.Xr

/-- a row that repeats itself -/
def turnsL (k n : Nat) : List Int := (List.range n).map fun i => ((i % k : Nat) : Int)
theorem turns_len (k n : Nat) : (turnsL k n).length = n := by simp [turnsL]
theorem turns_get {k n i : Nat} (h : i < n) : (turnsL k n).getD i 0 = ((i % k : Nat) : Int) := by simp [turnsL, h]
theorem turns_succ (k n : Nat) : turnsL k (n + 1) = turnsL k n ++ [((n % k : Nat) : Int)] := by simp [turnsL, List.range_succ]
theorem runs_loop {k N : Nat} (hk : 0 < k) (hk2 : k ≤ 40) (hN : N ≤ 900) {kk : Int × Unit} (hkk : pAdd .i64 1 kk.1 = (k : Int)) : ∀ (j t : Nat), t + j = N → pIter (s_MatchRuns_0 (N : Int) kk) ((t : Int), (turnsL k t, ())) = some ((N : Int), (turnsL k N, ()))
  | 0, t, ht => by
    refine pIter_inr ?_
    have : t = N := by omega
    subst this
    unfold s_MatchRuns_0
    simp [pLt]
  | j + 1, t, ht => by
    have e1 : pLt (t : Int) (N : Int) = true := by simp [pLt]; omega
    have e2 : pNot (pEq (k : Int) 0) = true := by simp [pNot, pEq]; omega
    have e3 : pRem (t : Int) (k : Int) = ((t % k : Nat) : Int) := rem64 _ _
    have hlt := Nat.mod_lt t hk
    have e4 : pWrap .u8 ((t % k : Nat) : Int) = ((t % k : Nat) : Int) := wrap8 (by omega) (by omega)
    have e5 : pRoom (pIAdd (pLen (turnsL k t)) (pLen [((t % k : Nat) : Int)])) = true := by simp [pRoom, pIAdd, pLen, turns_len]; omega
    have e6 : pAdd .i64 (t : Int) 1 = ((t + 1 : Nat) : Int) := by rw [add64 (by omega) (by omega)]; omega
    have hst : s_MatchRuns_0 (N : Int) kk ((t : Int), (turnsL k t, ())) = some (.inl (((t + 1 : Nat) : Int), (turnsL k (t + 1), ()))) := by
      unfold s_MatchRuns_0
      simp only [hkk, e1, e2, e3, e4, e5, e6, if_true, pApp, ← turns_succ]
    rw [pIter_inl hst]
    exact runs_loop hk hk2 hN hkk j (t + 1) (by omega)
theorem key3_head {b : List Int} {i : Nat} (h : i < b.length) : (key3 b i)[0]? = some (b.getD i 0) := by
  simp [key3, List.getD_eq_getElem?_getD, h]
theorem runL_all {b : List Int} : ∀ (f i j : Nat), i ≤ b.length → (∀ x, i + x < b.length → b.getD (i + x) 0 = b.getD (j + x) 0) → runL b f i j = min f (b.length - i)
  | 0, i, j, _, _ => by simp [runL]
  | f + 1, i, j, hi, hs => by
    simp only [runL]
    by_cases h : i < b.length
    · rw [if_pos ⟨h, by simpa using hs 0 (by omega)⟩, runL_all f (i + 1) (j + 1) (by omega) (fun x hx => by
        have := hs (x + 1) (by omega)
        rw [show i + (x + 1) = i + 1 + x by omega, show j + (x + 1) = j + 1 + x by omega] at this
        exact this)]
      omega
    · rw [if_neg (fun hc => h hc.1)]
      omega
theorem best_keep {b : List Int} {i : Nat} : ∀ (l : List Nat) (s : Nat × Nat), (∀ p ∈ l, mlen b i p ≤ s.2) → bestL b i l s = s
  | [], s, _ => rfl
  | p :: l, s, h => by
    have : best1 b i s p = s := by
      unfold best1
      rw [if_neg]
      have := h p (by simp)
      omega
    show bestL b i l (best1 b i s p) = s
    rw [this]
    exact best_keep l s fun q hq => h q (by simp [hq])
theorem occ_first {b : List Int} {key : List Int} {q : Nat} (hq : key3 b q = key) : ∀ (k : Nat), q < k → (∀ x, q < x → x < k → key3 b x ≠ key) → occ b key k = q :: occ b key q
  | k + 1, hk, hn => by
    simp only [occ]
    by_cases e : q = k
    · subst e; rw [if_pos hq]
    · rw [if_neg (hn k (by omega) (by omega))]
      exact occ_first hq k (by omega) fun x h1 h2 => hn x h1 (by omega)
theorem mod_back {p k : Nat} (h : k ≤ p) : (p - k) % k = p % k := by
  conv => rhs; rw [show p = p - k + k by omega]
  simp
theorem runs_best {k n : Nat} (hk : 0 < k) (hk2 : k ≤ 40) {p : Nat} (hp : p ≤ n) : bestAt (turnsL k n) p = if k ≤ p ∧ p + 3 ≤ n then (k, min (n - p) 258) else (0, 0) := by
  unfold bestAt
  rw [turns_len]
  by_cases h3 : p + 3 ≤ n
  · rw [if_pos h3]
    have head : ∀ q, q < n → key3 (turnsL k n) q = key3 (turnsL k n) p → q % k = p % k := by
      intro q hq e
      have h1 := key3_head (b := turnsL k n) (i := q) (by rw [turns_len]; exact hq)
      have h2 := key3_head (b := turnsL k n) (i := p) (by rw [turns_len]; omega)
      rw [e, h2] at h1
      simp only [Option.some.injEq] at h1
      rw [turns_get (by omega), turns_get hq] at h1
      omega
    by_cases hkp : k ≤ p
    · rw [if_pos ⟨hkp, h3⟩]
      have hsame : ∀ x, p + x < n → (turnsL k n).getD (p + x) 0 = (turnsL k n).getD (p - k + x) 0 := by
        intro x hx
        rw [turns_get hx, turns_get (by omega)]
        congr 1
        rw [show p - k + x = p + x - k by omega, mod_back (by omega)]
      have hkey : key3 (turnsL k n) (p - k) = key3 (turnsL k n) p := by
        apply List.ext_getElem?
        intro x
        simp only [key3, List.getElem?_take, List.getElem?_drop]
        split
        · rename_i hx
          have := hsame x (by omega)
          simp only [List.getD_eq_getElem?_getD] at this
          rw [List.getElem?_eq_getElem (by rw [turns_len]; omega), List.getElem?_eq_getElem (by rw [turns_len]; omega)] at this ⊢
          simpa using this.symm
        · rfl
      have hocc := occ_first hkey p (by omega) (fun x h1 h2 e => by
        have := head x (by omega) e
        have h4 : (p - x) % k = 0 := by
          have := Nat.sub_mod_eq_zero_of_mod_eq this.symm
          exact this
        have h5 : p - x < k := by omega
        rw [Nat.mod_eq_of_lt h5] at h4
        omega)
      have hml : mlen (turnsL k n) p (p - k) = min (n - p) 258 := by
        unfold mlen
        rw [runL_all 258 p (p - k) (by rw [turns_len]; omega) (fun x hx => hsame x (by rw [turns_len] at hx; exact hx)), turns_len]
        omega
      unfold placesL
      rw [hocc, List.takeWhile_cons, if_pos (by simp [near]; omega)]
      show bestL _ _ _ (best1 (turnsL k n) p (0, 0) (p - k)) = _
      have : best1 (turnsL k n) p (0, 0) (p - k) = (k, min (n - p) 258) := by
        unfold best1
        rw [hml, if_pos (by simp; omega)]
        congr 1
        omega
      rw [this]
      refine best_keep _ _ fun q hq => ?_
      have h4 := runL_le (turnsL k n) 258 p q
      have h5 := runL_end (turnsL k n) 258 p q (by rw [turns_len]; omega)
      rw [turns_len] at h5
      unfold mlen
      simp only
      omega
    · rw [if_neg (fun h => hkp h.1)]
      have : placesL (turnsL k n) p = [] := by
        cases hpl : placesL (turnsL k n) p with
        | nil => rfl
        | cons q l =>
          exfalso
          have hm : q ∈ placesL (turnsL k n) p := by rw [hpl]; simp
          obtain ⟨m1, m2⟩ := (occ_mem.1 ((List.takeWhile_sublist _).mem hm) : q < p ∧ key3 (turnsL k n) q = key3 (turnsL k n) p)
          have := head q (by omega) m2
          rw [Nat.mod_eq_of_lt (by omega), Nat.mod_eq_of_lt (by omega)] at this
          omega
      rw [this]
      rfl
  · rw [if_neg h3, if_neg (fun h => h3 h.2)]
theorem MatchRuns_true (a0 a1 a2 : Int) : MatchRuns_m a0 a1 a2 = some true := by
  obtain ⟨k0, hk0, h0, _⟩ := round_ok (a := a0) (n := 40) (by omega) (by omega)
  have h0 : m_wainscotalike_Round a0 40 = some ((k0 : Int), ()) := h0
  unfold MatchRuns_m
  simp only [h0, pBind, Option.bind_some]
  by_cases g1 : a1 < 0
  · have : pLt a1 0 = true := by simp [pLt, g1]
    simp [this, awake6_ok]
  have g1' : pLt a1 0 = false := by simp [pLt, g1]
  by_cases g2 : 900 < a1
  · have : pLt 900 a1 = true := by simp [pLt, g2]
    simp [g1', this, awake6_ok]
  have g2' : pLt 900 a1 = false := by simp [pLt, g2]
  obtain ⟨N, rfl⟩ := Int.eq_ofNat_of_zero_le (by omega : 0 ≤ a1)
  have hk : pAdd .i64 1 (k0 : Int) = ((k0 + 1 : Nat) : Int) := by rw [add64 (by omega) (by omega)]; omega
  have h1 := runs_loop (k := k0 + 1) (N := N) (by omega) (by omega) (by omega) (kk := ((k0 : Int), ())) hk N 0 (by omega)
  have h1 : pIter (s_MatchRuns_0 (N : Int) ((k0 : Int), ())) (0, ([], ())) = some ((N : Int), (turnsL (k0 + 1) N, ())) := h1
  have hl := turns_len (k0 + 1) N
  have hnew := new_ok (b := turnsL (k0 + 1) N) (by omega)
  have e1 : pAdd .i64 (N : Int) 1 = ((N + 1 : Nat) : Int) := by rw [add64 (by omega) (by omega)]; omega
  obtain ⟨p, hp, h3, _⟩ := round_ok (a := a2) (n := N + 1) (by omega) (by omega)
  have h4 := at_ok (b := turnsL (k0 + 1) N) (by omega) (i := p) (by omega)
  have h5 := runs_best (k := k0 + 1) (n := N) (by omega) (by omega) (p := p) (by omega)
  have e2 : pSub .i64 (N : Int) (p : Int) = ((N - p : Nat) : Int) := by rw [sub64 (by omega) (by omega)]; omega
  simp only [g1', g2', Bool.false_eq_true, if_false, h1, Option.bind_some, hnew, e1, h3, h4, hk, e2, awake6_ok]
  rw [h5]
  by_cases c1 : p < k0 + 1
  · have : pLt (p : Int) ((k0 + 1 : Nat) : Int) = true := by simp [pLt]; omega
    rw [if_neg (show ¬(k0 + 1 ≤ p ∧ p + 3 ≤ N) by omega), this]
    rfl
  have c1' : pLt (p : Int) ((k0 + 1 : Nat) : Int) = false := by simp [pLt]; omega
  by_cases c2 : N - p < 3
  · have : pLt ((N - p : Nat) : Int) 3 = true := by simp [pLt]; omega
    rw [if_neg (show ¬(k0 + 1 ≤ p ∧ p + 3 ≤ N) by omega), c1', this]
    rfl
  have c2' : pLt ((N - p : Nat) : Int) 3 = false := by simp [pLt]; omega
  rw [if_pos (show k0 + 1 ≤ p ∧ p + 3 ≤ N by omega), c1', c2']
  have c3 : pMin ((N - p : Nat) : Int) 258 = ((min (N - p) 258 : Nat) : Int) := by
    simp only [pMin]
    split <;> omega
  simp only [Bool.false_eq_true, if_false, c3, pEq, decide_true, if_true, Option.bind_some]
end Go.Xr.Try
