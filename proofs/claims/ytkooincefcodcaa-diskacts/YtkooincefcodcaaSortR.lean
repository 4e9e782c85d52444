import Derived.Test.YtkooincefcodcaaSortP
set_option linter.unusedVariables false
set_option linter.unusedSimpArgs false
set_option maxRecDepth 100000
set_option maxHeartbeats 1600000
namespace Go.Xr.Try
open Go Go.Xr Go.Sort
/-! partialInsertionSort -/
theorem scanS_bd (b : Nat) (d : Array Int) : ∀ (n i : Nat), b - i = n → i ≤ b → i ≤ scanSorted ltInt d b i ∧ scanSorted ltInt d b i ≤ b := by
  intro n
  induction n with
  | zero =>
    intro i hn hi
    have : scanSorted ltInt d b i = i := by rw [scanSorted.eq_def, if_neg (by simp; omega)]
    omega
  | succ n ih =>
    intro i hn hi
    rw [scanSorted.eq_def]
    split
    · have := ih (i + 1) (by omega) (by omega)
      omega
    · omega
theorem scanS_eq (b : Nat) (d : Array Int) (x y : Int) (hb : b ≤ d.size) (hd : d.size < 2 ^ 59) : ∀ (n i : Nat), b - i = n → 1 ≤ i →
    pIter (s_q30_0 (b : Int) (x, (y, (d.toList, ())))) ((i : Int), ()) = some ((scanSorted ltInt d b i : Int), ()) := by
  intro n
  induction n with
  | zero =>
    intro i hn hi
    have : scanSorted ltInt d b i = i := by rw [scanSorted.eq_def, if_neg (by simp; omega)]
    rw [this]
    refine pIter_inr ?_
    unfold s_q30_0
    have e : pLt (i : Int) (b : Int) = false := by rw [ltN]; simp; omega
    simp only [e, Bool.false_eq_true, if_false, pBind, Option.bind_some]
  | succ n ih =>
    intro i hn hi
    obtain ⟨i', rfl⟩ : ∃ i', i = i' + 1 := ⟨i - 1, by omega⟩
    have e : pLt ((i' + 1 : Nat) : Int) (b : Int) = true := by rw [ltN]; simp; omega
    have hst : s_q30_0 (b : Int) (x, (y, (d.toList, ()))) (((i' + 1 : Nat) : Int), ()) = if !ltInt d[i' + 1]! d[i']! then some (.inl (((i' + 1 + 1 : Nat) : Int), ())) else some (.inr (((i' + 1 : Nat) : Int), ())) := by
      unfold s_q30_0
      simp only [e, sub1 (n := i') (by omega), add1 (n := i' + 1) (by omega), inE (d := d) (i := i' + 1) (by omega), inE (d := d) (i := i') (by omega), getE, lessE, if_true, pBind, Option.bind_some, pNot]
    cases hl : ltInt d[i' + 1]! d[i']! with
    | false =>
      rw [hl] at hst
      rw [pIter_inl hst, ih (i' + 1 + 1) (by omega) (by omega)]
      have : scanSorted ltInt d b (i' + 1) = scanSorted ltInt d b (i' + 1 + 1) := by
        rw [scanSorted.eq_def ltInt d b (i' + 1), if_pos (by simp [hl]; omega)]
      rw [this]
    | true =>
      rw [hl] at hst
      have : scanSorted ltInt d b (i' + 1) = i' + 1 := by
        rw [scanSorted.eq_def, if_neg (by simp [hl])]
      rw [this]
      exact pIter_inr hst
theorem shiftD_eq : ∀ (j : Nat) (d : Array Int), j < d.size → d.size < 2 ^ 59 →
    (∃ k, pIter s_q30_1 ((j : Int), (d.toList, ())) = some (k, ((shiftDown ltInt j d).toList, ()))) ∧ (shiftDown ltInt j d).size = d.size
  | 0, d, hj, hd => by
    refine ⟨⟨((0 : Nat) : Int), pIter_inr ?_⟩, rfl⟩
    unfold s_q30_1
    have e : pLe 1 ((0 : Nat) : Int) = false := by decide
    simp only [e, Bool.false_eq_true, if_false, shiftDown]
  | j + 1, d, hj, hd => by
    have e : pLe 1 ((j + 1 : Nat) : Int) = true := by simp [pLe]; omega
    cases hl : ltInt d[j + 1]! d[j]! with
    | false =>
      have hr : shiftDown ltInt (j + 1) d = d := by rw [shiftDown, if_pos (by simp [hl])]
      rw [hr]
      refine ⟨⟨((j + 1 : Nat) : Int), pIter_inr ?_⟩, rfl⟩
      unfold s_q30_1
      simp only [e, sub1 (n := j) (by omega), inE (d := d) (i := j + 1) (by omega), inE (d := d) (i := j) (by omega), getE, lessE, hl, if_true, pBind, Option.bind_some, pNot, Bool.not_false]
    | true =>
      have hr : shiftDown ltInt (j + 1) d = shiftDown ltInt j (swp d (j + 1) j) := by rw [shiftDown, if_neg (by simp [hl])]
      rw [hr]
      obtain ⟨⟨k, hk⟩, hz⟩ := shiftD_eq j (swp d (j + 1) j) (by rw [swS]; omega) (by rw [swS]; exact hd)
      rw [swS] at hz
      refine ⟨⟨k, ?_⟩, hz⟩
      rw [← hk]
      refine pIter_inl ?_
      unfold s_q30_1
      simp only [e, sub1 (n := j) (by omega), inE (d := d) (i := j + 1) (by omega), inE (d := d) (i := j) (by omega), inS (d := d) (i := j) (j := j + 1) (x := d[j]!) (by omega), getE, lessE, hl, if_true, pBind, Option.bind_some, pNot, Bool.not_true, Bool.false_eq_true, if_false, swE]
theorem shiftU_eq2 (b : Nat) : ∀ (n j : Nat) (d : Array Int), b - j = n → 1 ≤ j → b ≤ d.size → d.size < 2 ^ 59 →
    (∃ k, pIter (s_q30_2 (b : Int)) ((j : Int), (d.toList, ())) = some (k, ((shiftUp ltInt b j d).toList, ()))) ∧ (shiftUp ltInt b j d).size = d.size := by
  intro n
  induction n with
  | zero =>
    intro j d hn hj hb hd
    have hr : shiftUp ltInt b j d = d := by rw [shiftUp.eq_def]; exact if_neg (by omega)
    rw [hr]
    refine ⟨⟨(j : Int), pIter_inr ?_⟩, rfl⟩
    unfold s_q30_2
    have e : pLt (j : Int) (b : Int) = false := by rw [ltN]; simp; omega
    simp only [e, Bool.false_eq_true, if_false]
  | succ n ih =>
    intro j d hn hj hb hd
    obtain ⟨j', rfl⟩ : ∃ j', j = j' + 1 := ⟨j - 1, by omega⟩
    have e : pLt ((j' + 1 : Nat) : Int) (b : Int) = true := by rw [ltN]; simp; omega
    cases hl : ltInt d[j' + 1]! d[j']! with
    | false =>
      have hr : shiftUp ltInt b (j' + 1) d = d := by
        rw [shiftUp.eq_def, if_pos (by omega)]
        exact if_pos (by simp [hl])
      rw [hr]
      refine ⟨⟨((j' + 1 : Nat) : Int), pIter_inr ?_⟩, rfl⟩
      unfold s_q30_2
      simp only [e, sub1 (n := j') (by omega), inE (d := d) (i := j' + 1) (by omega), inE (d := d) (i := j') (by omega), getE, lessE, hl, if_true, pBind, Option.bind_some, pNot, Bool.not_false]
    | true =>
      have hr : shiftUp ltInt b (j' + 1) d = shiftUp ltInt b (j' + 1 + 1) (swp d (j' + 1) j') := by
        rw [shiftUp.eq_def, if_pos (by omega)]
        exact if_neg (by simp [hl])
      rw [hr]
      obtain ⟨⟨k, hk⟩, hz⟩ := ih (j' + 1 + 1) (swp d (j' + 1) j') (by omega) (by omega) (by rw [swS]; omega) (by rw [swS]; exact hd)
      rw [swS] at hz
      refine ⟨⟨k, ?_⟩, hz⟩
      rw [← hk]
      refine pIter_inl ?_
      unfold s_q30_2
      simp only [e, sub1 (n := j') (by omega), add1 (n := j' + 1) (by omega), inE (d := d) (i := j' + 1) (by omega), inE (d := d) (i := j') (by omega), inS (d := d) (i := j') (j := j' + 1) (x := d[j']!) (by omega), getE, lessE, hl, if_true, pBind, Option.bind_some, pNot, Bool.not_true, Bool.false_eq_true, if_false, swE]
theorem shift23 : s_q30_3 = s_q30_2 := rfl
theorem partIns_eq (a b : Nat) : ∀ (s i : Nat) (d : Array Int), s ≤ 5 → a + 1 ≤ i → i ≤ b → b ≤ d.size → d.size < 2 ^ 59 →
    ∃ R, pIter (s_q30_4 (b : Int) (a : Int)) ((i : Int), (((5 - s : Nat) : Int), (d.toList, ()))) = some R ∧ (R = .inl ((partialIns ltInt a b s i d).2, ((partialIns ltInt a b s i d).1.toList, ())) ∨ ((partialIns ltInt a b s i d).2 = false ∧ ∃ k1 k2, R = .inr (k1, (k2, ((partialIns ltInt a b s i d).1.toList, ())))))
  | 0, i, d, hs, hi, hib, hb, hd => by
    refine ⟨.inr ((i : Int), (((5 : Nat) : Int), (d.toList, ()))), pIter_inr ?_, .inr ⟨rfl, _, _, rfl⟩⟩
    unfold s_q30_4
    have e : pLt ((5 - 0 : Nat) : Int) 5 = false := by decide
    simp only [e, Bool.false_eq_true, if_false]
  | s + 1, i, d, hs, hi, hib, hb, hd => by
    have hsc := scanS_eq b d (i : Int) ((5 - (s + 1) : Nat) : Int) hb hd _ i rfl (by omega)
    have hbd := scanS_bd b d _ i rfl hib
    have e : pLt ((5 - (s + 1) : Nat) : Int) 5 = true := by simp [pLt]; omega
    have eba : pSub .i64 (b : Int) (a : Int) = ((b - a : Nat) : Int) := subN (by omega) (by omega)
    rw [partialIns_succ]
    generalize scanSorted ltInt d b i = i' at *
    by_cases hib' : i' = b
    · rw [if_pos hib']
      refine ⟨.inl (true, (d.toList, ())), pIter_inr ?_, .inl rfl⟩
      unfold s_q30_4
      have e2 : pEq (i' : Int) (b : Int) = true := by simp [pEq, hib']
      simp only [e, hsc, e2, if_true, pBind, Option.bind_some, pCase]
    · rw [if_neg hib']
      have e2 : pEq (i' : Int) (b : Int) = false := by simp [pEq]; omega
      by_cases h50 : b - a < 50
      · rw [if_pos h50]
        refine ⟨.inl (false, (d.toList, ())), pIter_inr ?_, .inl rfl⟩
        unfold s_q30_4
        have e3 : pLt ((b - a : Nat) : Int) 50 = true := by simp [pLt]; omega
        simp only [e, hsc, e2, eba, e3, if_true, pBind, Option.bind_some, pCase, Bool.false_eq_true, if_false]
      · rw [if_neg h50]
        have e3 : pLt ((b - a : Nat) : Int) 50 = false := by simp [pLt]; omega
        obtain ⟨m, rfl⟩ : ∃ m, i' = m + 1 := ⟨i' - 1, by omega⟩
        simp only [Nat.add_sub_cancel]
        have e4 : pSub .i64 ((m + 1 : Nat) : Int) (a : Int) = ((m + 1 - a : Nat) : Int) := subN (by omega) (by omega)
        have e5 : pSub .i64 (b : Int) ((m + 1 : Nat) : Int) = ((b - (m + 1) : Nat) : Int) := subN (by omega) (by omega)
        have e6 : pAdd .i64 ((5 - (s + 1) : Nat) : Int) 1 = ((5 - s : Nat) : Int) := by rw [add1 (by omega)]; congr 1; omega
        obtain ⟨⟨k1, hk1⟩, z1⟩ := shiftD_eq m (swp d (m + 1) m) (by rw [swS]; omega) (by rw [swS]; exact hd)
        rw [swS] at z1
        have step : ∀ d2 : Array Int, d2 = (if b - (m + 1) ≥ 2 then shiftUp ltInt b (m + 1 + 1) (if m + 1 - a ≥ 2 then shiftDown ltInt m (swp d (m + 1) m) else swp d (m + 1) m) else (if m + 1 - a ≥ 2 then shiftDown ltInt m (swp d (m + 1) m) else swp d (m + 1) m)) →
            d2.size = d.size ∧ s_q30_4 (b : Int) (a : Int) ((i : Int), (((5 - (s + 1) : Nat) : Int), (d.toList, ()))) = some (.inl (((m + 1 : Nat) : Int), (((5 - s : Nat) : Int), (d2.toList, ())))) := by
          intro d2 hd2
          by_cases hA : m + 1 - a ≥ 2
          · rw [if_pos hA] at hd2
            have eA : pLe 2 ((m + 1 - a : Nat) : Int) = true := by simp [pLe]; omega
            by_cases hB : b - (m + 1) ≥ 2
            · rw [if_pos hB] at hd2
              have eB : pLe 2 ((b - (m + 1) : Nat) : Int) = true := by simp [pLe]; omega
              obtain ⟨⟨k2, hk2⟩, z2⟩ := shiftU_eq2 b _ (m + 1 + 1) (shiftDown ltInt m (swp d (m + 1) m)) rfl (by omega) (by omega) (by omega)
              rw [← hd2] at hk2 z2
              refine ⟨by omega, ?_⟩
              unfold s_q30_4
              simp only [e, hsc, e2, eba, e3, e4, e5, e6, eA, eB, sub1 (n := m) (by omega), add1 (n := m + 1) (by omega), inE (d := d) (i := m + 1) (by omega), inE (d := d) (i := m) (by omega), inS (d := d) (i := m) (j := m + 1) (x := d[m]!) (by omega), getE, swE, hk1, hk2, if_true, pBind, Option.bind_some, pCase, Bool.false_eq_true, if_false]
            · rw [if_neg hB] at hd2
              subst hd2
              have eB : pLe 2 ((b - (m + 1) : Nat) : Int) = false := by simp [pLe]; omega
              refine ⟨by omega, ?_⟩
              unfold s_q30_4
              simp only [e, hsc, e2, eba, e3, e4, e5, e6, eA, eB, sub1 (n := m) (by omega), add1 (n := m + 1) (by omega), inE (d := d) (i := m + 1) (by omega), inE (d := d) (i := m) (by omega), inS (d := d) (i := m) (j := m + 1) (x := d[m]!) (by omega), getE, swE, hk1, if_true, pBind, Option.bind_some, pCase, Bool.false_eq_true, if_false]
          · rw [if_neg hA] at hd2
            have eA : pLe 2 ((m + 1 - a : Nat) : Int) = false := by simp [pLe]; omega
            by_cases hB : b - (m + 1) ≥ 2
            · rw [if_pos hB] at hd2
              have eB : pLe 2 ((b - (m + 1) : Nat) : Int) = true := by simp [pLe]; omega
              obtain ⟨⟨k2, hk2⟩, z2⟩ := shiftU_eq2 b _ (m + 1 + 1) (swp d (m + 1) m) rfl (by omega) (by rw [swS]; omega) (by rw [swS]; omega)
              rw [swS] at z2
              rw [← hd2] at hk2 z2
              refine ⟨by omega, ?_⟩
              unfold s_q30_4
              simp only [e, hsc, e2, eba, e3, e4, e5, e6, eA, eB, sub1 (n := m) (by omega), add1 (n := m + 1) (by omega), inE (d := d) (i := m + 1) (by omega), inE (d := d) (i := m) (by omega), inS (d := d) (i := m) (j := m + 1) (x := d[m]!) (by omega), getE, swE, shift23, hk2, if_true, pBind, Option.bind_some, pCase, Bool.false_eq_true, if_false]
            · rw [if_neg hB] at hd2
              subst hd2
              have eB : pLe 2 ((b - (m + 1) : Nat) : Int) = false := by simp [pLe]; omega
              refine ⟨by rw [swS], ?_⟩
              unfold s_q30_4
              simp only [e, hsc, e2, eba, e3, e4, e5, e6, eA, eB, sub1 (n := m) (by omega), add1 (n := m + 1) (by omega), inE (d := d) (i := m + 1) (by omega), inE (d := d) (i := m) (by omega), inS (d := d) (i := m) (j := m + 1) (x := d[m]!) (by omega), getE, swE, if_true, pBind, Option.bind_some, pCase, Bool.false_eq_true, if_false]
        obtain ⟨hz, hst⟩ := step _ rfl
        obtain ⟨R, hR1, hR2⟩ := partIns_eq a b s (m + 1) _ (by omega) (by omega) (by omega) (by rw [hz]; exact hb) (by rw [hz]; exact hd)
        exact ⟨R, by rw [pIter_inl hst]; exact hR1, hR2⟩
theorem partialIns_eq (a b : Nat) (d : Array Int) (hab : a < b) (hb : b ≤ d.size) (hd : d.size < 2 ^ 59) :
    m_q30 (a : Int) (b : Int) d.toList = some ((partialInsertionSort ltInt d a b).2, ((partialInsertionSort ltInt d a b).1.toList, ())) := by
  unfold m_q30
  obtain ⟨R, h1, h2⟩ := partIns_eq a b 5 (a + 1) d (Nat.le_refl _) (Nat.le_refl _) hab hb hd
  have h1' : pIter (s_q30_4 (b : Int) (a : Int)) (((a + 1 : Nat) : Int), (0, (d.toList, ()))) = some R := h1
  rw [add1 (n := a) (by omega), h1']
  unfold partialInsertionSort
  rcases h2 with rfl | ⟨hf, k1, k2, rfl⟩
  · rfl
  · simp only [pBind, Option.bind_some, pCase, hf]
/-! the pivot -/
theorem order2_eq (d : Array Int) (a b s : Nat) (ha : a < d.size) (hb : b < d.size) (hs : s < 2 ^ 59) : m_q29 d.toList (a : Int) (b : Int) (s : Int) = some (((order2 ltInt d a b s).1 : Int), (((order2 ltInt d a b s).2.1 : Int), (((order2 ltInt d a b s).2.2 : Int), ()))) := by
  unfold m_q29 order2
  simp only [inE ha, inE hb, getE, lessE, if_true, pBind, Option.bind_some, add1 (n := s) (by omega)]
  cases ltInt d[b]! d[a]! <;> simp
theorem order2_cnt (d : Array Int) (a b s : Nat) : (order2 ltInt d a b s).2.2 ≤ s + 1 := by
  unfold order2
  split <;> simp
theorem median_eq (d : Array Int) (a b c s : Nat) (ha : a < d.size) (hb : b < d.size) (hc : c < d.size) (hs : s < 2 ^ 58) : m_q27 d.toList (a : Int) (b : Int) (c : Int) (s : Int) = some (((median ltInt d a b c s).1 : Int), (((median ltInt d a b c s).2 : Int), ())) ∧ (median ltInt d a b c s).2 ≤ s + 3 := by
  have n1 := order2_cnt d a b s
  have m1 := order2_mem ltInt d a b s
  have q1 := order2_eq d a b s ha hb (by omega)
  unfold m_q27 median
  generalize order2 ltInt d a b s = r1 at *
  have n2 := order2_cnt d r1.2.1 c r1.2.2
  have m2 := order2_mem ltInt d r1.2.1 c r1.2.2
  have q2 := order2_eq d r1.2.1 c r1.2.2 (by omega) hc (by omega)
  simp only [q1, q2, pBind, Option.bind_some]
  generalize order2 ltInt d r1.2.1 c r1.2.2 = r2 at *
  have n3 := order2_cnt d r1.1 r2.1 r2.2.2
  have q3 := order2_eq d r1.1 r2.1 r2.2.2 (by omega) (by omega) (by omega)
  simp only [q3, Option.bind_some]
  exact ⟨trivial, by omega⟩
theorem medianAdj_eq (d : Array Int) (a s : Nat) (h1 : 1 ≤ a) (h2 : a + 1 < d.size) (hd : d.size < 2 ^ 59) (hs : s < 2 ^ 58) : m_q26 d.toList (a : Int) (s : Int) = some (((medianAdjacent ltInt d a s).1 : Int), (((medianAdjacent ltInt d a s).2 : Int), ())) ∧ (medianAdjacent ltInt d a s).2 ≤ s + 3 := by
  obtain ⟨a', rfl⟩ : ∃ a', a = a' + 1 := ⟨a - 1, by omega⟩
  have q := median_eq d a' (a' + 1) (a' + 1 + 1) s (by omega) (by omega) (by omega) hs
  unfold m_q26 medianAdjacent
  simp only [sub1 (n := a') (by omega), add1 (n := a' + 1) (by omega), q.1, pBind, Option.bind_some, Nat.add_sub_cancel]
  exact ⟨trivial, q.2⟩
def hintN : Hint → Int | .unknown => 0 | .increasing => 1 | .decreasing => 2
theorem pivot_eq (d : Array Int) (a b : Nat) (hab : a + 8 ≤ b) (hb : b ≤ d.size) (hd : d.size < 2 ^ 58) : m_q23 d.toList (a : Int) (b : Int) = some (((choosePivot ltInt d a b).1 : Int), (hintN (choosePivot ltInt d a b).2, ())) := by
  have e4 : pNot (pEq 4 0) = true := by decide
  have eba : pSub .i64 (b : Int) (a : Int) = ((b - a : Nat) : Int) := subN (by omega) (by omega)
  have eq4 : pQuo .i64 ((b - a : Nat) : Int) 4 = (((b - a) / 4 : Nat) : Int) := by rw [show (4 : Int) = ((4 : Nat) : Int) from rfl, quo64 (by omega)]
  have em : ∀ k : Nat, k ≤ 3 → pAdd .i64 (a : Int) (pMul .i64 (((b - a) / 4 : Nat) : Int) (k : Int)) = ((a + (b - a) / 4 * k : Nat) : Int) := by
    intro k hk
    have hb1 : (b - a) / 4 * k ≤ (b - a) / 4 * 3 := Nat.mul_le_mul_left _ hk
    have hm : pMul .i64 (((b - a) / 4 : Nat) : Int) (k : Int) = (((b - a) / 4 * k : Nat) : Int) := by
      have : (((b - a) / 4 : Nat) : Int) * (k : Int) = (((b - a) / 4 * k : Nat) : Int) := by simp
      rw [mul64 (by rw [this]; omega) (by rw [this]; omega), this]
    rw [hm, addN (by omega)]
  have em1 := em 1 (by omega)
  have em2 := em 2 (by omega)
  have em3 := em 3 (by omega)
  have e8 : pLe 8 ((b - a : Nat) : Int) = true := by simp [pLe]; omega
  have fin : ∀ (x n : Nat), (if pEq (n : Int) 0 = true then some ((x : Int), ((1 : Int), ())) else if pEq (n : Int) 12 = true then some ((x : Int), (2, ())) else some ((x : Int), (0, ())) : Option (Int × (Int × Unit))) = some ((x : Int), (hintN (if n = 0 then .increasing else if n = 12 then .decreasing else .unknown), ())) := by
    intro x n
    by_cases h0 : n = 0
    · subst h0; rfl
    · have z0 : pEq (n : Int) 0 = false := by simp [pEq, h0]
      rw [if_neg (by rw [z0]; simp), if_neg h0]
      by_cases h12 : n = 12
      · subst h12; rfl
      · have z1 : pEq (n : Int) 12 = false := by simp [pEq]; omega
        rw [if_neg (by rw [z1]; simp), if_neg h12]
        rfl
  unfold m_q23 choosePivot
  by_cases h50 : b - a ≥ 50
  · have e50 : pLe 50 ((b - a : Nat) : Int) = true := by simp [pLe]; omega
    have q1 := medianAdj_eq d (a + (b - a) / 4 * 1) 0 (by omega) (by omega) (by omega) (by omega)
    have q2 := medianAdj_eq d (a + (b - a) / 4 * 2) (medianAdjacent ltInt d (a + (b - a) / 4 * 1) 0).2 (by omega) (by omega) (by omega) (by omega)
    have q3 := medianAdj_eq d (a + (b - a) / 4 * 3) (medianAdjacent ltInt d (a + (b - a) / 4 * 2) (medianAdjacent ltInt d (a + (b - a) / 4 * 1) 0).2).2 (by omega) (by omega) (by omega) (by omega)
    have m1 := medianAdjacent_mem ltInt d (a + (b - a) / 4 * 1) 0
    have m2 := medianAdjacent_mem ltInt d (a + (b - a) / 4 * 2) (medianAdjacent ltInt d (a + (b - a) / 4 * 1) 0).2
    have m3 := medianAdjacent_mem ltInt d (a + (b - a) / 4 * 3) (medianAdjacent ltInt d (a + (b - a) / 4 * 2) (medianAdjacent ltInt d (a + (b - a) / 4 * 1) 0).2).2
    rw [show ((0 : Nat) : Int) = 0 from rfl] at q1
    rw [show ((1 : Nat) : Int) = 1 from rfl] at em1
    rw [show ((2 : Nat) : Int) = 2 from rfl] at em2
    rw [show ((3 : Nat) : Int) = 3 from rfl] at em3
    simp only [e4, eba, eq4, em1, em2, em3, e8, e50, q1.1, q2.1, q3.1, if_true, pBind, Option.bind_some, if_pos h50, if_pos (show b - a ≥ 8 by omega)]
    generalize medianAdjacent ltInt d (a + (b - a) / 4 * 1) 0 = r1 at *
    generalize medianAdjacent ltInt d (a + (b - a) / 4 * 2) r1.2 = r2 at *
    generalize medianAdjacent ltInt d (a + (b - a) / 4 * 3) r2.2 = r3 at *
    have q4 := median_eq d r1.1 r2.1 r3.1 r3.2 (by omega) (by omega) (by omega) (by omega)
    simp only [q4.1, Option.bind_some]
    exact fin _ _
  · have e50 : pLe 50 ((b - a : Nat) : Int) = false := by simp [pLe]; omega
    rw [show ((1 : Nat) : Int) = 1 from rfl] at em1
    rw [show ((2 : Nat) : Int) = 2 from rfl] at em2
    rw [show ((3 : Nat) : Int) = 3 from rfl] at em3
    have q4 := median_eq d (a + (b - a) / 4 * 1) (a + (b - a) / 4 * 2) (a + (b - a) / 4 * 3) 0 (by omega) (by omega) (by omega) (by omega)
    rw [show ((0 : Nat) : Int) = 0 from rfl] at q4
    simp only [e4, eba, eq4, em1, em2, em3, e8, e50, q4.1, if_true, pBind, Option.bind_some, if_neg h50, if_pos (show b - a ≥ 8 by omega), Bool.false_eq_true, if_false]
    exact fin _ _
end Go.Xr.Try
