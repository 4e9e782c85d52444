import Derived.Test.YtkooincefcodcaaSortQ
set_option linter.unusedVariables false
set_option linter.unusedSimpArgs false
set_option maxRecDepth 100000
namespace Go.Xr.Try
open Go Go.Xr Go.Sort
theorem mul2 {n : Nat} (h : n < 2 ^ 60) : pMul .i64 2 (n : Int) = ((2 * n : Nat) : Int) := by rw [mul64 (by omega) (by omega)]; omega
theorem sift_size (hi first : Nat) : ∀ (n root : Nat) (d : Array Int), hi - root ≤ n → (siftDown ltInt hi first root d).size = d.size := by
  intro n
  induction n with
  | zero =>
    intro root d hn
    rw [siftDown.eq_def, dif_pos (by omega)]
  | succ n ih =>
    intro root d hn
    rw [siftDown.eq_def]
    split
    · rfl
    · split
      · split
        · rfl
        · split
          · rw [ih _ _ (by omega), swS]
          · rfl
      · split
        · rfl
        · rw [ih _ _ (by omega), swS]
theorem sift_eq (hi first : Nat) : ∀ (n root : Nat) (d : Array Int), hi - root ≤ n → first + hi ≤ d.size → d.size < 2 ^ 59 → root < 2 ^ 59 →
    ∃ r, pIter (s_q34_0 (hi : Int) (first : Int)) ((root : Int), (d.toList, ())) = some r ∧ ((∃ k1 k2, r = .inl (k1, (k2, ((siftDown ltInt hi first root d).toList, ())))) ∨ r = .inr ((siftDown ltInt hi first root d).toList, ())) := by
  intro n
  induction n with
  | zero =>
    intro root d hn hs hd hr
    have e1 : pAdd .i64 (pMul .i64 2 (root : Int)) 1 = ((2 * root + 1 : Nat) : Int) := by rw [mul2 (by omega), add1 (by omega)]
    have e2 : pLe (hi : Int) ((2 * root + 1 : Nat) : Int) = true := by rw [leN]; simp; omega
    refine ⟨.inl ((root : Int), (((2 * root + 1 : Nat) : Int), (d.toList, ()))), pIter_inr ?_, .inl ⟨(root : Int), ((2 * root + 1 : Nat) : Int), ?_⟩⟩
    · unfold s_q34_0
      simp only [e1, e2, if_true]
    · rw [siftDown.eq_def, dif_pos (by omega)]
  | succ n ih =>
    intro root d hn hs hd hr
    have e1 : pAdd .i64 (pMul .i64 2 (root : Int)) 1 = ((2 * root + 1 : Nat) : Int) := by rw [mul2 (by omega), add1 (by omega)]
    by_cases hc : 2 * root + 1 ≥ hi
    · have e2 : pLe (hi : Int) ((2 * root + 1 : Nat) : Int) = true := by rw [leN]; simp; omega
      refine ⟨.inl ((root : Int), (((2 * root + 1 : Nat) : Int), (d.toList, ()))), pIter_inr ?_, .inl ⟨(root : Int), ((2 * root + 1 : Nat) : Int), ?_⟩⟩
      · unfold s_q34_0
        simp only [e1, e2, if_true]
      · rw [siftDown.eq_def, dif_pos hc]
    · have e2 : pLe (hi : Int) ((2 * root + 1 : Nat) : Int) = false := by rw [leN]; simp; omega
      have e3 : pAdd .i64 ((2 * root + 1 : Nat) : Int) 1 = ((2 * root + 2 : Nat) : Int) := by rw [add1 (by omega)]
      have e4 : pAdd .i64 (first : Int) ((2 * root + 1 : Nat) : Int) = ((first + (2 * root + 1) : Nat) : Int) := addN (by omega)
      have e5 : pAdd .i64 ((first + (2 * root + 1) : Nat) : Int) 1 = ((first + (2 * root + 1) + 1 : Nat) : Int) := by rw [add1 (by omega)]
      have e6 : pAdd .i64 (first : Int) ((root : Nat) : Int) = ((first + root : Nat) : Int) := addN (by omega)
      have i1 := inE (d := d) (i := first + (2 * root + 1)) (by omega)
      have i3 := inE (d := d) (i := first + root) (by omega)
      -- the greater child
      obtain ⟨c, hcd, hcs, hrc, hdef⟩ : ∃ c : Nat, (pBind (if pLt ((2 * root + 2 : Nat) : Int) (hi : Int) then if pIn ((first + (2 * root + 1) : Nat) : Int) (pLen d.toList) then if pIn ((first + (2 * root + 1) + 1 : Nat) : Int) (pLen d.toList) then pBind (m_q3 (pGet 0 d.toList ((first + (2 * root + 1) : Nat) : Int)) (pGet 0 d.toList ((first + (2 * root + 1) + 1 : Nat) : Int))) fun d41 => some (d41.1, ()) else none else none else some (false, ())) fun d42 => if d42.1 then some (((2 * root + 2 : Nat) : Int), ()) else some (((2 * root + 1 : Nat) : Int), ()) : Option (Int × Unit)) = some ((c : Int), ()) ∧ c < hi ∧ root < c ∧
          siftDown ltInt hi first root d = if !ltInt d[first + root]! d[first + c]! then d else siftDown ltInt hi first c (swp d (first + root) (first + c)) := by
        by_cases h2 : 2 * root + 1 + 1 < hi ∧ ltInt d[first + (2 * root + 1)]! d[first + (2 * root + 1) + 1]! = true
        · refine ⟨2 * root + 2, ?_, by omega, by omega, ?_⟩
          · have e7 : pLt ((2 * root + 2 : Nat) : Int) (hi : Int) = true := by rw [ltN]; simp; omega
            have i2 := inE (d := d) (i := first + (2 * root + 1) + 1) (by omega)
            simp only [e7, i1, i2, getE, lessE, h2.2, if_true, pBind, Option.bind_some]
          · rw [siftDown.eq_def, dif_neg hc, if_pos (by simp [h2.1, h2.2])]
            split
            · rfl
            · exact dif_pos (by omega)
        · refine ⟨2 * root + 1, ?_, by omega, by omega, ?_⟩
          · by_cases h3 : 2 * root + 2 < hi
            · have e7 : pLt ((2 * root + 2 : Nat) : Int) (hi : Int) = true := by rw [ltN]; simp; omega
              have i2 := inE (d := d) (i := first + (2 * root + 1) + 1) (by omega)
              have hl : ltInt d[first + (2 * root + 1)]! d[first + (2 * root + 1) + 1]! = false := by
                cases h : ltInt d[first + (2 * root + 1)]! d[first + (2 * root + 1) + 1]! with
                | false => rfl
                | true => exact absurd ⟨by omega, h⟩ h2
              simp only [e7, i1, i2, getE, lessE, hl, if_true, pBind, Option.bind_some, Bool.false_eq_true, if_false]
            · have e7 : pLt ((2 * root + 2 : Nat) : Int) (hi : Int) = false := by rw [ltN]; simp; omega
              simp only [e7, Bool.false_eq_true, if_false, pBind, Option.bind_some]
          · rw [siftDown.eq_def, dif_neg hc, if_neg (by simp only [Bool.and_eq_true, decide_eq_true_eq]; exact h2)]
      have e8 : pAdd .i64 (first : Int) (c : Int) = ((first + c : Nat) : Int) := addN (by omega)
      have i4 := inE (d := d) (i := first + c) (by omega)
      have i5 := inS (d := d) (i := first + c) (j := first + root) (x := d[first + c]!) (by omega)
      rw [hdef]
      cases hl : ltInt d[first + root]! d[first + c]! with
      | false =>
        refine ⟨.inr (d.toList, ()), pIter_inr ?_, .inr ?_⟩
        · unfold s_q34_0
          simp only [e1, e2, e3, e4, e5, e6, Bool.false_eq_true, if_false]
          rw [hcd]
          simp only [pBind, Option.bind_some, e8, i3, i4, getE, lessE, hl, if_true, pNot, Bool.not_false]
        · simp
      | true =>
        obtain ⟨r, hr1, hr2⟩ := ih c (swp d (first + root) (first + c)) (by omega) (by rw [swS]; omega) (by rw [swS]; omega) (by omega)
        refine ⟨r, ?_, ?_⟩
        · rw [← hr1]
          refine pIter_inl ?_
          unfold s_q34_0
          simp only [e1, e2, e3, e4, e5, e6, Bool.false_eq_true, if_false]
          rw [hcd]
          simp only [pBind, Option.bind_some, e8, i3, i4, i5, getE, lessE, hl, if_true, pNot, Bool.not_true, Bool.false_eq_true, if_false, swE]
        · simpa using hr2
theorem siftDown_eq (hi first root : Nat) (d : Array Int) (hs : first + hi ≤ d.size) (hd : d.size < 2 ^ 59) (hr : root < 2 ^ 59) : m_q34 (root : Int) (hi : Int) (first : Int) d.toList = some ((siftDown ltInt hi first root d).toList, ()) := by
  unfold m_q34
  obtain ⟨r, h1, h2⟩ := sift_eq hi first _ root d (Nat.le_refl _) hs hd hr
  rw [h1]
  rcases h2 with ⟨k1, k2, rfl⟩ | rfl <;> rfl
theorem build_eq (a b : Nat) (hab : a ≤ b) : ∀ (k : Nat) (d : Array Int), b ≤ d.size → d.size < 2 ^ 59 → k ≤ 2 ^ 59 →
    ∃ e, pIter (s_q24_0 (b : Int) (a : Int)) ((k : Int) - 1, (d.toList, ())) = some (e, ((heapBuild ltInt (b - a) a k d).toList, ()))
  | 0, d, hb, hd, hk => by
    refine ⟨((0 : Nat) : Int) - 1, pIter_inr ?_⟩
    unfold s_q24_0
    have e : pLe 0 (((0 : Nat) : Int) - 1) = false := by decide
    simp only [e, Bool.false_eq_true, if_false]
    rfl
  | k + 1, d, hb, hd, hk => by
    have e0 : ((k + 1 : Nat) : Int) - 1 = (k : Int) := by omega
    have e : pLe 0 (k : Int) = true := by simp [pLe]
    have e2 : pSub .i64 (b : Int) (a : Int) = ((b - a : Nat) : Int) := subN hab (by omega)
    have e3 : pSub .i64 (k : Int) 1 = (k : Int) - 1 := sub64 (by omega) (by omega)
    have hs : s_q24_0 (b : Int) (a : Int) (((k + 1 : Nat) : Int) - 1, (d.toList, ())) = some (.inl ((k : Int) - 1, ((siftDown ltInt (b - a) a k d).toList, ()))) := by
      unfold s_q24_0
      simp only [e0, e, e2, e3, if_true, siftDown_eq (b - a) a k d (by omega) hd (by omega), pBind, Option.bind_some]
    have hz := sift_size (b - a) a _ k d (Nat.le_refl _)
    obtain ⟨e', he⟩ := build_eq a b hab k (siftDown ltInt (b - a) a k d) (by rw [hz]; exact hb) (by rw [hz]; exact hd) (by omega)
    exact ⟨e', by rw [pIter_inl hs, he]; rfl⟩
theorem pop_eq (a : Nat) : ∀ (k : Nat) (d : Array Int), a + k ≤ d.size → d.size < 2 ^ 59 →
    ∃ e, pIter (s_q24_1 (a : Int)) ((k : Int) - 1, (d.toList, ())) = some (e, ((heapPop ltInt a k d).toList, ()))
  | 0, d, hb, hd => by
    refine ⟨((0 : Nat) : Int) - 1, pIter_inr ?_⟩
    unfold s_q24_1
    have e : pLe 0 (((0 : Nat) : Int) - 1) = false := by decide
    simp only [e, Bool.false_eq_true, if_false]
    rfl
  | k + 1, d, hb, hd => by
    have e0 : ((k + 1 : Nat) : Int) - 1 = (k : Int) := by omega
    have e : pLe 0 (k : Int) = true := by simp [pLe]
    have e2 : pAdd .i64 (a : Int) (k : Int) = ((a + k : Nat) : Int) := addN (by omega)
    have e3 : pSub .i64 (k : Int) 1 = (k : Int) - 1 := sub64 (by omega) (by omega)
    have i1 := inE (d := d) (i := a + k) (by omega)
    have i2 := inE (d := d) (i := a) (by omega)
    have i3 := inS (d := d) (i := a + k) (j := a) (x := d[a + k]!) (by omega)
    have hsf := siftDown_eq k a 0 (swp d a (a + k)) (by rw [swS]; omega) (by rw [swS]; omega) (by omega)
    have hs : s_q24_1 (a : Int) (((k + 1 : Nat) : Int) - 1, (d.toList, ())) = some (.inl ((k : Int) - 1, ((siftDown ltInt k a 0 (swp d a (a + k))).toList, ()))) := by
      unfold s_q24_1
      simp only [e0, e, e2, e3, i1, i2, i3, getE, swE, if_true, pBind]
      rw [show (0 : Int) = ((0 : Nat) : Int) from rfl, hsf]
      rfl
    have hz := sift_size k a _ 0 (swp d a (a + k)) (Nat.le_refl _)
    rw [swS] at hz
    obtain ⟨e', he⟩ := pop_eq a k (siftDown ltInt k a 0 (swp d a (a + k))) (by rw [hz]; omega) (by rw [hz]; exact hd)
    exact ⟨e', by rw [pIter_inl hs, he]; rfl⟩
theorem build_size (hi a : Nat) : ∀ (k : Nat) (d : Array Int), (heapBuild ltInt hi a k d).size = d.size
  | 0, d => rfl
  | k + 1, d => by rw [heapBuild, build_size hi a k, sift_size _ _ _ _ _ (Nat.le_refl _)]
theorem heapSort_eq (a b : Nat) (d : Array Int) (hab : a < b) (hb : b ≤ d.size) (hd : d.size < 2 ^ 59) : m_q24 (a : Int) (b : Int) d.toList = some ((heapSort ltInt d a b).toList, ()) := by
  unfold m_q24
  have e1 : pNot (pEq 2 0) = true := by decide
  have e2 : pSub .i64 (b : Int) (a : Int) = ((b - a : Nat) : Int) := subN (by omega) (by omega)
  have e3 : pSub .i64 ((b - a : Nat) : Int) 1 = ((b - a : Nat) : Int) - 1 := sub64 (by omega) (by omega)
  have e4 : pQuo .i64 (((b - a : Nat) : Int) - 1) 2 = (((b - a - 1) / 2 + 1 : Nat) : Int) - 1 := by
    rw [show ((b - a : Nat) : Int) - 1 = ((b - a - 1 : Nat) : Int) by omega, show (2 : Int) = ((2 : Nat) : Int) from rfl, quo64 (by omega)]
    omega
  rw [if_pos e1]
  simp only [e2, e3, e4]
  obtain ⟨k, hk⟩ := build_eq a b (by omega) ((b - a - 1) / 2 + 1) d hb hd (by omega)
  have hz := build_size (b - a) a ((b - a - 1) / 2 + 1) d
  obtain ⟨k2, hk2⟩ := pop_eq a (b - a) (heapBuild ltInt (b - a) a ((b - a - 1) / 2 + 1) d) (by rw [hz]; omega) (by rw [hz]; exact hd)
  rw [hk]
  simp only [pBind, Option.bind_some]
  rw [hk2]
  rfl
end Go.Xr.Try
