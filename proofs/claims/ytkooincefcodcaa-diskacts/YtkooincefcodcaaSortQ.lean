import Derived.Test.YtkooincefcodcaaSortI
import Derived.Sort.AssemblyPlain
set_option linter.unusedVariables false
set_option linter.unusedSimpArgs false
set_option maxRecDepth 100000
namespace Go.Xr.Try
open Go Go.Xr Go.Sort

/-! the library's sort, as the kit has it -/
theorem lenE (d : Array Int) : pLen d.toList = (d.size : Int) := by simp [pLen]
theorem getE (d : Array Int) (i : Nat) : pGet 0 d.toList (i : Int) = d[i]! := by
  simp only [pGet, Int.toNat_natCast, List.getD_eq_getElem?_getD, Array.getElem?_toList]
  rw [getElem!_def]
  cases d[i]? <;> rfl
theorem swE (d : Array Int) (i j : Nat) : pSet (pSet d.toList (i : Int) d[j]!) (j : Int) d[i]! = (swp d i j).toList := by
  simp [pSet, swp]
theorem inE {d : Array Int} {i : Nat} (h : i < d.size) : pIn (i : Int) (pLen d.toList) = true := by
  rw [lenE]; exact decide_eq_true ⟨by omega, by omega⟩
theorem inS {d : Array Int} {i j : Nat} {x : Int} (h : i < d.size) : pIn (i : Int) (pLen (pSet d.toList (j : Int) x)) = true := by
  have : pLen (pSet d.toList (j : Int) x) = (d.size : Int) := by simp [pLen, pSet]
  rw [this]; exact decide_eq_true ⟨by omega, by omega⟩
theorem add1 {n : Nat} (h : n < 2 ^ 62) : pAdd .i64 (n : Int) 1 = ((n + 1 : Nat) : Int) := by rw [add64 (by omega) (by omega)]; omega
theorem sub1 {n : Nat} (h : n < 2 ^ 62) : pSub .i64 ((n + 1 : Nat) : Int) 1 = (n : Int) := by rw [sub64 (by omega) (by omega)]; omega
theorem addN {n m : Nat} (h : n + m < 2 ^ 62) : pAdd .i64 (n : Int) (m : Int) = ((n + m : Nat) : Int) := by rw [add64 (by omega) (by omega)]; omega
theorem subN {n m : Nat} (h : m ≤ n) (h2 : n < 2 ^ 62) : pSub .i64 (n : Int) (m : Int) = ((n - m : Nat) : Int) := by rw [sub64 (by omega) (by omega)]; omega
theorem ltN {n m : Nat} : pLt (n : Int) (m : Int) = decide (n < m) := by simp only [pLt]; exact decide_eq_decide.2 (by omega)
theorem leN {n m : Nat} : pLe (n : Int) (m : Int) = decide (n ≤ m) := by simp only [pLe]; exact decide_eq_decide.2 (by omega)
theorem lessE (a b : Int) : m_q3 a b = some (ltInt a b, ()) := less_eq a b
theorem swS (d : Array Int) (i j : Nat) : (swp d i j).size = d.size := by simp [swp]
theorem insInner_eq (a : Nat) : ∀ (j : Nat) (d : Array Int), j < d.size → d.size < 2 ^ 62 →
    ∃ k, pIter (s_q25_0 (a : Int)) ((j : Int), (d.toList, ())) = some (k, ((insInner ltInt a j d).toList, ()))
  | 0, d, hj, hd => by
    refine ⟨((0 : Nat) : Int), pIter_inr ?_⟩
    unfold s_q25_0
    have e : pLt (a : Int) ((0 : Nat) : Int) = false := by rw [ltN]; simp
    simp only [e, Bool.false_eq_true, if_false, pBind, Option.bind_some, insInner]
  | j + 1, d, hj, hd => by
    have e1 := sub1 (n := j) (by omega)
    have i1 := inE (d := d) (i := j) (by omega)
    have i2 := inE (d := d) (i := j + 1) (by omega)
    have i3 := inS (d := d) (i := j) (j := j + 1) (x := d[j]!) (by omega)
    by_cases hc : a < j + 1 ∧ ltInt d[j + 1]! d[j]! = true
    · have e : pLt (a : Int) ((j + 1 : Nat) : Int) = true := by rw [ltN]; simp; omega
      have hs : s_q25_0 (a : Int) (((j + 1 : Nat) : Int), (d.toList, ())) = some (.inl ((j : Int), ((swp d (j + 1) j).toList, ()))) := by
        unfold s_q25_0
        simp only [e, e1, i1, i2, i3, getE, lessE, hc.2, if_true, pBind, Option.bind_some, swE]
      obtain ⟨k, hk⟩ := insInner_eq a j (swp d (j + 1) j) (by rw [swS]; omega) (by rw [swS]; omega)
      refine ⟨k, ?_⟩
      rw [pIter_inl hs, hk]
      have : insInner ltInt a (j + 1) d = insInner ltInt a j (swp d (j + 1) j) := by
        rw [insInner, if_pos]
        simp [hc.1, hc.2]
      rw [this]
    · have hr : insInner ltInt a (j + 1) d = d := by
        rw [insInner, if_neg]
        simp only [Bool.and_eq_true, decide_eq_true_eq]
        exact hc
      refine ⟨((j + 1 : Nat) : Int), pIter_inr ?_⟩
      rw [hr]
      unfold s_q25_0
      by_cases ha : a < j + 1
      · have e : pLt (a : Int) ((j + 1 : Nat) : Int) = true := by rw [ltN]; simp; omega
        have hl : ltInt d[j + 1]! d[j]! = false := by
          cases h : ltInt d[j + 1]! d[j]! with
          | false => rfl
          | true => exact absurd ⟨ha, h⟩ hc
        simp only [e, e1, i1, i2, getE, lessE, hl, if_true, pBind, Option.bind_some, Bool.false_eq_true, if_false]
      · have e : pLt (a : Int) ((j + 1 : Nat) : Int) = false := by rw [ltN]; simp; omega
        simp only [e, Bool.false_eq_true, if_false, pBind, Option.bind_some]
theorem insInner_size (a : Nat) : ∀ (j : Nat) (d : Array Int), (insInner ltInt a j d).size = d.size
  | 0, d => rfl
  | j + 1, d => by
    rw [insInner]
    split
    · rw [insInner_size a j, swS]
    · rfl
theorem insOuter_eq (a b : Nat) : ∀ (n i : Nat) (d : Array Int), b - i = n → b ≤ d.size → d.size < 2 ^ 62 →
    ∃ k, pIter (s_q25_1 (b : Int) (a : Int)) ((i : Int), (d.toList, ())) = some (k, ((insOuter ltInt a b i d).toList, ()))
  | 0, i, d, hn, hb, hd => by
    refine ⟨(i : Int), pIter_inr ?_⟩
    unfold s_q25_1
    have e : pLt (i : Int) (b : Int) = false := by rw [ltN]; simp; omega
    have hr : insOuter ltInt a b i d = d := by rw [insOuter.eq_def]; exact if_neg (by omega)
    rw [hr]
    simp only [e, Bool.false_eq_true, if_false]
  | n + 1, i, d, hn, hb, hd => by
    have e : pLt (i : Int) (b : Int) = true := by rw [ltN]; simp; omega
    obtain ⟨k, hk⟩ := insInner_eq a i d (by omega) hd
    have hs : s_q25_1 (b : Int) (a : Int) ((i : Int), (d.toList, ())) = some (.inl (((i + 1 : Nat) : Int), ((insInner ltInt a i d).toList, ()))) := by
      unfold s_q25_1
      simp only [e, if_true, pBind, hk, Option.bind_some, add1 (n := i) (by omega)]
    obtain ⟨k2, hk2⟩ := insOuter_eq a b n (i + 1) (insInner ltInt a i d) (by omega) (by rw [insInner_size]; omega) (by rw [insInner_size]; omega)
    refine ⟨k2, ?_⟩
    rw [pIter_inl hs, hk2]
    have hr : insOuter ltInt a b i d = insOuter ltInt a b (i + 1) (insInner ltInt a i d) := by rw [insOuter.eq_def]; exact if_pos (by omega)
    rw [hr]
theorem insertion_eq (a b : Nat) (d : Array Int) (hb : b ≤ d.size) (hd : d.size < 2 ^ 61) (ha : a ≤ b) : m_q25 (a : Int) (b : Int) d.toList = some ((insertionSort ltInt d a b).toList, ()) := by
  unfold m_q25
  obtain ⟨k, hk⟩ := insOuter_eq a b _ (a + 1) d rfl hb (by omega)
  rw [add1 (n := a) (by omega), hk]
  rfl
theorem reverse_eq : ∀ (n i j : Nat) (d : Array Int), j - i ≤ n → (i < j → j < d.size) → d.size < 2 ^ 61 → (i < j → 1 ≤ j) →
    ∃ k1 k2, pIter s_q33_0 ((i : Int), ((j : Int), (d.toList, ()))) = some (k1, (k2, ((reverseLoop i j d).toList, ())))
  | n, i, j, d, hn, hj, hd, h1 => by
    by_cases h : i < j
    · have hjs := hj h
      obtain ⟨j', rfl⟩ : ∃ j', j = j' + 1 := ⟨j - 1, by omega⟩
      have e : pLt (i : Int) ((j' + 1 : Nat) : Int) = true := by rw [ltN]; simp; omega
      have i1 := inE (d := d) (i := j' + 1) (by omega)
      have i2 := inE (d := d) (i := i) (by omega)
      have i3 := inS (d := d) (i := j' + 1) (j := i) (x := d[j' + 1]!) (by omega)
      have hs : s_q33_0 ((i : Int), (((j' + 1 : Nat) : Int), (d.toList, ()))) = some (.inl (((i + 1 : Nat) : Int), ((j' : Int), ((swp d i (j' + 1)).toList, ())))) := by
        unfold s_q33_0
        simp only [e, i1, i2, i3, getE, if_true, swE, add1 (n := i) (by omega), sub1 (n := j') (by omega)]
      cases n with
      | zero => omega
      | succ n =>
        obtain ⟨k1, k2, hk⟩ := reverse_eq n (i + 1) j' (swp d i (j' + 1)) (by omega) (by rw [swS]; omega) (by rw [swS]; omega) (by omega)
        refine ⟨k1, k2, ?_⟩
        rw [pIter_inl hs, hk, reverseLoop.eq_def i (j' + 1) d, if_pos h]
        rfl
    · refine ⟨(i : Int), (j : Int), pIter_inr ?_⟩
      have e : pLt (i : Int) (j : Int) = false := by rw [ltN]; simp; omega
      rw [reverseLoop, if_neg h]
      unfold s_q33_0
      simp only [e, Bool.false_eq_true, if_false]
theorem reverseRange_eq (a b : Nat) (d : Array Int) (hab : a < b) (hb : b ≤ d.size) (hd : d.size < 2 ^ 61) : m_q33 (a : Int) (b : Int) d.toList = some ((reverseRange d a b).toList, ()) := by
  unfold m_q33
  obtain ⟨b', rfl⟩ : ∃ b', b = b' + 1 := ⟨b - 1, by omega⟩
  obtain ⟨k1, k2, hk⟩ := reverse_eq _ a b' d (Nat.le_refl _) (by omega) hd (by omega)
  rw [sub1 (n := b') (by omega), hk]
  rfl
end Go.Xr.Try
