import Derived.Test.YtkooincefcodcaaDisk
set_option linter.unusedVariables false
set_option linter.unusedSimpArgs false
set_option maxRecDepth 100000
namespace Go.Xr.Try
open Go Go.Xr

/-! insertion sort of integers -/
theorem less_eq (a b : Int) : m_q3 a b = some (decide (a < b), ()) := by
  simp [m_q3, m_q4, pBind, pNot, pEq, pLt]
def insL : List Int → Int → List Int → List Int
  | [], x, B => x :: B
  | y :: A, x, B => if x < y then insL A x (y :: B) else (y :: A).reverse ++ x :: B
theorem insL_perm : ∀ (A : List Int) (x : Int) (B : List Int), (insL A x B).Perm (A.reverse ++ x :: B)
  | [], x, B => List.Perm.refl _
  | y :: A, x, B => by
    simp only [insL]
    split
    · refine (insL_perm A x (y :: B)).trans ?_
      rw [List.reverse_cons, List.append_assoc]
      exact List.Perm.append_left _ (List.Perm.swap _ _ _)
    · exact List.Perm.refl _
theorem insL_len (A : List Int) (x : Int) (B : List Int) : (insL A x B).length = A.length + 1 + B.length := by
  have := (insL_perm A x B).length_eq
  simp at this
  omega
theorem insL_sorted : ∀ (A : List Int) (x : Int) (B : List Int), (A.reverse ++ B).Pairwise (· ≤ ·) → (∀ b ∈ B, x ≤ b) → (insL A x B).Pairwise (· ≤ ·)
  | [], x, B, h, hb => by
    simp only [insL]
    exact List.pairwise_cons.2 ⟨hb, by simpa using h⟩
  | y :: A, x, B, h, hb => by
    simp only [insL]
    rw [List.reverse_cons, List.append_assoc] at h
    split
    · rename_i hlt
      refine insL_sorted A x (y :: B) (by simpa using h) ?_
      intro b hbm
      rcases List.mem_cons.1 hbm with rfl | hbm
      · omega
      · exact hb b hbm
    · rename_i hge
      rw [List.pairwise_append] at h
      obtain ⟨h1, h2, h3⟩ := h
      have h4 := List.pairwise_cons.1 (show (y :: B).Pairwise (· ≤ ·) by simpa using h2)
      rw [List.reverse_cons, List.pairwise_append]
      refine ⟨?_, List.pairwise_cons.2 ⟨hb, h4.2⟩, ?_⟩
      · rw [List.pairwise_append]
        refine ⟨h1, by simp, fun a ha b hbm => ?_⟩
        simp at hbm
        subst hbm
        exact h3 a ha _ (by simp)
      · intro a ha b hbm
        have hay : a ≤ y := by
          rcases List.mem_append.1 ha with ha | ha
          · exact h3 a ha y (by simp)
          · simp at ha; omega
        rcases List.mem_cons.1 hbm with rfl | hbm
        · omega
        · have := hb b hbm; omega
theorem swap_mid {H T : List Int} {y x : Int} : ((H ++ y :: x :: T).set (H.length + 1) y).set H.length x = H ++ x :: y :: T := by
  rw [List.set_append, if_neg (by omega)]
  have : H.length + 1 - H.length = 1 := by omega
  rw [this]
  simp only [List.set_cons_succ, List.set_cons_zero]
  rw [List.set_append, if_neg (by omega)]
  simp
theorem get_mid {H T : List Int} {y : Int} {i : Nat} (h : i = H.length) : (H ++ y :: T).getD i 0 = y := by
  subst h
  simp [List.getD_eq_getElem?_getD]
theorem inner_ok (H : List Int) : ∀ (A : List Int) (x : Int) (B R : List Int), H.length + A.length + B.length + R.length + 1 < 2 ^ 62 →
    ∃ j, pIter (s_q25_0 (H.length : Int)) (((H.length + A.length : Nat) : Int), (H ++ (A.reverse ++ x :: (B ++ R)), ())) = some (j, (H ++ (insL A x B ++ R), ()))
  | [], x, B, R, hl => by
    refine ⟨((H.length + ([] : List Int).length : Nat) : Int), pIter_inr ?_⟩
    unfold s_q25_0
    have e1 : pLt (H.length : Int) ((H.length + ([] : List Int).length : Nat) : Int) = false := by simp [pLt]
    simp only [e1, Bool.false_eq_true, if_false, pBind, Option.bind_some, insL]
    rfl
  | y :: A, x, B, R, hl => by
    simp only [List.length_cons] at hl ⊢
    have hD : H ++ ((y :: A).reverse ++ x :: (B ++ R)) = (H ++ A.reverse) ++ y :: x :: (B ++ R) := by simp
    rw [hD]
    have hlen : ((H ++ A.reverse) ++ y :: x :: (B ++ R)).length = H.length + A.length + B.length + R.length + 2 := by simp; omega
    have hHA : (H ++ A.reverse).length = H.length + A.length := by simp
    have e1 : pLt (H.length : Int) ((H.length + (A.length + 1) : Nat) : Int) = true := by simp [pLt]; omega
    have e0 : pSub .i64 ((H.length + (A.length + 1) : Nat) : Int) 1 = ((H.length + A.length : Nat) : Int) := by rw [sub64 (by omega) (by omega)]; omega
    have e2 : pIn ((H.length + (A.length + 1) : Nat) : Int) (pLen ((H ++ A.reverse) ++ y :: x :: (B ++ R))) = true := by simp only [pIn, pLen, hlen]; simp <;> omega
    have e3 : pIn ((H.length + A.length : Nat) : Int) (pLen ((H ++ A.reverse) ++ y :: x :: (B ++ R))) = true := by simp only [pIn, pLen, hlen]; simp <;> omega
    have g1 : pGet 0 ((H ++ A.reverse) ++ y :: x :: (B ++ R)) ((H.length + (A.length + 1) : Nat) : Int) = x := by
      simp only [pGet, Int.toNat_natCast]
      rw [show (H ++ A.reverse) ++ y :: x :: (B ++ R) = ((H ++ A.reverse) ++ [y]) ++ x :: (B ++ R) by simp]
      exact get_mid (by simp <;> omega)
    have g2 : pGet 0 ((H ++ A.reverse) ++ y :: x :: (B ++ R)) ((H.length + A.length : Nat) : Int) = y := by
      simp only [pGet, Int.toNat_natCast]
      exact get_mid (by simp)
    by_cases hxy : x < y
    · have hs1 : pSet (pSet ((H ++ A.reverse) ++ y :: x :: (B ++ R)) ((H.length + (A.length + 1) : Nat) : Int) y) ((H.length + A.length : Nat) : Int) x = H ++ (A.reverse ++ x :: ((y :: B) ++ R)) := by
        simp only [pSet, Int.toNat_natCast]
        have := swap_mid (H := H ++ A.reverse) (T := B ++ R) (y := y) (x := x)
        rw [hHA] at this
        rw [show H.length + (A.length + 1) = H.length + A.length + 1 by omega, this]
        simp
      have e4 : pIn ((H.length + A.length : Nat) : Int) (pLen (pSet ((H ++ A.reverse) ++ y :: x :: (B ++ R)) ((H.length + (A.length + 1) : Nat) : Int) y)) = true := by simp only [pIn, pLen, pSet, List.length_set, hlen]; simp <;> omega
      obtain ⟨j, hj⟩ := inner_ok H A x (y :: B) R (by simp only [List.length_cons]; omega)
      refine ⟨j, ?_⟩
      have hst : s_q25_0 (H.length : Int) (((H.length + (A.length + 1) : Nat) : Int), ((H ++ A.reverse) ++ y :: x :: (B ++ R), ())) = some (.inl (((H.length + A.length : Nat) : Int), (H ++ (A.reverse ++ x :: ((y :: B) ++ R)), ()))) := by
        unfold s_q25_0
        simp only [e0, e1, e2, e3, e4, g1, g2, less_eq, hxy, decide_true, if_true, pBind, Option.bind_some, hs1]
      rw [pIter_inl hst, hj]
      simp only [insL, if_pos hxy]
    · refine ⟨((H.length + (A.length + 1) : Nat) : Int), pIter_inr ?_⟩
      unfold s_q25_0
      simp only [e0, e1, e2, e3, g1, g2, less_eq, hxy, decide_false, if_true, Bool.false_eq_true, if_false, pBind, Option.bind_some, insL, ↓reduceIte]
      rw [show (H ++ A.reverse) ++ y :: x :: (B ++ R) = H ++ ((y :: A).reverse ++ x :: B ++ R) by simp]
/-- a part of a row is sorted in place -/
theorem insertion_ok (H R : List Int) : ∀ (Q S : List Int), S.Pairwise (· ≤ ·) → H.length + S.length + Q.length + R.length + 1 < 2 ^ 62 →
    ∃ j L, pIter (s_q25_1 ((H.length + S.length + Q.length : Nat) : Int) (H.length : Int)) (((H.length + S.length : Nat) : Int), (H ++ (S ++ (Q ++ R)), ())) = some (j, (H ++ (L ++ R), ())) ∧ L.Perm (S ++ Q) ∧ L.Pairwise (· ≤ ·)
  | [], S, hS, hl => by
    refine ⟨((H.length + S.length : Nat) : Int), S, pIter_inr ?_, by simp, hS⟩
    unfold s_q25_1
    have e1 : pLt ((H.length + S.length : Nat) : Int) ((H.length + S.length + ([] : List Int).length : Nat) : Int) = false := by simp [pLt]
    simp only [e1, Bool.false_eq_true, if_false, List.nil_append]
  | x :: Q, S, hS, hl => by
    simp only [List.length_cons] at hl ⊢
    have e1 : pLt ((H.length + S.length : Nat) : Int) ((H.length + S.length + (Q.length + 1) : Nat) : Int) = true := by simp [pLt]; omega
    have e2 : pAdd .i64 ((H.length + S.length : Nat) : Int) 1 = ((H.length + (S.length + 1) : Nat) : Int) := by rw [add64 (by omega) (by omega)]; omega
    obtain ⟨j, hj⟩ := inner_ok H S.reverse x [] (Q ++ R) (by simp; omega)
    have hl2 := insL_len S.reverse x []
    obtain ⟨j2, L, h1, h2, h3⟩ := insertion_ok H R Q (insL S.reverse x []) (insL_sorted _ _ _ (by simpa using hS) (by simp)) (by rw [hl2]; simp; omega)
    refine ⟨j2, L, ?_, h2.trans ?_, h3⟩
    · have hst : s_q25_1 ((H.length + S.length + (Q.length + 1) : Nat) : Int) (H.length : Int) (((H.length + S.length : Nat) : Int), (H ++ (S ++ (x :: Q ++ R)), ())) = some (.inl (((H.length + (S.length + 1) : Nat) : Int), (H ++ (insL S.reverse x [] ++ (Q ++ R)), ()))) := by
        unfold s_q25_1
        rw [List.reverse_reverse, List.length_reverse] at hj
        simp only [e1, e2, if_true, pBind]
        rw [show S ++ (x :: Q ++ R) = S ++ x :: ([] ++ (Q ++ R)) by simp, hj]
        rfl
      rw [pIter_inl hst]
      rw [hl2] at h1
      simp only [List.length_reverse, List.length_nil, Nat.add_zero] at h1
      rw [show H.length + S.length + (Q.length + 1) = H.length + (S.length + 1) + Q.length by omega]
      exact h1
    · have := insL_perm S.reverse x []
      rw [List.reverse_reverse] at this
      refine (this.append_right Q).trans ?_
      simp
theorem insertionSort_ok (H M R : List Int) (hl : H.length + M.length + R.length + 1 < 2 ^ 62) : ∃ L, m_q25 (H.length : Int) ((H.length + M.length : Nat) : Int) (H ++ (M ++ R)) = some (H ++ (L ++ R), ()) ∧ L.Perm M ∧ L.Pairwise (· ≤ ·) := by
  unfold m_q25
  cases M with
  | nil =>
    refine ⟨[], ?_, List.Perm.refl _, List.Pairwise.nil⟩
    have : pIter (s_q25_1 ((H.length + ([] : List Int).length : Nat) : Int) (H.length : Int)) (pAdd .i64 (H.length : Int) 1, (H ++ ([] ++ R), ())) = some (pAdd .i64 (H.length : Int) 1, (H ++ ([] ++ R), ())) := by
      refine pIter_inr ?_
      unfold s_q25_1
      have e : pAdd .i64 (H.length : Int) 1 = (H.length : Int) + 1 := add64 (by omega) (by omega)
      have e1 : pLt (pAdd .i64 (H.length : Int) 1) ((H.length + ([] : List Int).length : Nat) : Int) = false := by rw [e]; simp [pLt]; omega
      simp only [e1, Bool.false_eq_true, if_false]
    rw [this]
    rfl
  | cons x Q =>
    obtain ⟨j, L, h1, h2, h3⟩ := insertion_ok H R Q [x] (by simp) (by simp at hl ⊢; omega)
    refine ⟨L, ?_, h2, h3⟩
    have e : pAdd .i64 (H.length : Int) 1 = ((H.length + [x].length : Nat) : Int) := by rw [add64 (by omega) (by omega)]; simp
    rw [e, show H.length + (x :: Q).length = H.length + [x].length + Q.length by simp; omega, show H ++ (x :: Q ++ R) = H ++ ([x] ++ (Q ++ R)) by simp, h1]
    rfl
theorem pRec_const {D X : Type} {B : (D → Option X) → D → Option X} {d : D} {x : X} (h : ∀ f, B f d = some x) : pRec B d = some x := by
  unfold pRec
  have hh : ∃ n, (recN B n d).isSome := ⟨1, by simp only [recN, h]; rfl⟩
  rw [dif_pos hh]
  have := hh.choose_spec
  generalize hh.choose = n at *
  cases n with
  | zero => simp [recN] at this
  | succ n => simp only [recN, h]
theorem pdq_small (xs : List Int) (lim : Int) (hl : xs.length ≤ 12) : ∃ L, pRec b_slices_pdqsortOrdered_int_ (0, (pLen xs, (lim, (xs, ())))) = some (L, ()) ∧ L.Perm xs ∧ L.Pairwise (· ≤ ·) := by
  obtain ⟨L, h1, h2, h3⟩ := insertionSort_ok [] xs [] (by simp; omega)
  refine ⟨L, pRec_const fun f => ?_, h2, h3⟩
  unfold b_slices_pdqsortOrdered_int_
  have e : pLe (pSub .i64 (pLen xs) 0) 12 = true := by rw [sub64 (by simp [pLen]) (by simp [pLen]; omega)]; simp [pLe, pLen]; omega
  have h1' : m_q25 0 (pLen xs) xs = some (L, ()) := by simpa using h1
  have : pIter (s_slices_pdqsortOrdered_int__0 f) (0, (pLen xs, (lim, (true, (true, (xs, ())))))) = some (L, ()) := by
    refine pIter_inr ?_
    unfold s_slices_pdqsortOrdered_int__0
    simp only [e, if_true, h1', pBind, Option.bind_some]
  simp only [this, pBind, Option.bind_some]
theorem bitsLen_small {n : Int} (h0 : 0 ≤ n) (h1 : n < 256) : ∃ k, m_q1 (pWrap .u64 n) = some (k, ()) := by
  have e : pWrap .u64 n = n := by
    simp only [pWrap, IntKind.wrap, IntKind.bits, IntKind.signed]
    simp
    omega
  rw [e]
  unfold m_q1 m_q2
  have e1 : pLe 4294967296 n = false := decide_eq_false (by omega)
  have e2 : pLe 65536 n = false := decide_eq_false (by omega)
  have e3 : pLe 256 n = false := decide_eq_false (by omega)
  have e4 : pWrap .u8 n = n := wrap8 h0 h1
  simp only [e1, e2, e3, e4, Bool.false_eq_true, if_false, pBind, Option.bind_some]
  split
  · exact ⟨_, rfl⟩
  · rename_i h
    refine (h ?_).elim
    refine decide_eq_true ⟨h0, ?_⟩
    show n < 256
    exact h1
theorem sort_small (xs : List Int) (hl : xs.length ≤ 12) : ∃ L, m_q20 xs = some (L, ()) ∧ L.Perm xs ∧ L.Pairwise (· ≤ ·) := by
  unfold m_q20
  obtain ⟨k, hk⟩ := bitsLen_small (n := (xs.length : Int)) (by omega) (by omega)
  obtain ⟨L, h1, h2, h3⟩ := pdq_small xs k hl
  refine ⟨L, ?_, h2, h3⟩
  show (m_q1 (pWrap .u64 (pLen xs))).bind _ = _
  rw [show m_q1 (pWrap .u64 (pLen xs)) = some (k, ()) from hk, Option.bind_some]
  show (pRec b_slices_pdqsortOrdered_int_ (0, (pLen xs, (k, (xs, ()))))).bind _ = _
  rw [h1]
  rfl
theorem sorted_one {L M : List Int} (hp : L.Perm M) (h1 : L.Pairwise (· ≤ ·)) (h2 : M.Pairwise (· ≤ ·)) : L = M :=
  List.Perm.eq_of_pairwise (fun a b _ _ h h' => Int.le_antisymm h h') h1 h2 hp
end Go.Xr.Try
