import Derived.Test.YtjidecalfabkbaaDnew
set_option linter.unusedVariables false
set_option linter.unusedSimpArgs false
set_option maxRecDepth 100000
namespace Go.Xr.Try
open Go Go.Xr

/-! With, Get, and what the document fixes -/
theorem same_page (p q : EN) : m_q15 p q = some (decide (q.1 = p.1), ()) := by
  unfold m_q15
  obtain ⟨⟨a, b, c⟩, _⟩ := p
  obtain ⟨⟨a', b', c'⟩, _⟩ := q
  simp only [pAndB, pEq, Prod.mk.injEq, Bool.decide_and]
theorem contains_one (c x : EN) : m_q36 [c] x = some (decide (x.1 = c.1), ()) := by
  have e0 : pLt 0 (pLen [c]) = true := by show pLt 0 1 = true; decide
  have e1 : pIn 0 (pLen [c]) = true := by show pIn 0 1 = true; decide
  have e2 : pAdd .i64 0 1 = 1 := by decide
  have e3 : pLt 1 (pLen [c]) = false := by show pLt 1 1 = false; decide
  have g : pGet Z0 [c] 0 = c := rfl
  have st : s_q39_0 [c] x (0, ()) = if x.1 = c.1 then some (.inr (.inl (0, ()))) else some (.inl (1, ())) := by
    unfold s_q39_0
    simp only [e0, e1, e2, g, same_page, if_true, pBind, Option.bind_some, decide_eq_true_eq]
  have st2 : s_q39_0 [c] x (1, ()) = some (.inr (.inr (1, ()))) := by
    unfold s_q39_0
    simp only [e3, Bool.false_eq_true, if_false]
  unfold m_q36 m_q39
  by_cases h : x.1 = c.1
  · rw [if_pos h] at st
    rw [pIter_inr st]
    simp [pBind, pCase, pLe, h]
  · rw [if_neg h] at st
    rw [pIter_inl st, pIter_inr st2]
    simp [pBind, pCase, pLe, h]
theorem with_id (r : Option ((Int × Unit) ⊕ (Int × ((List EN) × (Int × Unit))))) : (pBind (pBind r fun d305 => pCase d305 (fun d306 => some (.inl (d306.1, ()))) (fun d307 => some (.inr (d307.1, (d307.2.1, (d307.2.2.1, ()))))) : Option ((Int × Unit) ⊕ (Int × ((List EN) × (Int × Unit))))) fun d308 => pCase d308 (fun d309 => some (.inl (d309.1, ()))) (fun d310 => some (.inr (d310.1, (d310.2.1, (d310.2.2.1, ())))))) = r := by
  cases r with
  | none => rfl
  | some v => cases v <;> rfl
theorem with_two (d : Int) (c x y : EN) (h : (x.1 = c.1 ∧ y.1 ≠ c.1) ∨ (x.1 ≠ c.1 ∧ y.1 = c.1)) : m_q14 [c] [x, y] d = m_q16 d [c, if x.1 = c.1 then y else x] := by
  have e0 : pLt 0 (pLen [x, y]) = true := by show pLt 0 2 = true; decide
  have e1 : pIn 0 (pLen [x, y]) = true := by show pIn 0 2 = true; decide
  have e2 : pAdd .i64 0 1 = 1 := by decide
  have e3 : pLt 1 (pLen [x, y]) = true := by show pLt 1 2 = true; decide
  have e4 : pIn 1 (pLen [x, y]) = true := by show pIn 1 2 = true; decide
  have e5 : pAdd .i64 1 1 = 2 := by decide
  have e6 : pLt 2 (pLen [x, y]) = false := by show pLt 2 2 = false; decide
  have g0 : pGet Z0 [x, y] 0 = x := rfl
  have g1 : pGet Z0 [x, y] 1 = y := rfl
  have r1 : ∀ z : EN, pRoom (pIAdd (pLen [c]) (pLen [z])) = true := fun z => by show pRoom (pIAdd 1 1) = true; decide
  have st3 : ∀ all : List EN, s_q14_0 [x, y] [c] (2, (all, ())) = some (.inr (2, (all, ()))) := by
    intro all
    unfold s_q14_0
    simp only [e6, Bool.false_eq_true, if_false]
  unfold m_q14
  rw [clone_eq (by simp)]
  simp only [pBind, Option.bind_some]
  have key : pIter (s_q14_0 [x, y] [c]) (0, ([c], ())) = some (2, ([c, if x.1 = c.1 then y else x], ())) := by
    rcases h with ⟨hx, hy⟩ | ⟨hx, hy⟩
    · have s1 : s_q14_0 [x, y] [c] (0, ([c], ())) = some (.inl (1, ([c], ()))) := by
        unfold s_q14_0
        simp only [e0, e1, e2, g0, contains_one, hx, decide_true, pNot, Bool.not_true, Bool.false_eq_true, if_true, if_false, pBind, Option.bind_some]
      have s2 : s_q14_0 [x, y] [c] (1, ([c], ())) = some (.inl (2, ([c, y], ()))) := by
        unfold s_q14_0
        simp only [e3, e4, e5, g1, contains_one, hy, decide_false, pNot, Bool.not_false, if_true, pBind, Option.bind_some, r1]
        rfl
      rw [pIter_inl s1, pIter_inl s2, pIter_inr (st3 _), if_pos hx]
    · have s1 : s_q14_0 [x, y] [c] (0, ([c], ())) = some (.inl (1, ([c, x], ()))) := by
        unfold s_q14_0
        simp only [e0, e1, e2, g0, contains_one, hx, decide_false, pNot, Bool.not_false, if_true, pBind, Option.bind_some, r1]
        rfl
      have s2 : s_q14_0 [x, y] [c] (1, ([c, x], ())) = some (.inl (2, ([c, x], ()))) := by
        unfold s_q14_0
        simp only [e3, e4, e5, g1, contains_one, hy, decide_true, pNot, Bool.not_true, Bool.false_eq_true, if_true, if_false, pBind, Option.bind_some]
      rw [pIter_inl s1, pIter_inl s2, pIter_inr (st3 _), if_neg hx]
  rw [key]
  exact with_id _
/-! the two that the document's example has -/
abbrev eA : EN := ((1, (0, 0)), (2, (33, 5)))
abbrev eB : EN := ((0, (1, 0)), (4, (1, 0)))
abbrev eC : EN := ((0, (0, 0)), (3, (1, 0)))
abbrev eD : EN := ((0, (1, 0)), (9, (2, 0)))
theorem ordd_two {d : Int} {a b : EN} {L : List EN} (hL : L = [a, b] ∨ L = [b, a]) (ho : L.Pairwise (Ordd (byI (keyF d)))) (h : keyF d b < keyF d a) : L = [b, a] := by
  rcases hL with rfl | rfl
  · exfalso
    have := (List.pairwise_cons.1 ho).1 b (by simp)
    simp only [Ordd, byI, decide_eq_false_iff_not] at this
    exact this h
  · rfl
theorem aw1 : m_q16 1 [eB, eA] = some (.inr (0, ([eA, eB], (1, ())))) := by
  obtain ⟨L, h1, h2, h3⟩ := new_two (d := 1) (a := eB) (b := eA) (by decide) (by decide)
  have hL := ordd_two h1 h2 (by decide)
  rw [hL, if_pos (by decide)] at h3
  exact h3
theorem aw2 : m_q16 1 [eA, eC] = some (.inl (1, ())) := by
  obtain ⟨L, h1, h2, h3⟩ := new_two (d := 1) (a := eA) (b := eC) (by decide) (by decide)
  rw [if_neg (by decide)] at h3
  exact h3
theorem aw3 : m_q14 [eD] [eA, eB] 1 = some (.inr (0, ([eA, eD], (1, ())))) := by
  rw [with_two 1 eD eA eB (.inr (by decide)), if_neg (by decide)]
  obtain ⟨L, h1, h2, h3⟩ := new_two (d := 1) (a := eD) (b := eA) (by decide) (by decide)
  have hL := ordd_two h1 h2 (by decide)
  rw [hL, if_pos (by decide)] at h3
  exact h3
theorem get_two (p : PG) (x y : EN) (hx : x.1 ≠ p) (hy : y.1 = p) : m_q11 p [x, y] = some (.inl (y, (true, (p, (y, (true, ())))))) := by
  have e0 : pLt 0 2 = true := by decide
  have e1 : pIn 0 (pLen [x, y]) = true := by show pIn 0 2 = true; decide
  have e2 : pAdd .i64 0 1 = 1 := by decide
  have e3 : pLt 1 2 = true := by decide
  have e4 : pIn 1 (pLen [x, y]) = true := by show pIn 1 2 = true; decide
  have g0 : pGet Z0 [x, y] 0 = x := rfl
  have g1 : pGet Z0 [x, y] 1 = y := rfl
  have ee : ∀ z : EN, pAndB (pEq z.1.1 p.1) (pAndB (pEq z.1.2.1 p.2.1) (pEq z.1.2.2 p.2.2)) = decide (z.1 = p) := by
    intro z
    obtain ⟨⟨a, b, c⟩, _⟩ := z
    obtain ⟨a', b', c'⟩ := p
    simp only [pAndB, pEq, Prod.mk.injEq, Bool.decide_and]
  have s1 : s_q11_0 (2, ()) [x, y] p (0, ([], ())) = some (.inl (1, ([], ()))) := by
    unfold s_q11_0
    simp only [e0, e1, e2, g0, ee, hx, decide_false, Bool.false_eq_true, if_true, if_false]
  have s2 : s_q11_0 (2, ()) [x, y] p (1, ([], ())) = some (.inr (.inl (y, (true, ([], ()))))) := by
    have ey : pAndB (pEq y.1.1 p.1) (pAndB (pEq y.1.2.1 p.2.1) (pEq y.1.2.2 p.2.2)) = true := by rw [ee]; exact decide_eq_true hy
    unfold s_q11_0
    simp only [e3, e4, g1, ey, if_true]
  unfold m_q11 m_q7 m_q12
  have e9 : pLen [x, y] = 2 := rfl
  simp only [pBind, Option.bind_some, e9, pIter_inl s1, pIter_inr s2, pCase]
theorem aw4 : m_q11 (0, (1, 0)) [eA, eB] = some (.inl (eB, (true, ((0, (1, 0)), (eB, (true, ())))))) := get_two _ _ _ (by decide) rfl
theorem aw5 : m_q11 (0, (1, 0)) [eA, eD] = some (.inl (eD, (true, ((0, (1, 0)), (eD, (true, ())))))) := get_two _ _ _ (by decide) rfl
/-! bytes -/
theorem number_cl {n k : Int} {l : List Int} (h : iterN (s_q24_0 n) 6 (pSub .i64 k 1, ([], ())) = some (-1, (l, ()))) : m_q24 n k = some (l, ()) := by
  unfold m_q24
  rw [pIter_val 6 h]
  rfl
theorem nu1 : m_q24 0 2 = some ([0, 0], ()) := number_cl (by decide +kernel)
theorem nu2 : m_q24 2 2 = some ([0, 2], ()) := number_cl (by decide +kernel)
theorem nu3 : m_q24 33 2 = some ([0, 33], ()) := number_cl (by decide +kernel)
theorem nu4 : m_q24 (pWrap .i64 5) 4 = some ([0, 0, 0, 5], ()) := number_cl (by decide +kernel)
theorem nu5 : m_q24 4 2 = some ([0, 4], ()) := number_cl (by decide +kernel)
theorem nu6 : m_q24 1 2 = some ([0, 1], ()) := number_cl (by decide +kernel)
theorem nu7 : m_q24 (pWrap .i64 0) 4 = some ([0, 0, 0, 0], ()) := number_cl (by decide +kernel)
abbrev bA : List Int := [0, 0, 0, 2, 0, 33, 0, 0, 0, 5]
abbrev bB : List Int := [0, 2, 0, 4, 0, 1, 0, 0, 0, 0]
theorem co1 : m_q34 [[], [0, 0], [0, 2], [0, 33], [0, 0, 0, 5]] = some (bA, ()) := by
  unfold m_q34
  rw [pIter_val 7 (x := (10, (5, ()))) (by decide +kernel)]
  have g : m_q37 10 = some (.inl ([], ([], ()))) := by decide +kernel
  simp only [pBind, Option.bind_some, g, pCase]
  rw [pIter_val 7 (x := (5, (bA, ()))) (by decide +kernel)]
  rfl
theorem co2 : m_q34 [bA, [0, 2], [0, 4], [0, 1], [0, 0, 0, 0]] = some (bA ++ bB, ()) := by
  unfold m_q34
  rw [pIter_val 7 (x := (20, (5, ()))) (by decide +kernel)]
  have g : m_q37 20 = some (.inl ([], ([], ()))) := by decide +kernel
  simp only [pBind, Option.bind_some, g, pCase]
  rw [pIter_val 7 (x := (5, (bA ++ bB, ()))) (by decide +kernel)]
  rfl
theorem aw6 : m_q9 [eA, eB] 1 = some (bA ++ bB, ()) := by
  unfold m_q9 m_q7 m_q12
  have k1 : keyV 1 eA.1 = 0 := by decide
  have k2 : keyV 1 eB.1 = 2 := by decide
  have s1 : s_q9_0 (2, ()) [eA, eB] 1 (0, ([], ([], ()))) = some (.inl (1, (bA, ([], ())))) := by
    unfold s_q9_0
    have e0 : pLt 0 2 = true := by decide
    have e1 : pIn 0 (pLen [eA, eB]) = true := by decide
    have e2 : pAdd .i64 0 1 = 1 := by decide
    have g0 : pGet Z0 [eA, eB] 0 = eA := rfl
    simp only [e0, e1, e2, g0, key_eq, k1, nu1, nu2, nu3, nu4, co1, if_true, pBind, Option.bind_some]
  have s2 : s_q9_0 (2, ()) [eA, eB] 1 (1, (bA, ([], ()))) = some (.inl (2, (bA ++ bB, ([], ())))) := by
    unfold s_q9_0
    have e0 : pLt 1 2 = true := by decide
    have e1 : pIn 1 (pLen [eA, eB]) = true := by decide
    have e2 : pAdd .i64 1 1 = 2 := by decide
    have g0 : pGet Z0 [eA, eB] 1 = eB := rfl
    simp only [e0, e1, e2, g0, key_eq, k2, nu2, nu5, nu6, nu7, co2, if_true, pBind, Option.bind_some]
  have s3 : s_q9_0 (2, ()) [eA, eB] 1 (2, (bA ++ bB, ([], ()))) = some (.inr (2, (bA ++ bB, ([], ())))) := by
    unfold s_q9_0
    have e0 : pLt 2 2 = false := by decide
    simp only [e0, Bool.false_eq_true, if_false]
  have e9 : pLen [eA, eB] = 2 := rfl
  simp only [pBind, Option.bind_some, e9, pIter_inl s1, pIter_inl s2, pIter_inr s3]
theorem back_cl {l : List Int} {n k : Int} (h : iterN (s_q21_0 l) 6 (0, (0, ())) = some (n, (k, ()))) : m_q21 l = some (n, ()) := by
  unfold m_q21
  rw [pIter_val 6 h]
  rfl
theorem ba1 : m_q21 [0, 0] = some (0, ()) := back_cl (k := 2) (by decide +kernel)
theorem ba2 : m_q21 [0, 2] = some (2, ()) := back_cl (k := 2) (by decide +kernel)
theorem ba3 : m_q21 [0, 33] = some (33, ()) := back_cl (k := 2) (by decide +kernel)
theorem ba4 : m_q21 [0, 0, 0, 5] = some (5, ()) := back_cl (k := 4) (by decide +kernel)
theorem ba5 : m_q21 [0, 4] = some (4, ()) := back_cl (k := 2) (by decide +kernel)
theorem ba6 : m_q21 [0, 1] = some (1, ()) := back_cl (k := 2) (by decide +kernel)
theorem ba7 : m_q21 [0, 0, 0, 0] = some (0, ()) := back_cl (k := 4) (by decide +kernel)
theorem at1 : m_q25 1 0 = some ((1, (0, 0)), (true, ())) := by
  unfold m_q25
  have e0 : pLt 0 0 = false := by decide
  have hc : m_q27 1 = some (5, ()) := by rw [count_eq]; decide
  have e1 : pLe 5 0 = false := by decide
  have s1 : s_q25_0 1 0 (1, ()) = some (.inr (1, ())) := by
    unfold s_q25_0
    have e2 : pSub .i64 1 1 = 0 := by decide
    have a1 : m_q30 1 0 = some (1, ()) := by rw [ahead_eq (by decide) (by decide) (by decide) (by decide)]; decide
    have e3 : pLe 1 0 = false := by decide
    simp only [e2, a1, e3, pBind, Option.bind_some, Bool.false_eq_true, if_false]
  have a2 : m_q30 1 1 = some (0, ()) := by rw [ahead_eq (by decide) (by decide) (by decide) (by decide)]; decide
  have a3 : m_q32 1 1 = some (1, ()) := by decide +kernel
  simp only [e0, hc, e1, pIter_inr s1, a2, a3, pBind, Option.bind_some, Bool.false_eq_true, if_false]
  decide +kernel
theorem at2 : m_q25 1 2 = some ((0, (1, 0)), (true, ())) := by
  unfold m_q25
  have e0 : pLt 2 0 = false := by decide
  have hc : m_q27 1 = some (5, ()) := by rw [count_eq]; decide
  have e1 : pLe 5 2 = false := by decide
  have s1 : s_q25_0 1 2 (1, ()) = some (.inl (0, ())) := by
    unfold s_q25_0
    have e2 : pSub .i64 1 1 = 0 := by decide
    have a1 : m_q30 1 0 = some (1, ()) := by rw [ahead_eq (by decide) (by decide) (by decide) (by decide)]; decide
    have e3 : pLe 1 2 = true := by decide
    simp only [e2, a1, e3, pBind, Option.bind_some, if_true]
  have s2 : s_q25_0 1 2 (0, ()) = some (.inr (0, ())) := by
    unfold s_q25_0
    have e2 : pSub .i64 0 1 = -1 := by decide
    have a1 : m_q30 1 (-1) = some (5, ()) := by rw [ahead_eq (by decide) (by decide) (by decide) (by decide)]; decide
    have e3 : pLe 5 2 = false := by decide
    simp only [e2, a1, e3, pBind, Option.bind_some, Bool.false_eq_true, if_false]
  have a2 : m_q30 1 0 = some (1, ()) := by rw [ahead_eq (by decide) (by decide) (by decide) (by decide)]; decide
  have a3 : m_q32 1 0 = some (2, ()) := by decide +kernel
  simp only [e0, hc, e1, pIter_inl s1, pIter_inr s2, a2, a3, pBind, Option.bind_some, Bool.false_eq_true, if_false]
  decide +kernel
theorem aw1' : m_q16 1 [eA, eB] = some (.inr (0, ([eA, eB], (1, ())))) := by
  obtain ⟨L, h1, h2, h3⟩ := new_two (d := 1) (a := eA) (b := eB) (by decide) (by decide)
  have hL := ordd_two h1.symm h2 (by decide)
  rw [hL, if_pos (by decide)] at h3
  exact h3
theorem aw7 : m_q6 1 (bA ++ bB) = some (.inr (0, ([eA, eB], (1, ())))) := by
  unfold m_q6
  have hc : m_q27 1 = some (5, ()) := by rw [count_eq]; decide
  have e0 : pEq 5 0 = false := by decide
  have e1 : pNot (pEq 10 0) = true := by decide
  have e2 : pNot (pEq (pRem (pLen (bA ++ bB)) 10) 0) = false := by decide
  have s1 : s_q6_0 1 (bA ++ bB, ([], ())) = some (.inl (bB, ([eA], ()))) := by
    unfold s_q6_0
    have p0 : pLt 0 (pLen (bA ++ bB)) = true := by decide
    have p1 : pPart 0 2 (pLen (bA ++ bB)) = true := by decide
    have p2 : pPart 2 4 (pLen (bA ++ bB)) = true := by decide
    have p3 : pPart 4 6 (pLen (bA ++ bB)) = true := by decide
    have p4 : pPart 6 10 (pLen (bA ++ bB)) = true := by decide
    have p5 : pPart 10 (pLen (bA ++ bB)) (pLen (bA ++ bB)) = true := by decide
    have c1 : pCut (bA ++ bB) 0 (pISub 2 0) = [0, 0] := by decide
    have c2 : pCut (bA ++ bB) 2 (pISub 4 2) = [0, 2] := by decide
    have c3 : pCut (bA ++ bB) 4 (pISub 6 4) = [0, 33] := by decide
    have c4 : pCut (bA ++ bB) 6 (pISub 10 6) = [0, 0, 0, 5] := by decide
    have c5 : pCut (bA ++ bB) 10 (pISub (pLen (bA ++ bB)) 10) = bB := by decide
    have w : pWrap .u32 5 = 5 := by decide
    have n0 : pNot true = false := rfl
    have rm : ∀ z : EN, pRoom (pIAdd (pLen ([] : List EN)) (pLen [z])) = true := fun z => by show pRoom (pIAdd 0 1) = true; decide
    simp only [p0, p1, p2, p3, p4, p5, c1, c2, c3, c4, c5, ba1, ba2, ba3, ba4, at1, w, n0, rm, pAmb_self, if_true, Bool.false_eq_true, if_false, pBind, Option.bind_some]
    rfl
  have s2 : s_q6_0 1 (bB, ([eA], ())) = some (.inl ([], ([eA, eB], ()))) := by
    unfold s_q6_0
    have p0 : pLt 0 (pLen bB) = true := by decide
    have p1 : pPart 0 2 (pLen bB) = true := by decide
    have p2 : pPart 2 4 (pLen bB) = true := by decide
    have p3 : pPart 4 6 (pLen bB) = true := by decide
    have p4 : pPart 6 10 (pLen bB) = true := by decide
    have p5 : pPart 10 (pLen bB) (pLen bB) = true := by decide
    have c1 : pCut bB 0 (pISub 2 0) = [0, 2] := by decide
    have c2 : pCut bB 2 (pISub 4 2) = [0, 4] := by decide
    have c3 : pCut bB 4 (pISub 6 4) = [0, 1] := by decide
    have c4 : pCut bB 6 (pISub 10 6) = [0, 0, 0, 0] := by decide
    have c5 : pCut bB 10 (pISub (pLen bB) 10) = [] := by decide
    have w : pWrap .u32 0 = 0 := by decide
    have n0 : pNot true = false := rfl
    have rm : ∀ z : EN, pRoom (pIAdd (pLen [eA]) (pLen [z])) = true := fun z => by show pRoom (pIAdd 1 1) = true; decide
    simp only [p0, p1, p2, p3, p4, p5, c1, c2, c3, c4, c5, ba2, ba5, ba6, ba7, at2, w, n0, rm, pAmb_self, if_true, Bool.false_eq_true, if_false, pBind, Option.bind_some]
    rfl
  have s3 : s_q6_0 1 ([], ([eA, eB], ())) = some (.inr (.inr ([], ([eA, eB], ())))) := by
    unfold s_q6_0
    have p0 : pLt 0 (pLen ([] : List Int)) = false := by decide
    simp only [p0, Bool.false_eq_true, if_false]
  have eqq : m_q3 (bA ++ bB) (bA ++ bB) = some (true, ()) := by
    unfold m_q3
    simp [pEqS]
  have e7 : pNot (pEq 0 0) = false := by decide
  have n0 : pNot true = false := rfl
  simp only [hc, e0, e1, e2, pIter_inl s1, pIter_inl s2, pIter_inr s3, pBind, Option.bind_some, pCase, aw1', e7, aw6, eqq, n0, if_true, Bool.false_eq_true, if_false]
theorem aw8 : m_q6 1 [0] = some (.inl (3, ())) := by
  unfold m_q6
  have hc : m_q27 1 = some (5, ()) := by rw [count_eq]; decide
  have e0 : pEq 5 0 = false := by decide
  have e1 : pNot (pEq 10 0) = true := by decide
  have e2 : pNot (pEq (pRem (pLen [(0 : Int)]) 10) 0) = true := by decide
  simp only [hc, e0, e1, e2, pBind, Option.bind_some, if_true, Bool.false_eq_true, if_false]
theorem aw9 : m_q68 (-1) [eA, eB] = some ([eA, eB], ()) := by
  unfold m_q68 m_q7 m_q12
  have e9 : pLen [eA, eB] = 2 := rfl
  simp only [pBind, Option.bind_some, e9]
  rw [pIter_val 4 (x := (.inr (2, ([eA, eB], ([], ()))) : ((List EN) × ((List Unit) × Unit)) ⊕ (Int × ((List EN) × ((List Unit) × Unit))))) (by rfl)]
  rfl
theorem aw10 : m_q70 [eA, eB] [eA, eB] = some (true, ()) := by
  unfold m_q70
  have e0 : pNot (pEq (pLen [eA, eB]) (pLen [eA, eB])) = false := by decide
  simp only [e0, Bool.false_eq_true, if_false, pBind]
  rw [pIter_val 4 (x := .inr (2, ())) (by decide +kernel)]
  rfl
theorem aw11 : m_q10 = some ([], ()) := by
  unfold m_q10 m_q8 m_q13
  simp only [pBind, Option.bind_some]
  rw [pIter_val 2 (x := ()) (by decide +kernel)]
  rfl
theorem awake_ok : m_q69 = some (true, ()) := by
  unfold m_q69
  have n0 : pNot (pEq 0 0) = false := by decide
  have n1 : pEq 1 1 = true := by decide
  have q1 : pEq 0 0 = true := by decide
  have q4 : pEq 4 4 = true := by decide
  have q9 : pEq 9 9 = true := by decide
  have q2 : pEq 2 2 = true := by decide
  have q3 : pEq 3 3 = true := by decide
  have aa : pAndB true true = true := rfl
  have nt : pNot true = false := rfl
  have s1 : m_q20 33 = some (2, ()) := by decide +kernel
  have s2 : m_q20 0 = some (0, ()) := by decide +kernel
  have l1 : m_q12 [eA, eB] = some (2, ()) := rfl
  have l2 : m_q13 = some (0, ()) := rfl
  have l3 : pLen ([] : List Int) = 0 := rfl
  simp only [aw1, aw2, aw3, aw4, aw5, aw6, aw7, aw8, aw9, aw10, aw11, s1, s2, l1, l2, l3, n0, n1, q1, q4, q9, q2, q3, aa, nt, pAmb_self, pBind, Option.bind_some, pCase, if_true, Bool.false_eq_true, if_false]
end Go.Xr.Try
