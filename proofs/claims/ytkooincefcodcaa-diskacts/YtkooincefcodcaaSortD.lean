import Derived.Test.YtkooincefcodcaaSortB
set_option linter.unusedVariables false
set_option linter.unusedSimpArgs false
set_option maxRecDepth 100000
set_option maxHeartbeats 1600000
namespace Go.Xr.Try
open Go Go.Xr Go.Sort
theorem pdq_pre (self : (Int × (Int × (Int × ((List Int) × Unit)))) → Option ((List Int) × Unit)) (a b limit0 : Nat) (wb wp : Bool) (d : Array Int) (hn : ¬ b - a ≤ 12) (hl : ¬ limit0 = 0) (hb : b ≤ d.size) (hs : d.size < 256) (hlim : limit0 < 2 ^ 60)
    (d1 : Array Int) (limit : Nat) (c : Nat × Hint) (d2 : Array Int) (pivot : Nat) (hint : Hint) (pi : Array Int × Bool)
    (e1 : d1 = if (!wb) = true then breakPatterns d a b else d) (e2 : limit = if (!wb) = true then limit0 - 1 else limit0) (e3 : c = choosePivot ltInt d1 a b) (e4 : d2 = if c.2 = .decreasing then reverseRange d1 a b else d1)
    (e5 : pivot = if c.2 = .decreasing then (b - 1) - (c.1 - a) else c.1) (e6 : hint = if c.2 = .decreasing then Hint.increasing else c.2) (e7 : pi = if (wb && wp && decide (hint = .increasing)) = true then partialInsertionSort ltInt d2 a b else (d2, false))
    (z1 : d1.size = d.size) (z2 : d2.size = d.size) (z3 : pi.1.size = d.size) (hpv : a ≤ pivot ∧ pivot < b) (hc0 : a ≤ c.1 ∧ c.1 < b) :
    s_slices_pdqsortOrdered_int__0 self ((a : Int), ((b : Int), ((limit0 : Int), (wb, (wp, (d.toList, ())))))) = if pi.2 = true then some (.inr (pi.1.toList, ())) else if (decide (a > 0) && !ltInt pi.1[a - 1]! pi.1[pivot]!) = true
      then (m_q31 (a : Int) (b : Int) (pivot : Int) pi.1.toList).bind fun d132 => some (.inl (d132.1, ((b : Int), ((limit : Int), (wb, (wp, (d132.2.1, ())))))))
      else (m_q32 (a : Int) (b : Int) (pivot : Int) pi.1.toList).bind fun d133 => if pNot (pEq 8 0) then if pLt (pSub .i64 d133.1 (a : Int)) (pSub .i64 (b : Int) d133.1) then (self ((a : Int), (d133.1, ((limit : Int), (d133.2.2.1, ()))))).bind fun d134 => some (.inl (pAdd .i64 d133.1 1, ((b : Int), ((limit : Int), (pLe (pQuo .i64 (pSub .i64 (b : Int) (a : Int)) 8) (pSub .i64 d133.1 (a : Int)), (d133.2.1, (d134.1, ())))))))
        else (self (pAdd .i64 d133.1 1, ((b : Int), ((limit : Int), (d133.2.2.1, ()))))).bind fun d135 => some (.inl ((a : Int), (d133.1, ((limit : Int), (pLe (pQuo .i64 (pSub .i64 (b : Int) (a : Int)) 8) (pSub .i64 (b : Int) d133.1), (d133.2.1, (d135.1, ()))))))) else none := by
  have eba : pSub .i64 (b : Int) (a : Int) = ((b - a : Nat) : Int) := subN (by omega) (by omega)
  have x1 : pLe ((b - a : Nat) : Int) 12 = false := by simp [pLe]; omega
  have x2 : pEq (limit0 : Int) 0 = false := by simp [pEq]; omega
  obtain ⟨kb, hkb⟩ := break_eq a b d (by omega) (by omega) hb (by omega)
  have H1 : (if pNot wb = true then (m_q22 (a : Int) (b : Int) d.toList).bind (fun d119 => pCase d119 (fun d120 => some (pSub .i64 (limit0 : Int) 1, (d120.1, ()))) (fun d121 => some (pSub .i64 (limit0 : Int) 1, (d121.1, ())))) else some ((limit0 : Int), (d.toList, ())) : Option (Int × (List Int × Unit))) = some ((limit : Int), (d1.toList, ())) := by
    rw [e1, e2]
    cases wb with
    | true => rfl
    | false =>
      obtain ⟨l', rfl⟩ : ∃ l', limit0 = l' + 1 := ⟨limit0 - 1, by omega⟩
      have : pSub .i64 ((l' + 1 : Nat) : Int) 1 = (l' : Int) := sub1 (by omega)
      simp only [pNot, Bool.not_false, if_true, hkb, Option.bind_some, pCase, this, Nat.add_sub_cancel]
  have H2 := pivot_eq d1 a b (by omega) (by omega) (by omega)
  rw [← e3] at H2
  have hr := reverseRange_eq a b d1 (by omega) (by omega) (by omega)
  have H3 : (if pEq (hintN c.2) 2 = true then (m_q33 (a : Int) (b : Int) d1.toList).bind (fun d124 => some (pSub .i64 (pSub .i64 (b : Int) 1) (pSub .i64 (c.1 : Int) (a : Int)), ((1 : Int), (d124.1, ())))) else some ((c.1 : Int), (hintN c.2, (d1.toList, ()))) : Option (Int × (Int × (List Int × Unit)))) = some ((pivot : Int), (hintN hint, (d2.toList, ()))) := by
    rw [e4, e5, e6]
    by_cases hd : c.2 = .decreasing
    · have y1 : pSub .i64 (b : Int) 1 = ((b - 1 : Nat) : Int) := by rw [show (1 : Int) = ((1 : Nat) : Int) from rfl]; exact subN (by omega) (by omega)
      have y2 : pSub .i64 (c.1 : Int) (a : Int) = ((c.1 - a : Nat) : Int) := subN (by omega) (by omega)
      have y3 : pSub .i64 ((b - 1 : Nat) : Int) ((c.1 - a : Nat) : Int) = ((b - 1 - (c.1 - a) : Nat) : Int) := subN (by omega) (by omega)
      have y4 : pEq (hintN c.2) 2 = true := by rw [hd]; rfl
      rw [if_pos y4, if_pos hd, if_pos hd, if_pos hd, hr, y1, y2]
      simp only [Option.bind_some, y3]
      rfl
    · have y4 : ¬ pEq (hintN c.2) 2 = true := by
        cases hh : c.2 with
        | unknown => decide
        | increasing => decide
        | decreasing => exact absurd hh hd
      rw [if_neg y4, if_neg hd, if_neg hd, if_neg hd]
  have hp := partialIns_eq a b d2 (by omega) (by omega) (by omega)
  have H4 : (if wb = true then if wp = true then if pEq (hintN hint) 1 = true then (m_q30 (a : Int) (b : Int) d2.toList).bind (fun d126 => if d126.1 = true then some (.inl (d126.2.1, ())) else some (.inr (d126.2.1, ()))) else some (.inr (d2.toList, ())) else some (.inr (d2.toList, ())) else some (.inr (d2.toList, ())) : Option ((List Int × Unit) ⊕ (List Int × Unit))) = if pi.2 = true then some (.inl (pi.1.toList, ())) else some (.inr (pi.1.toList, ())) := by
    rw [e7]
    cases wb with
    | false => rfl
    | true =>
      cases wp with
      | false => rfl
      | true =>
        by_cases hh : hint = .increasing
        · have y : pEq (hintN hint) 1 = true := by rw [hh]; rfl
          have y2 : (true && true && decide (hint = .increasing)) = true := by simp [hh]
          rw [if_pos rfl, if_pos rfl, if_pos y, if_pos y2, hp]
          rfl
        · have y : ¬ pEq (hintN hint) 1 = true := by
            cases hint with
            | unknown => decide
            | increasing => exact absurd rfl hh
            | decreasing => decide
          have y2 : ¬ (true && true && decide (hint = .increasing)) = true := by simp [hh]
          rw [if_pos rfl, if_pos rfl, if_neg y, if_neg y2]
          rfl
  have H5 : (if pLt 0 (a : Int) = true then if pIn (pSub .i64 (a : Int) 1) (pLen pi.1.toList) = true then if pIn (pivot : Int) (pLen pi.1.toList) = true then (m_q3 (pGet 0 pi.1.toList (pSub .i64 (a : Int) 1)) (pGet 0 pi.1.toList (pivot : Int))).bind (fun d130 => some (pNot d130.1, ())) else none else none else some (false, ()) : Option (Bool × Unit)) = some (decide (a > 0) && !ltInt pi.1[a - 1]! pi.1[pivot]!, ()) := by
    by_cases ha : a > 0
    · obtain ⟨a', rfl⟩ : ∃ a', a = a' + 1 := ⟨a - 1, by omega⟩
      have y : pLt 0 ((a' + 1 : Nat) : Int) = true := by simp [pLt]
      rw [if_pos y, sub1 (by omega), if_pos (inE (by omega)), if_pos (inE (by omega)), getE, getE, lessE]
      simp [pNot]
    · have y : ¬ pLt 0 (a : Int) = true := by simp [pLt]; omega
      rw [if_neg y]
      simp [ha]
  unfold s_slices_pdqsortOrdered_int__0
  simp only [eba, x1, x2, Bool.false_eq_true, if_false]
  simp only [pBind]
  rw [H1]
  simp only [Option.bind_some]
  rw [H2]
  simp only [Option.bind_some]
  rw [H3]
  simp only [Option.bind_some]
  rw [H4]
  cases hpi : pi.2 with
  | true => simp only [if_true, Option.bind_some, pCase]
  | false =>
    simp only [Bool.false_eq_true, if_false, Option.bind_some, pCase]
    rw [H5]
    simp only [Option.bind_some]
theorem pdq_run (d : Array Int) (a b limit : Nat) (wb wp : Bool) : a ≤ b → b ≤ d.size → d.size < 256 → limit < 2 ^ 60 → Below ltInt a b d →
    ∃ N, ∀ n, N ≤ n → pIter (s_slices_pdqsortOrdered_int__0 (recN b_slices_pdqsortOrdered_int_ n)) ((a : Int), ((b : Int), ((limit : Int), (wb, (wp, (d.toList, ())))))) = some ((pdq ltInt d a b limit wb wp).toList, ()) := by
  have hself : ∀ (n : Nat) (d : Array Int) (a b limit : Nat) (r : List Int × Unit), pIter (s_slices_pdqsortOrdered_int__0 (recN b_slices_pdqsortOrdered_int_ n)) ((a : Int), ((b : Int), ((limit : Int), (true, (true, (d.toList, ())))))) = some r → recN b_slices_pdqsortOrdered_int_ (n + 1) ((a : Int), ((b : Int), ((limit : Int), (d.toList, ())))) = some (r.1, ()) := by
    intro n d a b limit r h
    show (pIter (s_slices_pdqsortOrdered_int__0 (recN b_slices_pdqsortOrdered_int_ n)) ((a : Int), ((b : Int), ((limit : Int), (true, (true, (d.toList, ()))))))).bind (fun d136 => some (d136.1, ())) = _
    rw [h]
    rfl
  have b80 : pNot (pEq 8 0) = true := by decide
  fun_induction pdq ltInt d a b limit wb wp
  case case1 d a b limit wb wp h12 =>
    intro hab hb hs hlim hB
    refine ⟨0, fun n _ => pIter_inr ?_⟩
    have eba : pSub .i64 (b : Int) (a : Int) = ((b - a : Nat) : Int) := subN (by omega) (by omega)
    have x1 : pLe ((b - a : Nat) : Int) 12 = true := by simp [pLe]; omega
    unfold s_slices_pdqsortOrdered_int__0
    simp only [eba, x1, if_true, insertion_eq a b d hb (by omega) hab, pBind, Option.bind_some]
  case case2 d a b wb wp h12 =>
    intro hab hb hs hlim hB
    refine ⟨0, fun n _ => pIter_inr ?_⟩
    have eba : pSub .i64 (b : Int) (a : Int) = ((b - a : Nat) : Int) := subN (by omega) (by omega)
    have x1 : pLe ((b - a : Nat) : Int) 12 = false := by simp [pLe]; omega
    have x2 : pEq ((0 : Nat) : Int) 0 = true := by decide
    unfold s_slices_pdqsortOrdered_int__0
    simp only [eba, x1, x2, if_true, Bool.false_eq_true, if_false, heapSort_eq a b d (by omega) hb (by omega), pBind, Option.bind_some]
  case case3 d a b limit0 wb wp h12 hl d1 c d2 hint pi hpi2 =>
    intro hab hb hs hlim hB
    have s1 : PermIn a b d d1 := step_break d hab hb _
    have b1 : b ≤ d1.size := by rw [s1.1]; exact hb
    have s2 : PermIn a b d1 d2 := step_reverse reverseRange_holds d1 hab b1 _
    have b2 : b ≤ d2.size := by rw [s2.1]; exact b1
    have B2 : Below ltInt a b d2 := (hB.perm hb s1).perm b1 s2
    have s3 := step_partial partialInsertionSort_holds swo_ltInt d2 (a := a) (b := b) (by omega) b2 B2 ((wb && wp && decide (hint = Hint.increasing)) = true)
    have hc0 := choosePivot_holds ltInt d1 a b (by omega)
    refine ⟨0, fun n _ => pIter_inr ?_⟩
    rw [pdq_pre _ a b limit0 wb wp d h12 hl hb hs hlim d1 _ c d2 _ hint pi rfl rfl rfl rfl rfl rfl rfl s1.1 (s2.1.trans s1.1) ((s3.1.1).trans (s2.1.trans s1.1)) (pivot_range hc0.1 hc0.2 _) hc0, if_pos hpi2]
  case case4 d a b limit0 wb wp h12 hl d1 limit c d2 pivot hint pi hpi2 d3 hc mid d4 hx hg ih1 =>
    intro hab hb hs hlim hB
    have s1 : PermIn a b d d1 := step_break d hab hb _
    have b1 : b ≤ d1.size := by rw [s1.1]; exact hb
    have s2 : PermIn a b d1 d2 := step_reverse reverseRange_holds d1 hab b1 _
    have b2 : b ≤ d2.size := by rw [s2.1]; exact b1
    have B2 : Below ltInt a b d2 := (hB.perm hb s1).perm b1 s2
    have s3 := step_partial partialInsertionSort_holds swo_ltInt d2 (a := a) (b := b) (by omega) b2 B2 ((wb && wp && decide (hint = Hint.increasing)) = true)
    have s3' : PermIn a b d2 d3 := s3.1
    have b3 : b ≤ d3.size := by rw [s3'.1]; exact b2
    have B3 : Below ltInt a b d3 := B2.perm b2 s3'
    have hc0 := choosePivot_holds ltInt d1 a b (by omega)
    have hpv : a ≤ pivot ∧ pivot < b := pivot_range hc0.1 hc0.2 _
    have z3 : d3.size = d.size := (s3'.1).trans (s2.1.trans s1.1)
    have hpre := fun self => pdq_pre self a b limit0 wb wp d h12 hl hb hs hlim d1 limit c d2 pivot hint pi rfl rfl rfl rfl rfl rfl rfl s1.1 (s2.1.trans s1.1) z3 hpv hc0
    have hc' := hc
    simp only [Bool.and_eq_true, decide_eq_true_eq, Bool.not_eq_true'] at hc'
    obtain ⟨_, hm2, hs4, hB4, hfin⟩ := round_eq swo_ltInt (partitionEqual_holds ltInt) hc'.1 hpv.1 hpv.2 b3 B3 hc'.2 hx
    have hlim2 : limit < 2 ^ 60 := by show (if (!wb) = true then limit0 - 1 else limit0) < 2 ^ 60; split <;> omega
    obtain ⟨N, hN⟩ := ih1 hm2 (by rw [hs4]; exact b3) (by omega) hlim2 hB4
    have hpe := partitionEqual_eq a b pivot d3 hpv.1 hpv.2 b3 (by omega)
    rw [hx] at hpe
    refine ⟨N, fun n hn => ?_⟩
    rw [← hN n hn]
    refine pIter_inl ?_
    rw [hpre, if_neg hpi2, if_pos hc, hpe]
    rfl
  case case5 d a b limit0 wb wp h12 hl d1 c d2 pivot hint pi hpi2 d3 hc mid d4 hx hg =>
    intro hab hb hs hlim hB
    have s1 : PermIn a b d d1 := step_break d hab hb _
    have b1 : b ≤ d1.size := by rw [s1.1]; exact hb
    have s2 : PermIn a b d1 d2 := step_reverse reverseRange_holds d1 hab b1 _
    have b2 : b ≤ d2.size := by rw [s2.1]; exact b1
    have B2 : Below ltInt a b d2 := (hB.perm hb s1).perm b1 s2
    have s3 := step_partial partialInsertionSort_holds swo_ltInt d2 (a := a) (b := b) (by omega) b2 B2 ((wb && wp && decide (hint = Hint.increasing)) = true)
    have s3' : PermIn a b d2 d3 := s3.1
    have b3 : b ≤ d3.size := by rw [s3'.1]; exact b2
    have B3 : Below ltInt a b d3 := B2.perm b2 s3'
    have hc0 := choosePivot_holds ltInt d1 a b (by omega)
    have hpv : a ≤ pivot ∧ pivot < b := pivot_range hc0.1 hc0.2 _
    simp only [Bool.and_eq_true, decide_eq_true_eq, Bool.not_eq_true'] at hc
    obtain ⟨g1, g2, _⟩ := round_eq swo_ltInt (partitionEqual_holds ltInt) hc.1 hpv.1 hpv.2 b3 B3 hc.2 hx
    exact absurd ⟨g1, g2⟩ hg
  case case6 d a b limit0 wb wp h12 hl d1 limit c d2 pivot hint pi hpi2 d3 hc mid ap d4 hx hg hlt ih3 ih2 ih1 =>
    intro hab hb hs hlim hB
    have s1 : PermIn a b d d1 := step_break d hab hb _
    have b1 : b ≤ d1.size := by rw [s1.1]; exact hb
    have s2 : PermIn a b d1 d2 := step_reverse reverseRange_holds d1 hab b1 _
    have b2 : b ≤ d2.size := by rw [s2.1]; exact b1
    have B2 : Below ltInt a b d2 := (hB.perm hb s1).perm b1 s2
    have s3 := step_partial partialInsertionSort_holds swo_ltInt d2 (a := a) (b := b) (by omega) b2 B2 ((wb && wp && decide (hint = Hint.increasing)) = true)
    have s3' : PermIn a b d2 d3 := s3.1
    have b3 : b ≤ d3.size := by rw [s3'.1]; exact b2
    have B3 : Below ltInt a b d3 := B2.perm b2 s3'
    have hc0 := choosePivot_holds ltInt d1 a b (by omega)
    have hpv : a ≤ pivot ∧ pivot < b := pivot_range hc0.1 hc0.2 _
    have z3 : d3.size = d.size := (s3'.1).trans (s2.1.trans s1.1)
    have hpre := fun self => pdq_pre self a b limit0 wb wp d h12 hl hb hs hlim d1 limit c d2 pivot hint pi rfl rfl rfl rfl rfl rfl rfl s1.1 (s2.1.trans s1.1) z3 hpv hc0
    have hlim2 : limit < 2 ^ 60 := by show (if (!wb) = true then limit0 - 1 else limit0) < 2 ^ 60; split <;> omega
    obtain ⟨g1, g2, hs4, hBa, hBr, hleft, _⟩ := round_part swo_ltInt (partition_holds ltInt) hpv.1 hpv.2 b3 B3 hx
    obtain ⟨l1, l2⟩ := pdq_sorts ltInt swo_ltInt d4 a mid limit true true g1 (by rw [hs4]; omega) hBa
    obtain ⟨hBL, hfin⟩ := hleft _ l1 l2
    obtain ⟨N1, hN1⟩ := ih3 g1 (by rw [hs4]; omega) (by rw [hs4]; omega) hlim2 hBa
    obtain ⟨N2, hN2⟩ := ih1 (by omega) (by rw [l1.1, hs4]; exact b3) (by rw [l1.1, hs4]; omega) hlim2 hBL
    have hpt := partition_eq a b pivot d3 hpv.1 hpv.2 b3 (by omega)
    rw [hx] at hpt
    refine ⟨max (N1 + 1) N2, fun n hn => ?_⟩
    rw [← hN2 n (by omega)]
    obtain ⟨m, rfl⟩ : ∃ m, n = m + 1 := ⟨n - 1, by omega⟩
    have hcall := hself m d4 a mid limit _ (hN1 m (by omega))
    refine pIter_inl ?_
    have y1 : pSub .i64 (mid : Int) (a : Int) = ((mid - a : Nat) : Int) := subN g1 (by omega)
    have y2 : pSub .i64 (b : Int) (mid : Int) = ((b - mid : Nat) : Int) := subN (by omega) (by omega)
    have y3 : pLt ((mid - a : Nat) : Int) ((b - mid : Nat) : Int) = true := by rw [ltN]; simp; omega
    have y4 : pSub .i64 (b : Int) (a : Int) = ((b - a : Nat) : Int) := subN (by omega) (by omega)
    have y5 : pQuo .i64 ((b - a : Nat) : Int) 8 = (((b - a) / 8 : Nat) : Int) := by rw [show (8 : Int) = ((8 : Nat) : Int) from rfl, quo64 (by omega)]
    have y6 : pLe (((b - a) / 8 : Nat) : Int) ((mid - a : Nat) : Int) = decide (mid - a ≥ (b - a) / 8) := leN
    rw [hpre, if_neg hpi2, if_neg hc, hpt]
    simp only [Option.bind_some, b80, if_true, y1, y2, y3, y4, y5, y6, add1 (n := mid) (by omega)]
    rw [hcall]
    rfl
  case case7 d a b limit0 wb wp h12 hl d1 limit c d2 pivot hint pi hpi2 d3 hc mid ap d4 hx hg hlt ih3 ih2 ih1 =>
    intro hab hb hs hlim hB
    have s1 : PermIn a b d d1 := step_break d hab hb _
    have b1 : b ≤ d1.size := by rw [s1.1]; exact hb
    have s2 : PermIn a b d1 d2 := step_reverse reverseRange_holds d1 hab b1 _
    have b2 : b ≤ d2.size := by rw [s2.1]; exact b1
    have B2 : Below ltInt a b d2 := (hB.perm hb s1).perm b1 s2
    have s3 := step_partial partialInsertionSort_holds swo_ltInt d2 (a := a) (b := b) (by omega) b2 B2 ((wb && wp && decide (hint = Hint.increasing)) = true)
    have s3' : PermIn a b d2 d3 := s3.1
    have b3 : b ≤ d3.size := by rw [s3'.1]; exact b2
    have B3 : Below ltInt a b d3 := B2.perm b2 s3'
    have hc0 := choosePivot_holds ltInt d1 a b (by omega)
    have hpv : a ≤ pivot ∧ pivot < b := pivot_range hc0.1 hc0.2 _
    have z3 : d3.size = d.size := (s3'.1).trans (s2.1.trans s1.1)
    have hpre := fun self => pdq_pre self a b limit0 wb wp d h12 hl hb hs hlim d1 limit c d2 pivot hint pi rfl rfl rfl rfl rfl rfl rfl s1.1 (s2.1.trans s1.1) z3 hpv hc0
    have hlim2 : limit < 2 ^ 60 := by show (if (!wb) = true then limit0 - 1 else limit0) < 2 ^ 60; split <;> omega
    obtain ⟨g1, g2, hs4, hBa, hBr, _, hright⟩ := round_part swo_ltInt (partition_holds ltInt) hpv.1 hpv.2 b3 B3 hx
    obtain ⟨l1, l2⟩ := pdq_sorts ltInt swo_ltInt d4 (mid + 1) b limit true true (by omega) (by rw [hs4]; exact b3) hBr
    obtain ⟨hBL, hfin⟩ := hright _ l1 l2
    obtain ⟨N1, hN1⟩ := ih3 (by omega) (by rw [hs4]; exact b3) (by rw [hs4]; omega) hlim2 hBr
    obtain ⟨N2, hN2⟩ := ih1 g1 (by rw [l1.1, hs4]; omega) (by rw [l1.1, hs4]; omega) hlim2 hBL
    have hpt := partition_eq a b pivot d3 hpv.1 hpv.2 b3 (by omega)
    rw [hx] at hpt
    refine ⟨max (N1 + 1) N2, fun n hn => ?_⟩
    rw [← hN2 n (by omega)]
    obtain ⟨m, rfl⟩ : ∃ m, n = m + 1 := ⟨n - 1, by omega⟩
    have hcall := hself m d4 (mid + 1) b limit _ (hN1 m (by omega))
    refine pIter_inl ?_
    have y1 : pSub .i64 (mid : Int) (a : Int) = ((mid - a : Nat) : Int) := subN g1 (by omega)
    have y2 : pSub .i64 (b : Int) (mid : Int) = ((b - mid : Nat) : Int) := subN (by omega) (by omega)
    have y3 : pLt ((mid - a : Nat) : Int) ((b - mid : Nat) : Int) = false := by rw [ltN]; simp; omega
    have y4 : pSub .i64 (b : Int) (a : Int) = ((b - a : Nat) : Int) := subN (by omega) (by omega)
    have y5 : pQuo .i64 ((b - a : Nat) : Int) 8 = (((b - a) / 8 : Nat) : Int) := by rw [show (8 : Int) = ((8 : Nat) : Int) from rfl, quo64 (by omega)]
    have y6 : pLe (((b - a) / 8 : Nat) : Int) ((b - mid : Nat) : Int) = decide (b - mid ≥ (b - a) / 8) := leN
    rw [hpre, if_neg hpi2, if_neg hc, hpt]
    simp only [Option.bind_some, b80, if_true, y1, y2, y3, y4, y5, y6, Bool.false_eq_true, if_false, add1 (n := mid) (by omega)]
    rw [hcall]
    rfl
  case case8 d a b limit0 wb wp h12 hl d1 c d2 pivot hint pi hpi2 d3 hc mid ap d4 hx hg =>
    intro hab hb hs hlim hB
    have s1 : PermIn a b d d1 := step_break d hab hb _
    have b1 : b ≤ d1.size := by rw [s1.1]; exact hb
    have s2 : PermIn a b d1 d2 := step_reverse reverseRange_holds d1 hab b1 _
    have b2 : b ≤ d2.size := by rw [s2.1]; exact b1
    have B2 : Below ltInt a b d2 := (hB.perm hb s1).perm b1 s2
    have s3 := step_partial partialInsertionSort_holds swo_ltInt d2 (a := a) (b := b) (by omega) b2 B2 ((wb && wp && decide (hint = Hint.increasing)) = true)
    have s3' : PermIn a b d2 d3 := s3.1
    have b3 : b ≤ d3.size := by rw [s3'.1]; exact b2
    have B3 : Below ltInt a b d3 := B2.perm b2 s3'
    have hc0 := choosePivot_holds ltInt d1 a b (by omega)
    have hpv : a ≤ pivot ∧ pivot < b := pivot_range hc0.1 hc0.2 _
    obtain ⟨g1, g2, _⟩ := round_part swo_ltInt (partition_holds ltInt) hpv.1 hpv.2 b3 B3 hx
    exact absurd ⟨g1, g2⟩ hg
end Go.Xr.Try
