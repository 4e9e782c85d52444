import Derived.Test.YtjidecalfabkbaaDawake
set_option linter.unusedVariables false
set_option linter.unusedSimpArgs false
set_option maxRecDepth 100000
namespace Go.Xr.Try
open Go Go.Xr

/-! all pages, as the reference tells them -/
theorem refSide_eq {d l : Int} (h0 : 0 ≤ d) (h1 : d ≤ 3) (hl : -1 ≤ l) (hl2 : l ≤ d) : m_wainscotref8_side d l = some (sideV d l, ()) := side_eq h0 h1 hl hl2
def rowV (l : Int) (y : Int) (n : Nat) : List PG := (List.range n).map fun (x : Nat) => (l, ((x : Int), y))
def levelV (l : Int) (w n : Nat) : List PG := (List.range n).flatMap fun (y : Nat) => rowV l (y : Int) w
def pagesN (k : Nat) (n : Nat) : List PG := (List.range n).flatMap fun (i : Nat) => levelV ((k : Int) - (i : Int)) (2 ^ i) (2 ^ i)
def pagesV (k : Nat) : List PG := pagesN k (k + 1)
theorem rowV_succ (l y : Int) (n : Nat) : rowV l y (n + 1) = rowV l y n ++ [(l, ((n : Int), y))] := by
  simp [rowV, List.range_succ]
theorem levelV_succ (l : Int) (w n : Nat) : levelV l w (n + 1) = levelV l w n ++ rowV l (n : Int) w := by
  simp [levelV, List.range_succ]
theorem pagesN_succ (k n : Nat) : pagesN k (n + 1) = pagesN k n ++ levelV ((k : Int) - (n : Int)) (2 ^ n) (2 ^ n) := by
  simp [pagesN, List.range_succ]
theorem rowV_len (l y : Int) (n : Nat) : (rowV l y n).length = n := by simp [rowV]
theorem levelV_len (l : Int) (w : Nat) : ∀ n, (levelV l w n).length = n * w
  | 0 => by simp [levelV]
  | n + 1 => by rw [levelV_succ, List.length_append, levelV_len l w n, rowV_len, Nat.succ_mul]
theorem side_nat {k i : Nat} : sideV (k : Int) ((k : Int) - (i : Int)) = ((2 ^ i : Nat) : Int) := by
  unfold sideV
  have : ((k : Int) - ((k : Int) - (i : Int))).toNat = i := by omega
  rw [this]
  simp
theorem room_ap {α : Type} {a : List α} {x : α} (h : a.length < 4096) : pRoom (pIAdd (pLen a) (pLen [x])) = true := by
  simp only [pRoom, pIAdd, pLen]
  exact decide_eq_true (by simp; omega)
theorem row_ok {k i : Nat} (hk : k ≤ 3) (hi : i ≤ k) (y : Int) (acc a0 a1 : List PG) (hl : acc.length < 2048) :
    pIter (s_wainscotref8_Pages_0 (k : Int) ((k : Int) - (i : Int), (a0, ())) (y, (a1, ()))) (0, (acc, ())) = some (((2 ^ i : Nat) : Int), (acc ++ rowV ((k : Int) - (i : Int)) y (2 ^ i), ())) := by
  have hs := refSide_eq (d := (k : Int)) (l := (k : Int) - (i : Int)) (by omega) (by omega) (by omega) (by omega)
  rw [side_nat] at hs
  have hp : 2 ^ i ≤ 8 := by
    rcases (show i = 0 ∨ i = 1 ∨ i = 2 ∨ i = 3 by omega) with rfl | rfl | rfl | rfl <;> decide
  have h0 : ((0 : Int), (acc, ())) = ((((0 : Nat) : Int), (acc ++ rowV ((k : Int) - (i : Int)) y 0, ())) : Int × (List PG × Unit)) := by simp [rowV]
  rw [h0]
  refine pIter_count (F := fun j => ((j : Int), (acc ++ rowV ((k : Int) - (i : Int)) y j, ()))) (n := 2 ^ i) (fun j hj => ?_) ?_ (2 ^ i) 0 (by omega)
  · unfold s_wainscotref8_Pages_0
    have e1 : pLt (j : Int) ((2 ^ i : Nat) : Int) = true := decide_eq_true (by omega)
    have e2 : pRoom (pIAdd (pLen (acc ++ rowV ((k : Int) - (i : Int)) y j)) (pLen [((k : Int) - (i : Int), ((j : Int), y))])) = true := room_ap (by rw [List.length_append, rowV_len]; omega)
    have e3 : pAdd .i64 (j : Int) 1 = ((j + 1 : Nat) : Int) := add_one (by omega)
    simp only [hs, pBind, Option.bind_some, e1, if_true, e2, e3, rowV_succ, pApp, List.append_assoc]
  · unfold s_wainscotref8_Pages_0
    have e1 : pLt ((2 ^ i : Nat) : Int) ((2 ^ i : Nat) : Int) = false := decide_eq_false (by omega)
    simp only [hs, pBind, Option.bind_some, e1, Bool.false_eq_true, if_false]
theorem level_ok {k i : Nat} (hk : k ≤ 3) (hi : i ≤ k) (acc a0 : List PG) (hl : acc.length < 1024) :
    pIter (s_wainscotref8_Pages_1 (k : Int) ((k : Int) - (i : Int), (a0, ()))) (0, (acc, ())) = some (((2 ^ i : Nat) : Int), (acc ++ levelV ((k : Int) - (i : Int)) (2 ^ i) (2 ^ i), ())) := by
  have hs := refSide_eq (d := (k : Int)) (l := (k : Int) - (i : Int)) (by omega) (by omega) (by omega) (by omega)
  rw [side_nat] at hs
  have hp : 2 ^ i ≤ 8 := by
    rcases (show i = 0 ∨ i = 1 ∨ i = 2 ∨ i = 3 by omega) with rfl | rfl | rfl | rfl <;> decide
  have h0 : ((0 : Int), (acc, ())) = ((((0 : Nat) : Int), (acc ++ levelV ((k : Int) - (i : Int)) (2 ^ i) 0, ())) : Int × (List PG × Unit)) := by simp [levelV]
  rw [h0]
  refine pIter_count (F := fun j => ((j : Int), (acc ++ levelV ((k : Int) - (i : Int)) (2 ^ i) j, ()))) (n := 2 ^ i) (fun j hj => ?_) ?_ (2 ^ i) 0 (by omega)
  · unfold s_wainscotref8_Pages_1
    have e1 : pLt (j : Int) ((2 ^ i : Nat) : Int) = true := decide_eq_true (by omega)
    have e3 : pAdd .i64 (j : Int) 1 = ((j + 1 : Nat) : Int) := add_one (by omega)
    have hj8 : j * 2 ^ i ≤ 8 * 8 := Nat.mul_le_mul (by omega) hp
    have r := row_ok hk hi (j : Int) (acc ++ levelV ((k : Int) - (i : Int)) (2 ^ i) j) a0 (acc ++ levelV ((k : Int) - (i : Int)) (2 ^ i) j) (by rw [List.length_append, levelV_len]; omega)
    simp only [hs, pBind, Option.bind_some, e1, if_true, r, e3, levelV_succ, List.append_assoc]
  · unfold s_wainscotref8_Pages_1
    have e1 : pLt ((2 ^ i : Nat) : Int) ((2 ^ i : Nat) : Int) = false := decide_eq_false (by omega)
    simp only [hs, pBind, Option.bind_some, e1, Bool.false_eq_true, if_false]
theorem pagesN_len (k : Nat) : ∀ n, n ≤ 4 → (pagesN k n).length ≤ 85
  | 0, _ => by simp [pagesN]
  | 1, _ => by simp [pagesN, levelV_len, List.range_succ]
  | 2, _ => by simp [pagesN, levelV_len, List.range_succ]
  | 3, _ => by simp [pagesN, levelV_len, List.range_succ]
  | 4, _ => by simp [pagesN, levelV_len, List.range_succ]
  | n + 5, h => by omega
theorem pages_eq {k : Nat} (hk : k ≤ 3) : m_wainscotref8_Pages (k : Int) = some (pagesV k, ()) := by
  unfold m_wainscotref8_Pages m_wainscotref8_within
  have e1 : pLe 0 (k : Int) = true := decide_eq_true (by omega)
  have e2 : pLe (k : Int) 3 = true := decide_eq_true (by omega)
  simp only [e1, e2, if_true, pBind, Option.bind_some, pNot, Bool.not_true, Bool.false_eq_true, if_false]
  have h0 : ((k : Int), (([] : List PG), ())) = (((k : Int) - ((0 : Nat) : Int), (pagesN k 0, ())) : Int × (List PG × Unit)) := by simp [pagesN]
  rw [h0]
  have : pIter (s_wainscotref8_Pages_2 (k : Int)) ((k : Int) - ((0 : Nat) : Int), (pagesN k 0, ())) = some ((k : Int) - ((k + 1 : Nat) : Int), (pagesN k (k + 1), ())) := by
    refine pIter_count (F := fun i => ((k : Int) - (i : Int), (pagesN k i, ()))) (n := k + 1) (fun i hi => ?_) ?_ (k + 1) 0 (by omega)
    · unfold s_wainscotref8_Pages_2
      have e3 : pLe 0 ((k : Int) - (i : Int)) = true := decide_eq_true (by omega)
      have e4 : pSub .i64 ((k : Int) - (i : Int)) 1 = (k : Int) - ((i + 1 : Nat) : Int) := by rw [sub64 (by omega) (by omega)]; omega
      have hl := pagesN_len k i (by omega)
      simp only [e3, if_true, level_ok hk (by omega : i ≤ k) (pagesN k i) (pagesN k i) (by omega), pBind, Option.bind_some, e4, pagesN_succ]
    · unfold s_wainscotref8_Pages_2
      have e3 : pLe 0 ((k : Int) - ((k + 1 : Nat) : Int)) = false := decide_eq_false (by omega)
      simp only [e3, Bool.false_eq_true, if_false]
  rw [this]
  rfl
/-- what the law asks of them -/
def goodPages (k : Nat) : Bool := ((pagesV k).all fun p => okP (k : Int) p) && decide ((pagesV k).Nodup) && decide ((pagesV k).head? = some ((k : Int), (0, 0))) && decide ((pagesV k).length = if k = 0 then 1 else if k = 1 then 5 else if k = 2 then 21 else 85)
theorem good_pages {k : Nat} (hk : k ≤ 3) : goodPages k = true := by
  rcases (show k = 0 ∨ k = 1 ∨ k = 2 ∨ k = 3 by omega) with rfl | rfl | rfl | rfl <;> decide +kernel
theorem round_ok {x n : Int} (h0 : 0 < n) (h1 : n < 2 ^ 31) : ∃ k : Nat, m_wainscotalike_Round x n = some ((k : Int), ()) ∧ (k : Int) < n := by
  unfold m_wainscotalike_Round
  have e : pNot (pEq n 0) = true := by simp [pNot, pEq]; omega
  simp only [e, if_true]
  have ha : -n < Int.tmod x n ∧ Int.tmod x n < n := by
    constructor
    · rcases Int.le_total 0 x with hx | hx
      · have := Int.tmod_nonneg n hx; omega
      · have h1 : Int.tmod x n = - Int.tmod (-x) n := by rw [Int.neg_tmod, Int.neg_neg]
        have h2 := Int.tmod_lt_of_pos (-x) h0
        omega
    · exact Int.tmod_lt_of_pos x h0
  have e2 : pAdd .i64 (pRem x n) n = Int.tmod x n + n := add64 (by simp only [pRem]; omega) (by simp only [pRem]; omega)
  rw [e2]
  have h2 : 0 ≤ Int.tmod (Int.tmod x n + n) n := Int.tmod_nonneg _ (by omega)
  have h3 : Int.tmod (Int.tmod x n + n) n < n := Int.tmod_lt_of_pos _ h0
  refine ⟨(Int.tmod (Int.tmod x n + n) n).toNat, ?_, by omega⟩
  simp only [pRem]
  congr 2
  omega
end Go.Xr.Try
