import Derived.Test.YtjidecalfabkbaaM
import Derived.Test.YtjidecalfabkbaaX5
set_option linter.unusedVariables false
set_option linter.unusedSimpArgs false
set_option maxRecDepth 100000
namespace Go.Xr.Try
open Go Go.Xr

/-! pages: their sides, keys, and all of them -/
theorem pIter_count {D X : Type} {step : D → PO (PSum D X)} {F : Nat → D} {n : Nat} {x : X} (h : ∀ i, i < n → step (F i) = some (.inl (F (i + 1)))) (hx : step (F n) = some (.inr x)) : ∀ j i, i + j = n → pIter step (F i) = some x
  | 0, i, e => by rw [show i = n by omega]; exact pIter_inr hx
  | j + 1, i, e => by rw [pIter_inl (h i (by omega))]; exact pIter_count h hx j (i + 1) (by omega)
theorem pIter_val {D X : Type} {step : D → PO (PSum D X)} {d : D} {x : X} (n : Nat) (h : iterN step n d = some x) : pIter step d = some x := pIter_iff.2 ⟨n, h⟩
def sideV (d l : Int) : Int := 2 ^ (d - l).toNat
def aheadV (d l : Int) : Int := (4 ^ (d - l).toNat - 1) / 3
theorem d4 {d : Int} (h0 : 0 ≤ d) (h1 : d ≤ 3) : d = 0 ∨ d = 1 ∨ d = 2 ∨ d = 3 := by omega
theorem side_eq {d l : Int} (h0 : 0 ≤ d) (h1 : d ≤ 3) (hl : -1 ≤ l) (hl2 : l ≤ d) : m_q32 d l = some (sideV d l, ()) := by
  rcases d4 h0 h1 with rfl | rfl | rfl | rfl
  · rcases (show l = -1 ∨ l = 0 by omega) with rfl | rfl <;> decide +kernel
  · rcases (show l = -1 ∨ l = 0 ∨ l = 1 by omega) with rfl | rfl | rfl <;> decide +kernel
  · rcases (show l = -1 ∨ l = 0 ∨ l = 1 ∨ l = 2 by omega) with rfl | rfl | rfl | rfl <;> decide +kernel
  · rcases (show l = -1 ∨ l = 0 ∨ l = 1 ∨ l = 2 ∨ l = 3 by omega) with rfl | rfl | rfl | rfl | rfl <;> decide +kernel
theorem ahead_cl {d l : Int} (h : iterN (s_q30_0 l d) 8 (0, (d, ())) = some (aheadV d l, (l, ()))) : m_q30 d l = some (aheadV d l, ()) := by
  unfold m_q30
  rw [pIter_val 8 h]
  rfl
theorem ahead_eq {d l : Int} (h0 : 0 ≤ d) (h1 : d ≤ 3) (hl : -1 ≤ l) (hl2 : l ≤ d) : m_q30 d l = some (aheadV d l, ()) := by
  refine ahead_cl ?_
  rcases d4 h0 h1 with rfl | rfl | rfl | rfl
  · rcases (show l = -1 ∨ l = 0 by omega) with rfl | rfl <;> decide +kernel
  · rcases (show l = -1 ∨ l = 0 ∨ l = 1 by omega) with rfl | rfl | rfl <;> decide +kernel
  · rcases (show l = -1 ∨ l = 0 ∨ l = 1 ∨ l = 2 by omega) with rfl | rfl | rfl | rfl <;> decide +kernel
  · rcases (show l = -1 ∨ l = 0 ∨ l = 1 ∨ l = 2 ∨ l = 3 by omega) with rfl | rfl | rfl | rfl | rfl <;> decide +kernel
def okD (d : Int) : Bool := decide (0 ≤ d) && decide (d ≤ 3)
theorem depth_eq (d : Int) : m_q31 d = some (okD d, ()) := by
  unfold m_q31 okD
  by_cases h : 0 ≤ d
  · simp [pLe, h, pBind]
  · simp [pLe, h, pBind]
theorem okD_iff {d : Int} : okD d = true ↔ 0 ≤ d ∧ d ≤ 3 := by simp [okD]
/-- a page that is one -/
def okP (d : Int) (p : Int × (Int × Int)) : Bool := okD d && decide (0 ≤ p.1) && decide (p.1 ≤ d) && decide (0 ≤ p.2.1) && decide (p.2.1 < sideV d p.1) && decide (0 ≤ p.2.2) && decide (p.2.2 < sideV d p.1)
theorem valid_eq (d : Int) (p : Int × (Int × Int)) : m_q29 d p = some (okP d p, ()) := by
  unfold m_q29 okP
  rw [depth_eq]
  cases hd : okD d with
  | false => simp [pBind, pNot]
  | true =>
    obtain ⟨h0, h1⟩ := okD_iff.1 hd
    simp only [pBind, Option.bind_some, pNot, Bool.not_true, Bool.false_eq_true, if_false, Bool.true_and]
    by_cases a : p.1 < 0
    · have : ¬ 0 ≤ p.1 := by omega
      simp [pLt, a, this]
    · by_cases b : d < p.1
      · have : ¬ p.1 ≤ d := by omega
        simp [pLt, a, b, this]
      · rw [side_eq h0 h1 (by omega) (by omega)]
        have a' : 0 ≤ p.1 := by omega
        have b' : p.1 ≤ d := by omega
        simp only [pLt, pLe, a, b, a', b', decide_false, decide_true, Bool.false_eq_true, if_false, Option.bind_some, Bool.true_and]
        by_cases e1 : 0 ≤ p.2.1
        · by_cases e2 : p.2.1 < sideV d p.1
          · by_cases e3 : 0 ≤ p.2.2
            · simp [e1, e2, e3]
            · simp [e1, e2, e3]
          · simp [e1, e2]
        · simp [e1]
theorem sideV_le {d l : Int} (h1 : d ≤ 3) (hl : 0 ≤ l) : 1 ≤ sideV d l ∧ sideV d l ≤ 8 := by
  unfold sideV
  have : (d - l).toNat ≤ 3 := by omega
  generalize (d - l).toNat = n at *
  rcases (show n = 0 ∨ n = 1 ∨ n = 2 ∨ n = 3 by omega) with rfl | rfl | rfl | rfl <;> decide
theorem aheadV_le {d l : Int} (h1 : d ≤ 3) (hl : -1 ≤ l) : 0 ≤ aheadV d l ∧ aheadV d l ≤ 85 := by
  unfold aheadV
  have : (d - l).toNat ≤ 4 := by omega
  generalize (d - l).toNat = n at *
  rcases (show n = 0 ∨ n = 1 ∨ n = 2 ∨ n = 3 ∨ n = 4 by omega) with rfl | rfl | rfl | rfl | rfl <;> decide
def keyV (d : Int) (p : Int × (Int × Int)) : Int := if okP d p then aheadV d p.1 + p.2.2 * sideV d p.1 + p.2.1 else -1
theorem okP_iff {d : Int} {p : Int × (Int × Int)} : okP d p = true ↔ (0 ≤ d ∧ d ≤ 3) ∧ 0 ≤ p.1 ∧ p.1 ≤ d ∧ 0 ≤ p.2.1 ∧ p.2.1 < sideV d p.1 ∧ 0 ≤ p.2.2 ∧ p.2.2 < sideV d p.1 := by
  simp only [okP, Bool.and_eq_true, decide_eq_true_eq, okD_iff]
  constructor
  · rintro ⟨⟨⟨⟨⟨⟨h, a⟩, b⟩, c⟩, e⟩, f⟩, g⟩; exact ⟨h, a, b, c, e, f, g⟩
  · rintro ⟨h, a, b, c, e, f, g⟩; exact ⟨⟨⟨⟨⟨⟨h, a⟩, b⟩, c⟩, e⟩, f⟩, g⟩
theorem key_eq (d : Int) (p : Int × (Int × Int)) : m_q28 d p = some (keyV d p, ()) := by
  unfold m_q28 keyV
  rw [valid_eq]
  cases hp : okP d p with
  | false => simp [pBind, pNot]
  | true =>
    obtain ⟨⟨h0, h1⟩, a, b, c, e, f, g⟩ := okP_iff.1 hp
    have s1 := sideV_le (d := d) (l := p.1) h1 a
    have s2 := aheadV_le (d := d) (l := p.1) h1 (by omega)
    have m1 : 0 ≤ p.2.2 * sideV d p.1 := Int.mul_nonneg f (by omega)
    have m2 : p.2.2 * sideV d p.1 ≤ 8 * 8 := Int.mul_le_mul (by omega) (by omega) (by omega) (by omega)
    simp only [pBind, Option.bind_some, pNot, Bool.not_true, Bool.false_eq_true, if_false, if_true]
    rw [ahead_eq h0 h1 (by omega) b, side_eq h0 h1 (by omega) b]
    simp only [Option.bind_some]
    have e1 : pAdd .i64 (aheadV d p.1) (p.2.2 * sideV d p.1) = aheadV d p.1 + p.2.2 * sideV d p.1 := add64 (by omega) (by omega)
    rw [mul64 (by omega) (by omega), e1, add64 (by omega) (by omega)]
theorem count_eq (d : Int) : m_q27 d = some (if okD d then aheadV d (-1) else 0, ()) := by
  unfold m_q27
  rw [depth_eq]
  cases hd : okD d with
  | false => simp [pBind, pNot]
  | true =>
    obtain ⟨h0, h1⟩ := okD_iff.1 hd
    simp only [pBind, Option.bind_some, pNot, Bool.not_true, Bool.false_eq_true, if_false, if_true]
    rw [ahead_eq h0 h1 (by omega) (by omega)]
    rfl
theorem count_pos {d : Int} (h0 : 0 ≤ d) (h1 : d ≤ 3) : 0 < aheadV d (-1) := by
  rcases d4 h0 h1 with rfl | rfl | rfl | rfl <;> decide
end Go.Xr.Try
