import Derived.Test.YtjidecalfabkbaaDbytes
import Derived.Test.YtjidecalfabkbaaMDirBack
set_option linter.unusedVariables false
set_option linter.unusedSimpArgs false
set_option maxRecDepth 100000
namespace Go.Xr.Try
open Go Go.Xr

/-! a directory's bytes come back -/
theorem take_bytes (d : Int) : ∀ (L : List EN) (j : Nat), (bytesV d L).take (10 * j) = bytesV d (L.take j)
  | [], j => by simp [bytesV]
  | x :: L, 0 => by simp [bytesV]
  | x :: L, j + 1 => by
    have ih := take_bytes d L j
    have e : bytesV d (x :: L) = encE d x ++ bytesV d L := rfl
    have e2 : bytesV d ((x :: L).take (j + 1)) = encE d x ++ bytesV d (L.take j) := rfl
    rw [e, e2, List.take_append, encE_len, show 10 * (j + 1) - 10 = 10 * j by omega, ih, List.take_of_length_le (by rw [encE_len]; omega)]
theorem DirOK.take {d : Int} {L : List EN} (h : DirOK d L) (j : Nat) : DirOK d (L.take j) :=
  ⟨h.hd, fun x hx => h.ok x (List.mem_of_mem_take hx), h.keys.sublist (List.take_sublist j L), h.ap.sublist (List.take_sublist j L)⟩
theorem round_lt {x n : Int} (h0 : 0 < n) (h1 : n < 2 ^ 31) : ∃ k : Nat, m_q67 x n = some ((k : Int), ()) ∧ (k : Int) < n := by
  unfold m_q67
  have e : pNot (pEq n 0) = true := by simp [pNot, pEq]; omega
  simp only [e, if_true]
  have ha : -n < Int.tmod x n ∧ Int.tmod x n < n := by
    constructor
    · rcases Int.le_total 0 x with hx | hx
      · have := Int.tmod_nonneg n hx; omega
      · have h1 : Int.tmod x n = - Int.tmod (-x) n := by rw [Int.neg_tmod, Int.neg_neg]
        have h2 := Int.tmod_lt_of_pos (-x) h0
        omega
    · exact Int.tmod_lt_of_pos x h0
  have e2 : pAdd .i64 (pRem x n) n = Int.tmod x n + n := add64 (by simp only [pRem]; omega) (by simp only [pRem]; omega)
  rw [e2]
  have h2 : 0 ≤ Int.tmod (Int.tmod x n + n) n := Int.tmod_nonneg _ (by omega)
  have h3 : Int.tmod (Int.tmod x n + n) n < n := Int.tmod_lt_of_pos _ h0
  refine ⟨(Int.tmod (Int.tmod x n + n) n).toNat, ?_, by omega⟩
  simp only [pRem]
  congr 2
  omega
theorem lawDirBack (a0 : Int) (a1 : List EN) (a2 : Int) (hs : SumsOK a1) : DirBack_m a0 a1 a2 = some true := by
  unfold DirBack_m
  by_cases h40 : 40 < pLen a1
  · have e : pLt 40 (pLen a1) = true := decide_eq_true h40
    simp only [e, awake_ok, if_true, pBind, Option.bind_some]
  have e40 : pLt 40 (pLen a1) = false := decide_eq_false h40
  have hl : a1.length ≤ 40 := by simp only [pLen] at h40; omega
  simp only [e40, Bool.false_eq_true, if_false]
  rcases new_gives (d := a0) (l := a1) (by omega) with hN | ⟨L, hN, hp, hok⟩
  · have e1 : pNot (pEq 1 0) = true := by decide
    simp only [hN, pBind, Option.bind_some, pCase, e1, if_true, awake_ok]
  have hll : L.length = a1.length := hp.length_eq
  have hsL : SumsOK L := fun x hx => hs x (hp.mem_iff.1 hx)
  have e0 : pNot (pEq 0 0) = false := by decide
  have n0 : pNot true = false := rfl
  have hD : m_q6 a0 (bytesV a0 L) = some (.inr (0, (L, (a0, ())))) := decode_ok (by omega) hok hsL
  have hB := bytes_ok (d := a0) (L := L) (by omega) hok.ok hsL
  have hA := all_ok (L := L) (by omega)
  have hS := same_ok (L := L) (by omega)
  have hbl : (bytesV a0 L).length = 10 * L.length := bytesV_len a0 L
  have e2 : pNot (pEq (pLen (bytesV a0 L)) (pMul .i64 10 (pLen a1))) = false := by
    have : pMul .i64 10 (pLen a1) = 10 * (a1.length : Int) := mul64 (by simp only [pLen]; omega) (by simp only [pLen]; omega)
    rw [this]
    have : pEq (pLen (bytesV a0 L)) (10 * (a1.length : Int)) = true := decide_eq_true (by simp only [pLen]; omega)
    rw [this]; rfl
  have e3 : m_q12 L = some ((L.length : Int), ()) := rfl
  have e4 : pNot (pEq (L.length : Int) (pLen a1)) = false := by
    have : pEq (L.length : Int) (pLen a1) = true := decide_eq_true (by simp only [pLen]; omega)
    rw [this]; rfl
  have e5 : pAdd .i64 (pLen (bytesV a0 L)) 1 = ((bytesV a0 L).length : Int) + 1 := add64 (by simp only [pLen]; omega) (by simp only [pLen]; omega)
  obtain ⟨k, hk, hkl⟩ := round_lt (x := a2) (n := ((bytesV a0 L).length : Int) + 1) (by omega) (by omega)
  have e6 : pPart 0 (k : Int) (pLen (bytesV a0 L)) = true := decide_eq_true (by simp only [pLen]; omega)
  have e7 : pCut (bytesV a0 L) 0 (pISub (k : Int) 0) = (bytesV a0 L).take k := by
    show ((bytesV a0 L).drop 0).take (pISub (k : Int) 0).toNat = _
    rw [List.drop_zero]
    congr 1
  have e8 : pNot (pEq 10 0) = true := by decide
  simp only [hN, pBind, Option.bind_some, pCase, e0, hB, hD, hA, hS, n0, e2, e3, e4, e5, hk, e6, e7, e8, Bool.false_eq_true, if_false, if_true]
  have hr : pRem (k : Int) 10 = ((k % 10 : Nat) : Int) := by
    show Int.tmod _ 10 = _
    rw [Int.tmod_eq_emod_of_nonneg (by omega)]
    omega
  have htl : ((bytesV a0 L).take k).length = k := by rw [List.length_take]; omega
  by_cases h10 : k % 10 = 0
  · obtain ⟨j, rfl⟩ : ∃ j, k = 10 * j := ⟨k / 10, by omega⟩
    have e9 : pNot (pEq (pRem ((10 * j : Nat) : Int) 10) 0) = false := by rw [hr, h10]; rfl
    have hD2 := decode_ok (d := a0) (M := L.take j) (by rw [List.length_take]; omega) (hok.take j) (fun x hx => hsL x (List.mem_of_mem_take hx))
    have hq : pQuo .i64 ((10 * j : Nat) : Int) 10 = (j : Int) := by
      show IntKind.i64.wrap (Int.tdiv ((10 * j : Nat) : Int) 10) = _
      rw [Int.tdiv_eq_ediv_of_nonneg (by omega), wrap64 (by omega) (by omega)]
      omega
    have p1 : pPart 0 (j : Int) (pLen L) = true := decide_eq_true (by simp only [pLen]; omega)
    have c1 : pCut L 0 (pISub (j : Int) 0) = L.take j := by
      show (L.drop 0).take (pISub (j : Int) 0).toNat = _
      rw [List.drop_zero]
      congr 1
    have hA2 := all_ok (L := L.take j) (by rw [List.length_take]; omega)
    have hS2 := same_ok (L := L.take j) (by rw [List.length_take]; omega)
    have q0 : pEq 0 0 = true := by decide
    simp only [take_bytes, hD2, e9, hq, p1, c1, hA2, hS2, q0, awake_ok, Option.bind_some, pCase, Bool.false_eq_true, if_false, if_true]
  · have hd := hok.hd
    have hD2 := decode_bad (d := a0) (b := (bytesV a0 L).take k) hd.1 hd.2 (by rw [htl]; exact h10)
    have e9 : pNot (pEq (pRem (k : Int) 10) 0) = true := by
      rw [hr]
      have : pEq ((k % 10 : Nat) : Int) 0 = false := decide_eq_false (by omega)
      rw [this]; rfl
    have q3 : pEq 3 3 = true := by decide
    simp only [hD2, e9, q3, awake_ok, Option.bind_some, pCase, if_true]
end Go.Xr.Try
