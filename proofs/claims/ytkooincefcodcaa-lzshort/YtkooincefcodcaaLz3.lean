import Derived.Test.YtkooincefcodcaaLz2
set_option linter.unusedVariables false
set_option linter.unusedSimpArgs false
set_option maxRecDepth 100000
namespace Go.Xr.Try
open Go Go.Xr

/-! ### what is got -/
def copyN : Nat → Nat → List Int → List Int
  | 0, _, out => out
  | n + 1, d, out => copyN n d (out ++ [out.getD (out.length - d) 0])
theorem copyN_len : ∀ (n d : Nat) (out : List Int), (copyN n d out).length = out.length + n
  | 0, _, _ => rfl
  | n + 1, d, out => by
    rw [copyN, copyN_len n d]
    simp; omega
def gN (b : List Int) (p k : Nat) : Nat := (getAcc b p k 0).toNat
theorem getAcc_range (b : List Int) : ∀ (k p : Nat) (acc : Int), 0 ≤ acc → 0 ≤ getAcc b p k acc ∧ getAcc b p k acc < (acc + 1) * 2 ^ k
  | 0, p, acc, h => by simp [getAcc]; omega
  | k + 1, p, acc, h => by
    have hb := bitv_bit b p
    unfold Bit at hb
    obtain ⟨h1, h2⟩ := getAcc_range b k (p + 1) (2 * acc + bitv b p) (by omega)
    refine ⟨h1, ?_⟩
    simp only [getAcc]
    have hp : (0 : Int) < 2 ^ k := Int.pow_pos (by omega)
    have h3 : (2 * acc + bitv b p + 1) * 2 ^ k ≤ (2 * acc + 2) * 2 ^ k := Int.mul_le_mul_of_nonneg_right (by omega) (by omega)
    have h4 : (acc + 1) * 2 ^ (k + 1) = (2 * acc + 2) * 2 ^ k := by
      rw [Int.pow_succ, Int.mul_comm (2 ^ k) 2, ← Int.mul_assoc]
      congr 1
      omega
    omega
theorem gN_spec (b : List Int) (p k : Nat) : getAcc b p k 0 = ((gN b p k : Nat) : Int) ∧ gN b p k < 2 ^ k := by
  obtain ⟨h1, h2⟩ := getAcc_range b k p 0 (by omega)
  unfold gN
  simp only [Int.zero_add, Int.one_mul] at h2
  have h3 : ((2 ^ k : Nat) : Int) = 2 ^ k := by simp
  omega
def piece (b : List Int) (size p : Nat) (out : List Int) : Option (Nat × List Int) :=
  if 8 * b.length < p + 1 then none
  else if gN b p 1 = 0 then (if 8 * b.length < p + 9 then none else some (p + 9, out ++ [((gN b (p + 1) 8 : Nat) : Int)]))
  else if 8 * b.length < p + 21 then none
  else if out.length < gN b (p + 1) 12 + 1 then none
  else if size < out.length + (gN b (p + 13) 8 + 3) then none
  else some (p + 21, copyN (gN b (p + 13) 8 + 3) (gN b (p + 1) 12 + 1) out)
def unp (b : List Int) (size : Nat) : Nat → Nat → List Int → Option (Nat × List Int)
  | 0, p, out => some (p, out)
  | f + 1, p, out => if out.length < size then (match piece b size p out with | none => none | some (q, o) => unp b size f q o) else some (p, out)
def unpackV (b : List Int) : Int × List Int :=
  if 8 * b.length < 16 then (3, [])
  else match unp b (gN b 0 16) (gN b 0 16 + 1) 16 [] with
    | none => (3, [])
    | some (q, out) => if restv b q = 0 then (0, out) else (3, [])
theorem scan_get1 : m_wainscotref1_Scan_Get_1 = m_wainscotref1_Scan_Get := (Eq.refl m_wainscotref1_Scan_Get_1).trans (id rfl)
theorem scan_rest1 : m_wainscotref1_Scan_Rest_1 = m_wainscotref1_Scan_Rest := (Eq.refl m_wainscotref1_Scan_Rest_1).trans (id rfl)
theorem copy_loop {D : Nat} (h1 : 1 ≤ D) (hD : D ≤ 4096) {N : Nat} (hN : N ≤ 300) {y1 y2 : Int × (List Int × (Int × Unit))} : ∀ (k t : Nat) (out : List Int), t + k = N → D ≤ out.length → out.length + k ≤ 1000000 →
    pIter (s_lz_piece_0 (((N - 3 : Nat) : Int), y1) (((D - 1 : Nat) : Int), y2)) ((t : Int), (out, ())) = some (((max N 3 : Nat) : Int), (copyN k D out, ())) ∨ N < 3 := by
  intro k
  induction k with
  | zero =>
    intro t out ht hd hl
    by_cases h3 : N < 3
    · exact .inr h3
    left
    have e1 : pAdd .i64 ((N - 3 : Nat) : Int) 3 = ((N : Nat) : Int) := by rw [add64 (by omega) (by omega)]; omega
    have e2 : pLt (t : Int) (N : Int) = false := decide_eq_false (by omega)
    refine pIter_inr ?_
    unfold s_lz_piece_0
    have e3 : max N 3 = t := by omega
    simp only [e1, e2, Bool.false_eq_true, if_false, e3]
    rfl
  | succ k ih =>
    intro t out ht hd hl
    by_cases h3 : N < 3
    · exact .inr h3
    have e1 : pAdd .i64 ((N - 3 : Nat) : Int) 3 = ((N : Nat) : Int) := by rw [add64 (by omega) (by omega)]; omega
    have e2 : pLt (t : Int) (N : Int) = true := decide_eq_true (by omega)
    have e3 : pAdd .i64 ((D - 1 : Nat) : Int) 1 = ((D : Nat) : Int) := by rw [add64 (by omega) (by omega)]; omega
    have e4 : pSub .i64 (pLen out) (D : Int) = ((out.length - D : Nat) : Int) := by simp only [pLen]; rw [sub64 (by omega) (by omega)]; omega
    have e5 : pIn ((out.length - D : Nat) : Int) (pLen out) = true := decide_eq_true (by simp only [pLen]; omega)
    have e6 : pGet 0 out ((out.length - D : Nat) : Int) = out.getD (out.length - D) 0 := by simp only [pGet, Int.toNat_natCast]
    have e7 : pRoom (pIAdd (pLen out) (pLen [out.getD (out.length - D) 0])) = true := by simp [pRoom, pIAdd, pLen]; omega
    have e8 : pAdd .i64 (t : Int) 1 = ((t + 1 : Nat) : Int) := by rw [add64 (by omega) (by omega)]; omega
    have st : s_lz_piece_0 (((N - 3 : Nat) : Int), y1) (((D - 1 : Nat) : Int), y2) ((t : Int), (out, ())) = some (.inl (((t + 1 : Nat) : Int), (out ++ [out.getD (out.length - D) 0], ()))) := by
      unfold s_lz_piece_0
      simp only [e1, e2, e3, e4, e5, e6, e7, e8, if_true]
    rcases ih (t + 1) (out ++ [out.getD (out.length - D) 0]) (by omega) (by simp; omega) (by simp; omega) with h | h
    · left
      rw [pIter_inl st, h]
      rfl
    · exact .inr h
theorem rcopy_loop {D : Nat} (h1 : 1 ≤ D) (hD : D ≤ 4096) {N : Nat} (h3 : 3 ≤ N) (hN : N ≤ 300) {y1 y2 : Int × (List Int × (Int × Unit))} : ∀ (k t : Nat) (out : List Int), t + k = N → D ≤ out.length → out.length + k ≤ 1000000 →
    pIter (s_wainscotref1_Unpack_0 (((N - 3 : Nat) : Int), y1) (((D - 1 : Nat) : Int), y2)) ((t : Int), (out, ())) = some ((N : Int), (copyN k D out, ())) := by
  intro k
  induction k with
  | zero =>
    intro t out ht hd hl
    have e1 : pAdd .i64 ((N - 3 : Nat) : Int) 3 = ((N : Nat) : Int) := by rw [add64 (by omega) (by omega)]; omega
    have e2 : pLt (t : Int) (N : Int) = false := decide_eq_false (by omega)
    refine pIter_inr ?_
    unfold s_wainscotref1_Unpack_0
    have e3 : N = t := by omega
    simp only [e1, e2, Bool.false_eq_true, if_false]
    rw [e3]
    rfl
  | succ k ih =>
    intro t out ht hd hl
    have e1 : pAdd .i64 ((N - 3 : Nat) : Int) 3 = ((N : Nat) : Int) := by rw [add64 (by omega) (by omega)]; omega
    have e2 : pLt (t : Int) (N : Int) = true := decide_eq_true (by omega)
    have e4 : pSub .i64 (pSub .i64 (pLen out) ((D - 1 : Nat) : Int)) 1 = ((out.length - D : Nat) : Int) := by simp only [pLen]; rw [sub64 (a := (out.length : Int)) (b := ((D - 1 : Nat) : Int)) (by omega) (by omega), sub64 (by omega) (by omega)]; omega
    have e5 : pIn ((out.length - D : Nat) : Int) (pLen out) = true := decide_eq_true (by simp only [pLen]; omega)
    have e6 : pGet 0 out ((out.length - D : Nat) : Int) = out.getD (out.length - D) 0 := by simp only [pGet, Int.toNat_natCast]
    have e7 : pRoom (pIAdd (pLen out) (pLen [out.getD (out.length - D) 0])) = true := by simp [pRoom, pIAdd, pLen]; omega
    have e8 : pAdd .i64 (t : Int) 1 = ((t + 1 : Nat) : Int) := by rw [add64 (by omega) (by omega)]; omega
    have st : s_wainscotref1_Unpack_0 (((N - 3 : Nat) : Int), y1) (((D - 1 : Nat) : Int), y2) ((t : Int), (out, ())) = some (.inl (((t + 1 : Nat) : Int), (out ++ [out.getD (out.length - D) 0], ()))) := by
      unfold s_wainscotref1_Unpack_0
      simp only [e1, e2, e4, e5, e6, e7, e8, if_true]
    rw [pIter_inl st, ih (t + 1) (out ++ [out.getD (out.length - D) 0]) (by omega) (by simp; omega) (by simp; omega)]
    rfl
end Go.Xr.Try
