import Derived.Test.YtkooincefcodcaaBits
import Derived.Test.YtkooincefcodcaaMBitsBytes
set_option linter.unusedVariables false
set_option linter.unusedSimpArgs false
set_option maxRecDepth 100000
namespace Go.Xr.Try
open Go Go.Xr

theorem round_n {x : Int} {n : Nat} (h0 : 0 < n) (h1 : n < 2 ^ 40) : m_wainscotalike_Round x (n : Int) = some (x % (n : Int), ()) := by
  have hr : Int.tmod x (n : Int) = Int.tmod x (n : Int) := rfl
  have hlt : -(n : Int) < Int.tmod x (n : Int) ∧ Int.tmod x (n : Int) < (n : Int) := by
    have h2 : (Int.tmod x (n : Int)).natAbs < n := by
      rw [Int.natAbs_tmod]
      simpa using Nat.mod_lt _ h0
    omega
  have hd : x = (n : Int) * Int.tdiv x (n : Int) + Int.tmod x (n : Int) := (Int.mul_tdiv_add_tmod x n).symm
  have h80 : pNot (pEq (n : Int) 0) = true := by simp [pNot, pEq]; omega
  unfold m_wainscotalike_Round
  simp only [h80, reduceIte, pRem]
  rw [add64 (by omega) (by omega), Int.tmod_eq_emod_of_nonneg (by omega)]
  congr 2
  generalize Int.tmod x (n : Int) = r at *
  generalize Int.tdiv x (n : Int) = q at *
  subst hd
  rw [Int.add_emod_right, Int.add_comm, Int.add_mul_emod_self_left]

theorem byte_bits {x : Int} (h0 : 0 ≤ x) (h1 : x ≤ 255) : byteAt (bitsL x 8) 0 = x := by
  have e : byteAt (bitsL x 8) 0 = x / 2 ^ 7 % 2 * 128 + x / 2 ^ 6 % 2 * 64 + x / 2 ^ 5 % 2 * 32 + x / 2 ^ 4 % 2 * 16 + x / 2 ^ 3 % 2 * 8 + x / 2 ^ 2 % 2 * 4 + x / 2 ^ 1 % 2 * 2 + x / 2 ^ 0 % 2 := rfl
  rw [e]
  omega
theorem getD_app_left {L M : List Int} {k : Nat} (h : k < L.length) : (L ++ M).getD k 0 = L.getD k 0 := by
  rw [List.getD_eq_getElem?_getD, List.getD_eq_getElem?_getD, List.getElem?_append_left h]
theorem getD_app_right {L M : List Int} {k : Nat} : (L ++ M).getD (L.length + k) 0 = M.getD k 0 := by
  rw [List.getD_eq_getElem?_getD, List.getD_eq_getElem?_getD, List.getElem?_append_right (by omega)]
  congr 2
  omega
/-- a whole byte more -/
theorem packs_byte {L : List Int} {q : Nat} (hq : L.length = 8 * q) {x : Int} (h0 : 0 ≤ x) (h1 : x ≤ 255) : packs (L ++ bitsL x 8) = packs L ++ [x] := by
  apply List.ext_getElem?
  intro j
  rw [packs_get, List.getElem?_append, packs_get, packs_len]
  simp only [List.length_append, bitsL_len, hq]
  have e1 : (8 * q + 8 + 7) / 8 = q + 1 := by omega
  have e2 : (8 * q + 7) / 8 = q := by omega
  rw [e1, e2]
  by_cases hj : j < q
  · rw [if_pos (by omega), if_pos hj]
    congr 1
    unfold byteAt
    rw [getD_app_left (by omega), getD_app_left (by omega), getD_app_left (by omega), getD_app_left (by omega), getD_app_left (by omega), getD_app_left (by omega), getD_app_left (by omega), getD_app_left (by omega), if_pos hj]
  · rw [if_neg hj]
    by_cases hj2 : j = q
    · subst hj2
      rw [if_pos (by omega)]
      have hb : byteAt (L ++ bitsL x 8) j = byteAt (bitsL x 8) 0 := by
        have g : ∀ t, (L ++ bitsL x 8).getD (8 * j + t) 0 = (bitsL x 8).getD t 0 := fun t => by rw [← hq]; exact getD_app_right
        have g0 := g 0
        simp only [Nat.add_zero] at g0
        unfold byteAt
        rw [g0, g, g, g, g, g, g, g]
      rw [hb, byte_bits h0 h1]
      simp
    · rw [if_neg (by omega)]
      cases hk : j - q with
      | zero => omega
      | succ m => rfl
/-- one bit at a time -/
theorem bits_loop {a0 : List Int} (ha : Bytes a0) {i : Nat} (hi : i < a0.length) {z : List Int × (Int × (List Int × (Int × Unit)))} : ∀ (j : Nat) {L : List Int}, j ≤ 8 → Bits L → L.length + j ≤ 9000 →
    pIter (s_BitsBytes_0 ((i : Int), z) a0) ((j : Int) - 1, (packs L, ((L.length : Int), ()))) = some (.inr (-1, (packs (L ++ bitsL (a0.getD i 0) j), (((L.length + j : Nat) : Int), ()))))
  | 0, L, _, hL, hl => by
    refine pIter_inr ?_
    unfold s_BitsBytes_0
    have : pLe 0 (((0 : Nat) : Int) - 1) = false := by decide
    simp only [this, reduceIte, Bool.false_eq_true, bitsL, List.append_nil, Nat.add_zero]
    rfl
  | j + 1, L, hj, hL, hl => by
    have e : (((j + 1 : Nat) : Int) - 1) = (j : Int) := by omega
    have hx := ha.get i
    have a1 : pLe 0 (j : Int) = true := decide_eq_true (by omega)
    have a2 : pIn (i : Int) (pLen a0) = true := decide_eq_true (by simp only [pLen]; omega)
    have a3 : pGet 0 a0 (i : Int) = a0.getD i 0 := by simp only [pGet, Int.toNat_natCast]
    have hbit := (bit8' hx.1 hx.2 (s := j) (by omega)).1
    have ih := bits_loop ha hi (z := z) j (L := L ++ [a0.getD i 0 / 2 ^ j % 2]) (by omega) (bits_app1 hL (bit_mod _)) (by simp; omega)
    generalize a0.getD i 0 = x at *
    have hy := bit_mod (x / 2 ^ j)
    have hp : m_bits_Writer_Put (x / 2 ^ j % 2) 1 (packs L) (L.length : Int) = some (0, (packs (L ++ [x / 2 ^ j % 2]), (((L.length + 1 : Nat) : Int), ()))) := by
      unfold Bit at hy
      have hb : ¬ PutBad (x / 2 ^ j % 2) 1 := by
        unfold PutBad
        rintro (h | h | h | h)
        · omega
        · omega
        · omega
        · have e : (2 : Int) ^ Int.toNat 1 = 2 := rfl
          rw [e] at h
          omega
      rw [put_ok (v := x / 2 ^ j % 2) (k := 1) (by omega) hb hL (by omega)]
      have e : bitsL (x / 2 ^ j % 2) (Int.toNat 1) = [x / 2 ^ j % 2] := by
        show [x / 2 ^ j % 2 / 2 ^ 0 % 2] = _
        congr 1
        rw [Int.pow_zero, Int.ediv_one]
        omega
      rw [e]
      rfl
    have hst : s_BitsBytes_0 ((i : Int), z) a0 ((j : Int), (packs L, ((L.length : Int), ()))) = some (.inl ((j : Int) - 1, (packs (L ++ [x / 2 ^ j % 2]), (((L.length + 1 : Nat) : Int), ())))) := by
      have a5 : pNot (pEq 0 0) = false := rfl
      have a6 : pSub .i64 (j : Int) 1 = (j : Int) - 1 := sub64 (by omega) (by omega)
      unfold s_BitsBytes_0
      simp only [a1, a2, a3, a5, a6, hbit, hp, pBind, Option.bind_some, reduceIte, Bool.false_eq_true]
    simp only [List.length_append, List.length_singleton] at ih
    rw [e, pIter_inl hst, ih, bitsL_succ, List.append_assoc]
    simp only [List.singleton_append]
    congr 5
    omega
/-- all bytes ahead of a place, bit by bit -/
def catB (a0 : List Int) : Nat → List Int
  | 0 => []
  | i + 1 => catB a0 i ++ bitsL (a0.getD i 0) 8
theorem catB_bits (a0 : List Int) : ∀ i, Bits (catB a0 i)
  | 0 => bits_nil
  | i + 1 => Bits.app (catB_bits a0 i) (bitsL_bits _ _)
theorem catB_len (a0 : List Int) : ∀ i, (catB a0 i).length = 8 * i
  | 0 => rfl
  | i + 1 => by
    have := catB_len a0 i
    simp [catB, bitsL_len, this]
    omega
theorem catB_packs {a0 : List Int} (ha : Bytes a0) : ∀ i, i ≤ a0.length → packs (catB a0 i) = a0.take i
  | 0, _ => by simp only [catB, List.take_zero]; rfl
  | i + 1, h => by
    have ih := catB_packs ha i (by omega)
    rw [catB, packs_byte (catB_len a0 i) (ha.get i).1 (ha.get i).2, ih, List.take_add_one]
    congr 1
    rw [List.getD_eq_getElem?_getD, List.getElem?_eq_getElem (by omega : i < a0.length)]
    rfl
theorem bytes_step {a0 : List Int} (ha : Bytes a0) (hl : a0.length ≤ 100) {i : Nat} (hi : i < a0.length) :
    s_BitsBytes_1 a0 ((i : Int), (packs (catB a0 i), (((catB a0 i).length : Int), (packs (catB a0 i), (((catB a0 i).length : Int), ()))))) =
      some (.inl (((i + 1 : Nat) : Int), (packs (catB a0 (i + 1)), (((catB a0 (i + 1)).length : Int), (packs (catB a0 (i + 1)), (((catB a0 (i + 1)).length : Int), ())))))) := by
  have hx := ha.get i
  have hc := catB_len a0 i
  have a1 : pLt (i : Int) (pLen a0) = true := decide_eq_true (by simp only [pLen]; omega)
  have a2 : pIn (i : Int) (pLen a0) = true := decide_eq_true (by simp only [pLen]; omega)
  have a3 : pWrap .i64 (pGet 0 a0 (i : Int)) = a0.getD i 0 := by simp only [pGet, Int.toNat_natCast, pWrap]; exact wrap64 (by omega) (by omega)
  have a5 : pNot (pEq 0 0) = false := rfl
  have a7 : pAdd .i64 (i : Int) 1 = ((i + 1 : Nat) : Int) := by rw [add64 (by omega) (by omega)]; omega
  have hb : ¬ PutBad (a0.getD i 0) 8 := by
    unfold PutBad
    rintro (h | h | h | h)
    · omega
    · omega
    · omega
    · have e : (2 : Int) ^ Int.toNat 8 = 256 := rfl
      rw [e] at h
      omega
  have p1 := put_ok (v := a0.getD i 0) (k := 8) (by omega) hb (catB_bits a0 i) (by omega)
  have e1 : catB a0 i ++ bitsL (a0.getD i 0) (Int.toNat 8) = catB a0 (i + 1) := rfl
  have e2 : (catB a0 i).length + Int.toNat 8 = (catB a0 (i + 1)).length := by rw [catB_len, catB_len]; show 8 * i + 8 = _; omega
  rw [e1, e2] at p1
  have l1 := fun z => bits_loop ha hi (z := z) 8 (by omega) (catB_bits a0 i) (by omega)
  have e3 : catB a0 i ++ bitsL (a0.getD i 0) 8 = catB a0 (i + 1) := rfl
  have e4 : (catB a0 i).length + 8 = (catB a0 (i + 1)).length := e2
  rw [e3, e4] at l1
  have e5 : ((8 : Nat) : Int) - 1 = 7 := by decide
  rw [e5] at l1
  unfold s_BitsBytes_1
  simp only [a1, a2, a3, a5, a7, p1, l1, pBind, Option.bind_some, pCase, reduceIte, Bool.false_eq_true]
theorem bytes_loop {a0 : List Int} (ha : Bytes a0) (hl : a0.length ≤ 100) : ∀ (k i : Nat), i + k = a0.length →
    pIter (s_BitsBytes_1 a0) ((i : Int), (packs (catB a0 i), (((catB a0 i).length : Int), (packs (catB a0 i), (((catB a0 i).length : Int), ()))))) =
      some (.inr ((a0.length : Int), (a0, (((8 * a0.length : Nat) : Int), (a0, (((8 * a0.length : Nat) : Int), ()))))))
  | 0, i, h => by
    have e : i = a0.length := by omega
    subst e
    have a1 : pLt (a0.length : Int) (pLen a0) = false := decide_eq_false (by simp only [pLen]; omega)
    refine pIter_inr ?_
    unfold s_BitsBytes_1
    rw [catB_packs ha _ (Nat.le_refl _), List.take_length, catB_len]
    simp only [a1, reduceIte, Bool.false_eq_true]
  | k + 1, i, h => by
    rw [pIter_inl (bytes_step ha hl (by omega))]
    exact bytes_loop ha hl k (i + 1) (by omega)
theorem BitsBytes_true {a0 : List Int} {a1 : Int} (ha : Bytes a0) : BitsBytes_m a0 a1 = some true := by
  unfold BitsBytes_m
  by_cases c0 : 100 < a0.length
  · have : pLt 100 (pLen a0) = true := decide_eq_true (by simp only [pLen]; omega)
    simp only [this, awake_ok, pBind, Option.bind_some, reduceIte]
  have b0 : pLt 100 (pLen a0) = false := decide_eq_false (by simp only [pLen]; omega)
  have l1 := bytes_loop ha (by omega) a0.length 0 (by omega)
  have ec : catB a0 0 = [] := by simp only [catB]
  have e0 : packs ([] : List Int) = [] := rfl
  rw [ec, e0] at l1
  simp only [List.length_nil, Int.natCast_zero] at l1
  have r1 := read_ok (p := a0) (by omega)
  have w1 := bytes_ok (p := a0) ((8 * a0.length : Nat) : Int) (by omega)
  have eqs : pNot (pEqS a0 a0) = false := by simp [pNot, pEqS]
  have rd : m_wainscotalike_Round a1 33 = some (a1 % 33, ()) := by rw [show (33 : Int) = ((33 : Nat) : Int) from rfl, round_n (by omega) (by omega)]
  obtain ⟨k, hk⟩ : ∃ k : Nat, a1 % 33 = (k : Int) := Int.eq_ofNat_of_zero_le (by omega)
  have hk2 : k ≤ 32 := by omega
  rw [hk] at rd
  have a8 : pMul .i64 8 (pLen a0) = ((8 * a0.length : Nat) : Int) := by simp only [pLen]; rw [mul64 (by omega) (by omega)]; omega
  unfold m_bits_Reader_Left
  by_cases h : 8 * a0.length < k
  · have g := (get_short (b := a0) (by omega) (n := k) (p := 0) hk2 (by omega) (by omega)).1
    simp only [Int.natCast_zero] at g
    have c1 : pLt ((8 * a0.length : Nat) : Int) (k : Int) = true := decide_eq_true (by omega)
    have c2 : pEq 3 3 = true := rfl
    have c3 : pEq 0 0 = true := rfl
    have c4 : pSub .i64 ((8 * a0.length : Nat) : Int) 0 = ((8 * a0.length : Nat) : Int) := by rw [sub64 (by omega) (by omega)]; omega
    have c5 : pEq ((8 * a0.length : Nat) : Int) ((8 * a0.length : Nat) : Int) = true := by simp [pEq]
    simp only [b0, l1, r1, w1, eqs, rd, g, a8, c1, c2, c3, c4, c5, awake_ok, pBind, Option.bind_some, pCase, pAmb_self, reduceIte, Bool.false_eq_true]
  · have g := (get_ok ha (by omega) (n := k) (p := 0) hk2 (by omega)).1
    simp only [Int.natCast_zero, Nat.zero_add] at g
    have c1 : pLt ((8 * a0.length : Nat) : Int) (k : Int) = false := decide_eq_false (by omega)
    have c3 : pEq 0 0 = true := rfl
    have c5 : pEq (pSub .i64 ((8 * a0.length : Nat) : Int) (k : Int)) (pSub .i64 ((8 * a0.length : Nat) : Int) (k : Int)) = true := by simp [pEq]
    simp only [b0, l1, r1, w1, eqs, rd, g, a8, c1, c3, c5, awake_ok, pBind, Option.bind_some, pCase, pAmb_self, reduceIte, Bool.false_eq_true]
end Go.Xr.Try
