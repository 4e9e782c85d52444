import Derived.Test.YtkooincefcodcaaBits
import Derived.Test.YtkooincefcodcaaMBitsBack
set_option linter.unusedVariables false
set_option linter.unusedSimpArgs false
set_option maxRecDepth 100000
namespace Go.Xr.Try
open Go Go.Xr

theorem round_ok {x : Int} {n : Nat} (h0 : 0 < n) (h1 : n < 2 ^ 40) : m_wainscotalike_Round x (n : Int) = some (x % (n : Int), ()) := by
  have hr : Int.tmod x (n : Int) = Int.tmod x (n : Int) := rfl
  have hlt : -(n : Int) < Int.tmod x (n : Int) ∧ Int.tmod x (n : Int) < (n : Int) := by
    have h2 : (Int.tmod x (n : Int)).natAbs < n := by
      rw [Int.natAbs_tmod]
      simpa using Nat.mod_lt _ h0
    omega
  have hd : x = (n : Int) * Int.tdiv x (n : Int) + Int.tmod x (n : Int) := (Int.mul_tdiv_add_tmod x n).symm
  have h80 : pNot (pEq (n : Int) 0) = true := by simp [pNot, pEq]; omega
  unfold m_wainscotalike_Round
  simp only [h80, reduceIte, pRem]
  rw [add64 (by omega) (by omega), Int.tmod_eq_emod_of_nonneg (by omega)]
  congr 2
  generalize Int.tmod x (n : Int) = r at *
  generalize Int.tdiv x (n : Int) = q at *
  subst hd
  rw [Int.add_emod_right, Int.add_comm, Int.add_mul_emod_self_left]
theorem Bit_le {x : Int} (h : Bit x) : 0 ≤ x ∧ x ≤ 1 := by unfold Bit at h; omega
theorem bitv_packs {L : List Int} (h : Bits L) {j : Nat} (hj : j < L.length) : bitv (packs L) j = L.getD j 0 := by
  have hget : (packs L).getD (j / 8) 0 = byteAt L (j / 8) := by
    rw [List.getD_eq_getElem?_getD, packs_get, if_pos (by omega)]
    rfl
  unfold bitv
  rw [hget]
  have g0 := Bit_le (h.get (8 * (j / 8)))
  have g1 := Bit_le (h.get (8 * (j / 8) + 1))
  have g2 := Bit_le (h.get (8 * (j / 8) + 2))
  have g3 := Bit_le (h.get (8 * (j / 8) + 3))
  have g4 := Bit_le (h.get (8 * (j / 8) + 4))
  have g5 := Bit_le (h.get (8 * (j / 8) + 5))
  have g6 := Bit_le (h.get (8 * (j / 8) + 6))
  have g7 := Bit_le (h.get (8 * (j / 8) + 7))
  have ht : j % 8 = 0 ∨ j % 8 = 1 ∨ j % 8 = 2 ∨ j % 8 = 3 ∨ j % 8 = 4 ∨ j % 8 = 5 ∨ j % 8 = 6 ∨ j % 8 = 7 := by omega
  have hx : L.getD (8 * (j / 8) + j % 8) 0 = L.getD j 0 := by rw [show 8 * (j / 8) + j % 8 = j by omega]
  rw [← hx]
  unfold byteAt
  clear hget hx
  generalize j % 8 = t at *
  rcases ht with rfl | rfl | rfl | rfl | rfl | rfl | rfl | rfl <;>
  · try simp only [Nat.add_zero]
    generalize L.getD (8 * (j / 8)) 0 = x0 at *
    generalize L.getD (8 * (j / 8) + 1) 0 = x1 at *
    generalize L.getD (8 * (j / 8) + 2) 0 = x2 at *
    generalize L.getD (8 * (j / 8) + 3) 0 = x3 at *
    generalize L.getD (8 * (j / 8) + 4) 0 = x4 at *
    generalize L.getD (8 * (j / 8) + 5) 0 = x5 at *
    generalize L.getD (8 * (j / 8) + 6) 0 = x6 at *
    generalize L.getD (8 * (j / 8) + 7) 0 = x7 at *
    simp
    try omega
theorem mod_double (v P : Int) (hP : 0 < P) : v % (2 * P) = v / P % 2 * P + v % P := by
  have e1 := Int.mul_ediv_add_emod v P
  have e2 := Int.mul_ediv_add_emod (v / P) 2
  have h1 := Int.emod_nonneg v (by omega : P ≠ 0)
  have h2 := Int.emod_lt_of_pos v hP
  have h3 : v / P % 2 = 0 ∨ v / P % 2 = 1 := by omega
  generalize v % P = r at *
  generalize v / P = q at *
  generalize q / 2 = q2 at *
  generalize q % 2 = b at *
  subst e2
  subst e1
  have e3 : P * (2 * q2 + b) + r = (b * P + r) + 2 * P * q2 := by
    rw [Int.mul_add, Int.mul_comm P b]
    have : P * (2 * q2) = 2 * P * q2 := by rw [← Int.mul_assoc, Int.mul_comm P 2]
    omega
  rw [e3, Int.add_mul_emod_self_left]
  refine Int.emod_eq_of_lt ?_ ?_ <;> rcases h3 with rfl | rfl <;> omega
theorem getAcc_val {b : List Int} {v : Int} : ∀ (k p : Nat) (acc : Int), (∀ t, t < k → bitv b (p + t) = (bitsL v k).getD t 0) → getAcc b p k acc = acc * 2 ^ k + v % 2 ^ k
  | 0, p, acc, _ => by simp [getAcc, Int.emod_one]
  | k + 1, p, acc, h => by
    have h0 := h 0 (by omega)
    simp only [Nat.add_zero] at h0
    have e0 : (bitsL v (k + 1)).getD 0 0 = v / 2 ^ k % 2 := rfl
    rw [e0] at h0
    have ih := getAcc_val (b := b) (v := v) k (p + 1) (2 * acc + bitv b p) fun t ht => by
      have := h (t + 1) (by omega)
      rw [show p + (t + 1) = p + 1 + t by omega] at this
      rw [this]
      rfl
    simp only [getAcc]
    rw [ih, h0, Int.pow_succ, Int.mul_comm (2 ^ k) 2, mod_double v (2 ^ k) (Int.pow_pos (by omega)), Int.add_mul]
    have : 2 * acc * 2 ^ k = acc * (2 * 2 ^ k) := by rw [Int.mul_comm 2 acc, Int.mul_assoc]
    omega
section
variable (a0 : List (List Int))
/-- a size, a number, and all bits of those ahead -/
def kk (i : Nat) : Nat := (pGet 0 (pGet (pZero 2 0) a0 (i : Int)) 1 % 33).toNat
def vv (i : Nat) : Int := pGet 0 (pGet (pZero 2 0) a0 (i : Int)) 0 % ((2 ^ kk a0 i : Nat) : Int)
def cat : Nat → List Int
  | 0 => []
  | i + 1 => cat i ++ bitsL (vv a0 i) (kk a0 i)
theorem kk_le (i : Nat) : kk a0 i ≤ 32 := by unfold kk; omega
theorem vv_lt (i : Nat) : 0 ≤ vv a0 i ∧ vv a0 i < 2 ^ kk a0 i := by
  have hp : 0 < 2 ^ kk a0 i := Nat.two_pow_pos _
  have e : ((2 ^ kk a0 i : Nat) : Int) = 2 ^ kk a0 i := by simp
  unfold vv
  constructor
  · exact Int.emod_nonneg _ (by omega)
  · rw [← e]
    exact Int.emod_lt_of_pos _ (by omega)
theorem cat_bits : ∀ i, Bits (cat a0 i)
  | 0 => bits_nil
  | i + 1 => Bits.app (cat_bits i) (bitsL_bits _ _)
theorem cat_len : ∀ i, (cat a0 i).length ≤ 32 * i
  | 0 => by simp [cat]
  | i + 1 => by
    have := cat_len i
    have := kk_le a0 i
    simp [cat, bitsL_len]
    omega
theorem cat_more (i : Nat) : ∀ d, ∃ M, cat a0 (i + d) = cat a0 i ++ M
  | 0 => ⟨[], by simp⟩
  | d + 1 => by
    obtain ⟨M, h⟩ := cat_more i d
    exact ⟨M ++ bitsL (vv a0 (i + d)) (kk a0 (i + d)), by rw [← Nat.add_assoc, cat, h, List.append_assoc]⟩
variable {a0}
theorem rounds (i : Nat) : m_wainscotalike_Round (pGet 0 (pGet (pZero 2 0) a0 (i : Int)) 1) 33 = some ((kk a0 i : Int), ()) ∧
    m_wainscotalike_Round (pGet 0 (pGet (pZero 2 0) a0 (i : Int)) 0) (pShl .i64 1 (kk a0 i : Int)) = some (vv a0 i, ()) := by
  have hk := kk_le a0 i
  constructor
  · rw [show (33 : Int) = ((33 : Nat) : Int) from rfl, round_ok (by omega) (by omega)]
    unfold kk
    congr 2
    omega
  · have hp : 2 ^ kk a0 i ≤ 2 ^ 32 := Nat.pow_le_pow_right (by omega) hk
    have hs : pShl .i64 1 (kk a0 i : Int) = ((2 ^ kk a0 i : Nat) : Int) := by
      simp only [pShl, IntKind.bits, Int.toNat_natCast]
      rw [Nat.min_eq_left (by omega), Int.one_mul]
      have e : ((2 ^ kk a0 i : Nat) : Int) = 2 ^ kk a0 i := by simp
      rw [← e]
      have key : ∀ P : Nat, P ≤ 2 ^ 32 → IntKind.wrap .i64 (P : Int) = (P : Int) := fun P hP => wrap64 (by omega) (by omega)
      exact key _ hp
    rw [hs, round_ok (Nat.two_pow_pos _) (by omega)]
    rfl
theorem back_step {i : Nat} (hi : i < a0.length) (hl : a0.length ≤ 80) :
    s_BitsBack_0 a0 (((cat a0 i).length : Int), ((i : Int), (packs (cat a0 i), (((cat a0 i).length : Int), ())))) = some (.inl (((cat a0 (i + 1)).length : Int), (((i + 1 : Nat) : Int), (packs (cat a0 (i + 1)), (((cat a0 (i + 1)).length : Int), ()))))) := by
  obtain ⟨r1, r2⟩ := rounds (a0 := a0) i
  have hk := kk_le a0 i
  have hv := vv_lt a0 i
  have hc := cat_len a0 i
  have hp : (2 : Int) ^ kk a0 i ≤ 2 ^ 32 := by
    have : 2 ^ kk a0 i ≤ 2 ^ 32 := Nat.pow_le_pow_right (by omega) hk
    have e : ((2 ^ kk a0 i : Nat) : Int) = 2 ^ kk a0 i := by simp
    omega
  have hb : ¬ PutBad (vv a0 i) (kk a0 i : Int) := by
    unfold PutBad
    rintro (h | h | h | h)
    · omega
    · omega
    · omega
    · rw [Int.toNat_natCast, Int.ediv_eq_zero_of_lt hv.1 hv.2] at h
      omega
  have p1 := put_ok (v := vv a0 i) (k := (kk a0 i : Int)) (by omega) hb (cat_bits a0 i) (by omega)
  simp only [Int.toNat_natCast] at p1
  have e1 : cat a0 i ++ bitsL (vv a0 i) (kk a0 i) = cat a0 (i + 1) := rfl
  have e2 : (cat a0 i).length + kk a0 i = (cat a0 (i + 1)).length := by rw [← e1]; simp [bitsL_len]
  rw [e1, e2] at p1
  have a1 : pLt (i : Int) (pLen a0) = true := decide_eq_true (by simp only [pLen]; omega)
  have a2 : pIn (i : Int) (pLen a0) = true := decide_eq_true (by simp only [pLen]; omega)
  have a3 : pIn 0 2 = true := rfl
  have a4 : pIn 1 2 = true := rfl
  have a5 : pLe 0 (kk a0 i : Int) = true := decide_eq_true (by omega)
  have a6 : pNot (pEq 0 0) = false := rfl
  have a7 : pAdd .i64 (i : Int) 1 = ((i + 1 : Nat) : Int) := by rw [add64 (by omega) (by omega)]; omega
  have a8 : pAdd .i64 ((cat a0 i).length : Int) (kk a0 i : Int) = ((cat a0 (i + 1)).length : Int) := by rw [add64 (by omega) (by omega), ← e2]; omega
  unfold s_BitsBack_0
  simp only [a1, a2, a3, a4, a5, a6, a7, a8, r1, r2, p1, pBind, Option.bind_some, reduceIte, Bool.false_eq_true]
theorem back_loop (hl : a0.length ≤ 80) : ∀ (k i : Nat), i + k = a0.length →
    pIter (s_BitsBack_0 a0) (((cat a0 i).length : Int), ((i : Int), (packs (cat a0 i), (((cat a0 i).length : Int), ())))) = some (.inr (((cat a0 a0.length).length : Int), ((a0.length : Int), (packs (cat a0 a0.length), (((cat a0 a0.length).length : Int), ())))))
  | 0, i, h => by
    have e : i = a0.length := by omega
    subst e
    have a1 : pLt (a0.length : Int) (pLen a0) = false := decide_eq_false (by simp only [pLen]; omega)
    refine pIter_inr ?_
    unfold s_BitsBack_0
    simp only [a1, reduceIte, Bool.false_eq_true]
  | k + 1, i, h => by
    rw [pIter_inl (back_step (by omega) hl)]
    exact back_loop hl k (i + 1) (by omega)
theorem read_step {i : Nat} (hi : i < a0.length) (hl : a0.length ≤ 80) :
    s_BitsBack_1 a0 ((i : Int), (packs (cat a0 a0.length), (((cat a0 i).length : Int), ()))) = some (.inl (((i + 1 : Nat) : Int), (packs (cat a0 a0.length), (((cat a0 (i + 1)).length : Int), ())))) := by
  obtain ⟨r1, r2⟩ := rounds (a0 := a0) i
  have hk := kk_le a0 i
  have hv := vv_lt a0 i
  have e1 : cat a0 i ++ bitsL (vv a0 i) (kk a0 i) = cat a0 (i + 1) := rfl
  have e2 : (cat a0 i).length + kk a0 i = (cat a0 (i + 1)).length := by rw [← e1]; simp [bitsL_len]
  obtain ⟨M, hM⟩ := cat_more a0 (i + 1) (a0.length - (i + 1))
  rw [show i + 1 + (a0.length - (i + 1)) = a0.length by omega] at hM
  have hcl := cat_len a0 a0.length
  have hlen : (cat a0 (i + 1)).length ≤ (cat a0 a0.length).length := by rw [hM]; simp
  have hpl := packs_len (cat a0 a0.length)
  have g := (get_ok (packs_bytes (cat_bits a0 a0.length)) (by omega) (n := kk a0 i) (p := (cat a0 i).length) hk (by omega)).1
  have hval : getAcc (packs (cat a0 a0.length)) (cat a0 i).length (kk a0 i) 0 = vv a0 i := by
    rw [getAcc_val (v := vv a0 i)]
    · rw [Int.emod_eq_of_lt hv.1 hv.2]
      omega
    · intro t ht
      rw [bitv_packs (cat_bits a0 a0.length) (by omega), hM, ← e1]
      rw [List.getD_eq_getElem?_getD, List.getD_eq_getElem?_getD, List.getElem?_append_left (by simp [bitsL_len]; omega), List.getElem?_append_right (by omega)]
      congr 2
      omega
  rw [hval, e2] at g
  have a1 : pLt (i : Int) (pLen a0) = true := decide_eq_true (by simp only [pLen]; omega)
  have a2 : pIn (i : Int) (pLen a0) = true := decide_eq_true (by simp only [pLen]; omega)
  have a3 : pIn 0 2 = true := rfl
  have a4 : pIn 1 2 = true := rfl
  have a5 : pLe 0 (kk a0 i : Int) = true := decide_eq_true (by omega)
  have a6 : pNot (pEq 0 0) = false := rfl
  have a7 : pAdd .i64 (i : Int) 1 = ((i + 1 : Nat) : Int) := by rw [add64 (by omega) (by omega)]; omega
  have a8 : pNot (pEq (vv a0 i) (vv a0 i)) = false := by simp [pNot, pEq]
  unfold s_BitsBack_1
  simp only [a1, a2, a3, a4, a5, a6, a7, a8, r1, r2, g, pBind, Option.bind_some, reduceIte, Bool.false_eq_true]
theorem read_loop (hl : a0.length ≤ 80) : ∀ (k i : Nat), i + k = a0.length →
    pIter (s_BitsBack_1 a0) ((i : Int), (packs (cat a0 a0.length), (((cat a0 i).length : Int), ()))) = some (.inr ((a0.length : Int), (packs (cat a0 a0.length), (((cat a0 a0.length).length : Int), ()))))
  | 0, i, h => by
    have e : i = a0.length := by omega
    subst e
    have a1 : pLt (a0.length : Int) (pLen a0) = false := decide_eq_false (by simp only [pLen]; omega)
    refine pIter_inr ?_
    unfold s_BitsBack_1
    simp only [a1, reduceIte, Bool.false_eq_true]
  | k + 1, i, h => by
    rw [pIter_inl (read_step (by omega) hl)]
    exact read_loop hl k (i + 1) (by omega)
end
/-- behind the last bit there are noughts -/
theorem rest_packs {L : List Int} (h : Bits L) : restv (packs L) L.length = 0 := by
  have hl := packs_len L
  unfold restv
  rw [if_neg (by omega)]
  by_cases hz : L.length = 0
  · rw [hl, hz]
    simp
  have hget : (packs L).getD ((packs L).length - 1) 0 = byteAt L ((packs L).length - 1) := by
    rw [List.getD_eq_getElem?_getD, packs_get, if_pos (by omega)]
    rfl
  rw [hget]
  generalize hq : (packs L).length - 1 = q at *
  have g0 := Bit_le (h.get (8 * q))
  have g1 := Bit_le (h.get (8 * q + 1))
  have g2 := Bit_le (h.get (8 * q + 2))
  have g3 := Bit_le (h.get (8 * q + 3))
  have g4 := Bit_le (h.get (8 * q + 4))
  have g5 := Bit_le (h.get (8 * q + 5))
  have g6 := Bit_le (h.get (8 * q + 6))
  have g7 := Bit_le (h.get (8 * q + 7))
  have hout : ∀ t, L.length ≤ 8 * q + t → L.getD (8 * q + t) 0 = 0 := fun t ht => by
    rw [List.getD_eq_getElem?_getD, List.getElem?_eq_none ht]; rfl
  have z1 := hout 1
  have z2 := hout 2
  have z3 := hout 3
  have z4 := hout 4
  have z5 := hout 5
  have z6 := hout 6
  have z7 := hout 7
  have e8 : 8 * (packs L).length = 8 * q + 8 := by omega
  rw [e8]
  have hr : L.length = 8 * q + 1 ∨ L.length = 8 * q + 2 ∨ L.length = 8 * q + 3 ∨ L.length = 8 * q + 4 ∨ L.length = 8 * q + 5 ∨ L.length = 8 * q + 6 ∨ L.length = 8 * q + 7 ∨ L.length = 8 * q + 8 := by omega
  unfold byteAt
  have key : (L.getD (8 * q) 0 * 128 + L.getD (8 * q + 1) 0 * 64 + L.getD (8 * q + 2) 0 * 32 + L.getD (8 * q + 3) 0 * 16 + L.getD (8 * q + 4) 0 * 8 + L.getD (8 * q + 5) 0 * 4 + L.getD (8 * q + 6) 0 * 2 + L.getD (8 * q + 7) 0) % 2 ^ (8 * q + 8 - L.length) = 0 := by
    generalize L.getD (8 * q) 0 = x0 at *
    generalize L.getD (8 * q + 1) 0 = x1 at *
    generalize L.getD (8 * q + 2) 0 = x2 at *
    generalize L.getD (8 * q + 3) 0 = x3 at *
    generalize L.getD (8 * q + 4) 0 = x4 at *
    generalize L.getD (8 * q + 5) 0 = x5 at *
    generalize L.getD (8 * q + 6) 0 = x6 at *
    generalize L.getD (8 * q + 7) 0 = x7 at *
    clear hget hout
    rcases hr with hr | hr | hr | hr | hr | hr | hr | hr <;>
    · rw [hr]
      rw [hr] at z1 z2 z3 z4 z5 z6 z7
      simp only [Nat.add_sub_add_left, Nat.reduceSub]
      omega
  rw [key]
  rfl
theorem BitsBack_true {a0 : List (List Int)} : BitsBack_m a0 = some true := by
  unfold BitsBack_m
  by_cases c0 : 80 < a0.length
  · have : pLt 80 (pLen a0) = true := decide_eq_true (by simp only [pLen]; omega)
    simp only [this, awake_ok, pBind, Option.bind_some, reduceIte]
  have b0 : pLt 80 (pLen a0) = false := decide_eq_false (by simp only [pLen]; omega)
  have l1 := back_loop (a0 := a0) (by omega) a0.length 0 (by omega)
  have l2 := read_loop (a0 := a0) (by omega) a0.length 0 (by omega)
  have ec : cat a0 0 = [] := by simp only [cat]
  have e0 : packs (cat a0 0) = [] := by rw [ec]; rfl
  have e1 : (cat a0 0).length = 0 := by rw [ec]; rfl
  rw [e0, e1] at l1
  rw [e1] at l2
  simp only [Int.natCast_zero] at l1 l2
  have hc := cat_len a0 a0.length
  have hb := cat_bits a0 a0.length
  generalize cat a0 a0.length = L at *
  have hl := packs_len L
  have w1 := bytes_ok (p := packs L) (L.length : Int) (by omega)
  have r1 := read_ok (p := packs L) (by omega)
  have hadd : pAdd .i64 (L.length : Int) 7 = ((L.length + 7 : Nat) : Int) := by rw [add64 (by omega) (by omega)]; omega
  have hq : pQuo .i64 ((L.length + 7 : Nat) : Int) 8 = (((L.length + 7) / 8 : Nat) : Int) := quo64 (b := 8) (by omega)
  have h80 : pNot (pEq 8 0) = true := rfl
  have q1 : pNot (pEq (pLen (packs L)) (((L.length + 7) / 8 : Nat) : Int)) = false := by simp only [pNot, pEq, pLen, hl]; simp
  have q2 : pNot (pEq (L.length : Int) (L.length : Int)) = false := by simp [pNot, pEq]
  have rs := (rest_ok (packs_bytes hb) (by omega) (p := L.length) (by omega)).1
  rw [rest_packs hb] at rs
  have hlf := left_ok (b := packs L) (by omega) (p := (L.length : Int)) (by omega) (by omega)
  have q3 : pLt (leftv (packs L) (L.length : Int)) 8 = true := decide_eq_true (by unfold leftv; omega)
  have q4 : pEq 0 0 = true := rfl
  unfold m_bits_Writer_Len m_bits_Reader_Left
  simp only [b0, l1, l2, w1, r1, hadd, hq, h80, q1, q2, q3, q4, rs, hlf, awake_ok, pBind, Option.bind_some, pCase, reduceIte, Bool.false_eq_true]
end Go.Xr.Try
