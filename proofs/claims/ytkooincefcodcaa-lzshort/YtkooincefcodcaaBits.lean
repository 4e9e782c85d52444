import Derived.Test.YtkooincefcodcaaX4
import Derived.Test.YtkooincefcodcaaMatch
set_option linter.unusedVariables false
set_option linter.unusedSimpArgs false
set_option maxRecDepth 100000
namespace Go.Xr.Try
open Go Go.Xr

/-- the bits of a number, highest first -/
def bitsL (v : Int) : Nat → List Int
  | 0 => []
  | j + 1 => v / 2 ^ j % 2 :: bitsL v j
theorem bitsL_len (v : Int) : ∀ j, (bitsL v j).length = j
  | 0 => rfl
  | j + 1 => by simp [bitsL, bitsL_len v j]
theorem bit_mod (v : Int) : Bit (v % 2) := by unfold Bit; omega
theorem bitsL_bits (v : Int) : ∀ j, Bits (bitsL v j)
  | 0 => fun x hx => by cases hx
  | j + 1 => fun x hx => by
    rcases List.mem_cons.1 hx with rfl | hx
    · exact bit_mod _
    · exact bitsL_bits v j x hx
theorem bit_expr {v : Int} (h0 : 0 ≤ v) (h1 : v < 2 ^ 63) (j : Nat) : pWrap .u8 (pAnd .i64 (pShr .i64 v (j : Int)) 1) = v / 2 ^ j % 2 := by
  rw [shr64 h0 h1]
  have hp : (0 : Int) < 2 ^ j := Int.pow_pos (by omega)
  have a0 : 0 ≤ v / 2 ^ j := Int.ediv_nonneg h0 (by omega)
  have a1 : v / 2 ^ j ≤ v := Int.ediv_le_self _ h0
  rw [and1_64 a0 (by omega)]
  exact wrap8 (by omega) (by omega)
theorem set_last (L : List Int) (y : Int) : (L ++ [0]).set L.length y = L ++ [y] := by
  induction L with
  | nil => rfl
  | cons x L ih => simp [ih]
theorem bits_app1 {L : List Int} (h : Bits L) {y : Int} (hy : Bit y) : Bits (L ++ [y]) := Bits.app h fun x hx => by simp at hx; subst hx; exact hy
/-- One bit is put. -/
theorem put_step {v : Int} (h0 : 0 ≤ v) (h1 : v < 2 ^ 63) (j : Nat) (hj : j ≤ 40) {L : List Int} (hL : Bits L) (hl : L.length ≤ 1000000) :
    s_bits_Writer_Put_0 v ((j : Int), (packs L, ((L.length : Int), ()))) = some (.inl ((j : Int) - 1, (packs (L ++ [v / 2 ^ j % 2]), (((L.length + 1 : Nat) : Int), ())))) := by
  have hlen : (packs (L ++ [0])).length = (L.length + 8) / 8 := by rw [packs_len]; simp; omega
  have hq : pQuo .i64 (L.length : Int) 8 = ((L.length / 8 : Nat) : Int) := quo64 (b := 8) (by omega)
  have hr : pRem (L.length : Int) 8 = ((L.length % 8 : Nat) : Int) := rem64 _ 8
  have hs : pSub .i64 7 ((L.length % 8 : Nat) : Int) = ((7 - L.length % 8 : Nat) : Int) := by rw [sub64 (by omega) (by omega)]; omega
  have hin : pIn ((L.length / 8 : Nat) : Int) (pLen (packs (L ++ [0]))) = true := by simp [pIn, pLen, hlen]; omega
  have hi : pLe 0 (j : Int) = true := by simp [pLe]
  have h7 : pLe 0 ((7 - L.length % 8 : Nat) : Int) = true := by simp [pLe]
  have hj1 : pSub .i64 (j : Int) 1 = (j : Int) - 1 := sub64 (by omega) (by omega)
  have hn1 : pAdd .i64 (L.length : Int) 1 = ((L.length + 1 : Nat) : Int) := by rw [add64 (by omega) (by omega)]; omega
  have hset := packs_set (L := L ++ [0]) (bits_app1 hL (.inl rfl)) (i := L.length) (by simp) (by simp) (bit_mod (v / 2 ^ j))
  rw [set_last] at hset
  have h80 : pNot (pEq 8 0) = true := rfl
  have happ := packs_app0 L
  unfold s_bits_Writer_Put_0
  by_cases h8 : L.length % 8 = 0
  · rw [if_pos h8] at happ
    have : (packs L).length ≤ 125000 := by rw [packs_len]; omega
    have hrm : pRoom (pIAdd (pLen (packs L)) (pLen [(0 : Nat)])) = true := by simp [pRoom, pIAdd, pLen]; omega
    have he : pEq ((L.length % 8 : Nat) : Int) 0 = true := by rw [h8]; rfl
    have hap : pApp (packs L) [(0 : Int)] = packs (L ++ [0]) := happ.symm
    simp only [hi, h80, hr, he, hrm, hap, pBind, Option.bind_some, hq, hs, hin, h7, bit_expr h0 h1 j, hj1, hn1, ← hset, reduceIte]
  · rw [if_neg h8] at happ
    have he : pEq ((L.length % 8 : Nat) : Int) 0 = false := by simp [pEq]; omega
    rw [← happ]
    simp only [hi, h80, hr, he, pBind, Option.bind_some, hq, hs, hin, h7, bit_expr h0 h1 j, hj1, hn1, ← hset, reduceIte, Bool.false_eq_true]
theorem bitsL_succ (v : Int) (j : Nat) : bitsL v (j + 1) = v / 2 ^ j % 2 :: bitsL v j := rfl
theorem put_loop {v : Int} (h0 : 0 ≤ v) (h1 : v < 2 ^ 63) : ∀ (j : Nat) {L : List Int}, j ≤ 40 → Bits L → L.length + j ≤ 1000000 →
    pIter (s_bits_Writer_Put_0 v) ((j : Int) - 1, (packs L, ((L.length : Int), ()))) = some (-1, (packs (L ++ bitsL v j), (((L.length + j : Nat) : Int), ())))
  | 0, L, _, hL, hl => by
    refine pIter_inr ?_
    unfold s_bits_Writer_Put_0
    simp [pLe, bitsL]
  | j + 1, L, hj, hL, hl => by
    have e : (((j + 1 : Nat) : Int) - 1) = (j : Int) := by omega
    rw [e, pIter_inl (put_step h0 h1 j (by omega) hL (by omega))]
    have ih := put_loop h0 h1 j (L := L ++ [v / 2 ^ j % 2]) (by omega) (bits_app1 hL (bit_mod _)) (by simp; omega)
    simp only [List.length_append, List.length_singleton] at ih
    rw [ih, bitsL_succ, List.append_assoc]
    simp only [List.singleton_append]
    congr 4
    omega
/-- what is refused -/
def PutBad (v k : Int) : Prop := k < 0 ∨ 32 < k ∨ v < 0 ∨ 0 < v / 2 ^ k.toNat
theorem put_bad {v k : Int} (h1 : v < 2 ^ 63) (h : PutBad v k) (b : List Int) (n : Int) : m_bits_Writer_Put v k b n = some (1, (b, (n, ()))) := by
  unfold m_bits_Writer_Put
  by_cases a1 : k < 0
  · simp [pLt, a1]
  by_cases a2 : 32 < k
  · simp [pLt, a1, a2]
  by_cases a3 : v < 0
  · simp [pLt, a1, a2, a3]
  have a4 : 0 < v / 2 ^ k.toNat := by
    rcases h with h | h | h | h
    · exact (a1 h).elim
    · exact (a2 h).elim
    · exact (a3 h).elim
    · exact h
  have hk : ((k.toNat : Nat) : Int) = k := by omega
  have hs : pShr .i64 v k = v / 2 ^ k.toNat := by rw [← hk, shr64 (by omega) h1, hk]
  have a5 : pLe 0 k = true := by simp [pLe]; omega
  have a6 : pLt 0 (pShr .i64 v k) = true := by rw [hs]; simpa [pLt] using a4
  simp only [pLt, a1, a2, a3, decide_false] at *
  simp [a5, a6]
theorem put_ok {v k : Int} (h1 : v < 2 ^ 63) (h : ¬ PutBad v k) {L : List Int} (hL : Bits L) (hl : L.length ≤ 990000) :
    m_bits_Writer_Put v k (packs L) (L.length : Int) = some (0, (packs (L ++ bitsL v k.toNat), (((L.length + k.toNat : Nat) : Int), ()))) := by
  unfold PutBad at h
  have a1 : ¬ k < 0 := fun e => h (.inl e)
  have a2 : ¬ 32 < k := fun e => h (.inr (.inl e))
  have a3 : ¬ v < 0 := fun e => h (.inr (.inr (.inl e)))
  have a4 : ¬ 0 < v / 2 ^ k.toNat := fun e => h (.inr (.inr (.inr e)))
  have hk : ((k.toNat : Nat) : Int) = k := by omega
  have hs : pShr .i64 v k = v / 2 ^ k.toNat := by rw [← hk, shr64 (by omega) h1, hk]
  have a5 : pLe 0 k = true := by simp [pLe]; omega
  have a6 : pLt 0 (pShr .i64 v k) = false := by rw [hs]; simpa [pLt] using a4
  have a7 : pSub .i64 k 1 = (k.toNat : Int) - 1 := by rw [sub64 (by omega) (by omega), hk]
  unfold m_bits_Writer_Put
  have b1 : pLt k 0 = false := by simpa [pLt] using a1
  have b2 : pLt 32 k = false := by simpa [pLt] using a2
  have b3 : pLt v 0 = false := by simpa [pLt] using a3
  simp only [b1, b2, b3, a5, a6, a7, if_true, Bool.false_eq_true, if_false, put_loop (by omega) h1 k.toNat (by omega) hL (by omega), pBind, Option.bind_some]

/-! the other functions -/
theorem bytes_ok {p : List Int} (n : Int) (h : p.length ≤ 4294967296) : m_bits_Writer_Bytes p n = some (p, (p, (n, ()))) := by
  unfold m_bits_Writer_Bytes
  rw [clone_ok h]
  rfl
theorem read_ok {p : List Int} (h : p.length ≤ 4294967296) : m_bits_Read p = some (p, (0, ())) := by
  unfold m_bits_Read
  rw [clone_ok h]
  rfl
/-! the document's bits -/
theorem rput_step {v : Int} (h0 : 0 ≤ v) (h1 : v < 2 ^ 63) (j : Nat) (hj : j ≤ 40) {L : List Int} (hl : L.length ≤ 1000000) :
    s_wainscotref1_Bits_Put_0 v ((j : Int), (L, ())) = some (.inl ((j : Int) - 1, (L ++ [v / 2 ^ j % 2], ()))) := by
  have hi : pLe 0 (j : Int) = true := by simp [pLe]
  have hj1 : pSub .i64 (j : Int) 1 = (j : Int) - 1 := sub64 (by omega) (by omega)
  unfold s_wainscotref1_Bits_Put_0
  have hrm : pRoom (pIAdd (pLen L) (pLen [v / 2 ^ j % 2])) = true := by simp [pRoom, pIAdd, pLen]; omega
  simp only [hi, hj1, bit_expr h0 h1 j, hrm, reduceIte, pApp]
theorem rput_loop {v : Int} (h0 : 0 ≤ v) (h1 : v < 2 ^ 63) : ∀ (j : Nat) {L : List Int}, j ≤ 40 → L.length + j ≤ 1000000 →
    pIter (s_wainscotref1_Bits_Put_0 v) ((j : Int) - 1, (L, ())) = some (-1, (L ++ bitsL v j, ()))
  | 0, L, _, hl => by
    refine pIter_inr ?_
    unfold s_wainscotref1_Bits_Put_0
    simp [pLe, bitsL]
  | j + 1, L, hj, hl => by
    have e : (((j + 1 : Nat) : Int) - 1) = (j : Int) := by omega
    rw [e, pIter_inl (rput_step h0 h1 j (by omega) (by omega))]
    have ih := rput_loop h0 h1 j (L := L ++ [v / 2 ^ j % 2]) (by omega) (by simp; omega)
    rw [ih, bitsL_succ, List.append_assoc]
    simp only [List.singleton_append]
theorem rput_bad {v k : Int} (h1 : v < 2 ^ 63) (h : PutBad v k) (L : List Int) : m_wainscotref1_Bits_Put v k L = some (1, (L, ())) := by
  unfold m_wainscotref1_Bits_Put
  by_cases a1 : k < 0
  · simp [pLt, a1]
  by_cases a2 : 32 < k
  · simp [pLt, a1, a2]
  by_cases a3 : v < 0
  · simp [pLt, a1, a2, a3]
  have a4 : 0 < v / 2 ^ k.toNat := by
    rcases h with h | h | h | h
    · exact (a1 h).elim
    · exact (a2 h).elim
    · exact (a3 h).elim
    · exact h
  have hk : ((k.toNat : Nat) : Int) = k := by omega
  have hs : pShr .i64 v k = v / 2 ^ k.toNat := by rw [← hk, shr64 (by omega) h1, hk]
  have a5 : pLe 0 k = true := by simp [pLe]; omega
  have a6 : pNot (pEq (pShr .i64 v k) 0) = true := by rw [hs]; simp [pNot, pEq]; omega
  simp only [pLt, a1, a2, a3, decide_false] at *
  simp [a5, a6]
theorem rput_ok {v k : Int} (h1 : v < 2 ^ 63) (h : ¬ PutBad v k) {L : List Int} (hl : L.length ≤ 990000) :
    m_wainscotref1_Bits_Put v k L = some (0, (L ++ bitsL v k.toNat, ())) := by
  unfold PutBad at h
  have a1 : ¬ k < 0 := fun e => h (.inl e)
  have a2 : ¬ 32 < k := fun e => h (.inr (.inl e))
  have a3 : ¬ v < 0 := fun e => h (.inr (.inr (.inl e)))
  have a4 : ¬ 0 < v / 2 ^ k.toNat := fun e => h (.inr (.inr (.inr e)))
  have hk : ((k.toNat : Nat) : Int) = k := by omega
  have hs : pShr .i64 v k = v / 2 ^ k.toNat := by rw [← hk, shr64 (by omega) h1, hk]
  have a5 : pLe 0 k = true := by simp [pLe]; omega
  have a8 : 0 ≤ v / 2 ^ k.toNat := Int.ediv_nonneg (by omega) (Int.le_of_lt (Int.pow_pos (by omega)))
  have a6 : pNot (pEq (pShr .i64 v k) 0) = false := by rw [hs]; simp [pNot, pEq]; omega
  have a7 : pSub .i64 k 1 = (k.toNat : Int) - 1 := by rw [sub64 (by omega) (by omega), hk]
  unfold m_wainscotref1_Bits_Put
  have b1 : pLt k 0 = false := by simpa [pLt] using a1
  have b2 : pLt 32 k = false := by simpa [pLt] using a2
  have b3 : pLt v 0 = false := by simpa [pLt] using a3
  simp only [b1, b2, b3, a5, a6, a7, if_true, Bool.false_eq_true, if_false, rput_loop (L := L) (by omega) h1 k.toNat (by omega) (by omega), pBind, Option.bind_some]
/-- so many of the bits, the others 0 -/
def upto (L : List Int) (i : Nat) : List Int := L.take i ++ List.replicate (L.length - i) 0
theorem upto_len {L : List Int} {i : Nat} (h : i ≤ L.length) : (upto L i).length = L.length := by simp [upto]; omega
theorem upto_bits {L : List Int} (h : Bits L) (i : Nat) : Bits (upto L i) := fun x hx => by
  rcases List.mem_append.1 hx with hx | hx
  · exact h x (List.mem_of_mem_take hx)
  · rw [List.mem_replicate] at hx; exact .inl hx.2
theorem upto_zero {L : List Int} {i : Nat} (h : i < L.length) : (upto L i).getD i 0 = 0 := by
  rw [List.getD_eq_getElem?_getD, upto, List.getElem?_append_right (by simp; omega)]
  simp [List.getElem?_replicate]
  split <;> rfl
theorem upto_set {L : List Int} {i : Nat} (h : i < L.length) : (upto L i).set i (L.getD i 0) = upto L (i + 1) := by
  apply List.ext_getElem?
  intro j
  rw [List.getElem?_set]
  simp only [upto, List.getElem?_append, List.length_take, List.getElem?_take, List.getElem?_replicate, List.length_append, List.length_replicate, List.getD_eq_getElem?_getD]
  have hm : min i L.length = i := by omega
  have hm1 : min (i + 1) L.length = i + 1 := by omega
  rw [hm, hm1]
  by_cases e : i = j
  · subst e
    rw [if_pos rfl, if_pos (by omega), if_pos (by omega), if_pos (by omega)]
    rw [List.getElem?_eq_getElem h]
    rfl
  · rw [if_neg e]
    by_cases h1 : j < i
    · have h2 : j < i + 1 := by omega
      simp only [h1, h2, if_true]
    · have h3 : ¬ j < i + 1 := by omega
      by_cases h2 : j < L.length
      · have h4 : j - i < L.length - i := by omega
        have h5 : j - (i + 1) < L.length - (i + 1) := by omega
        simp only [h1, h3, h4, h5, if_true, if_false]
      · have h4 : ¬ j - i < L.length - i := by omega
        have h5 : ¬ j - (i + 1) < L.length - (i + 1) := by omega
        simp only [h1, h3, h4, h5, if_false]
theorem upto_full (L : List Int) : upto L L.length = L := by simp [upto]
theorem upto_none (L : List Int) : packs (upto L 0) = List.replicate ((L.length + 7) / 8) 0 := by
  apply List.ext_getElem?
  intro j
  rw [packs_get, upto_len (by omega), List.getElem?_replicate]
  split
  · congr 1
    have hz : ∀ t, (upto L 0).getD t 0 = 0 := fun t => by
      rw [List.getD_eq_getElem?_getD]
      simp [upto, List.getElem?_replicate]
      split <;> rfl
    unfold byteAt
    rw [hz, hz, hz, hz, hz, hz, hz, hz]
    rfl
  · rfl
theorem rbytes_step {L : List Int} (hL : Bits L) {i : Nat} (hi : i < L.length) (hl : L.length ≤ 1000000) :
    s_wainscotref1_Bits_Bytes_0 L ((i : Int), (packs (upto L i), ())) = some (.inl (((i + 1 : Nat) : Int), (packs (upto L (i + 1)), ()))) := by
  have h1 : pLt (i : Int) (pLen L) = true := by simp [pLt, pLen]; omega
  have h2 : pIn (i : Int) (pLen L) = true := by simp [pIn, pLen]; omega
  have h80 : pNot (pEq 8 0) = true := rfl
  have hq : pQuo .i64 (i : Int) 8 = ((i / 8 : Nat) : Int) := quo64 (b := 8) (by omega)
  have hr : pRem (i : Int) 8 = ((i % 8 : Nat) : Int) := rem64 _ 8
  have hs : pSub .i64 7 ((i % 8 : Nat) : Int) = ((7 - i % 8 : Nat) : Int) := by rw [sub64 (by omega) (by omega)]; omega
  have hin : pIn ((i / 8 : Nat) : Int) (pLen (packs (upto L i))) = true := by simp [pIn, pLen, packs_len, upto_len (Nat.le_of_lt hi)]; omega
  have h7 : pLe 0 ((7 - i % 8 : Nat) : Int) = true := by simp [pLe]
  have hn1 : pAdd .i64 (i : Int) 1 = ((i + 1 : Nat) : Int) := by rw [add64 (by omega) (by omega)]; omega
  have hg : pGet 0 L (i : Int) = L.getD i 0 := by simp [pGet]
  have hset := packs_set (upto_bits hL i) (i := i) (by rw [upto_len (Nat.le_of_lt hi)]; exact hi) (upto_zero hi) (hL.get i)
  rw [upto_set hi] at hset
  unfold s_wainscotref1_Bits_Bytes_0
  simp only [h1, h2, h80, hq, hr, hs, hin, h7, hn1, hg, ← hset, reduceIte]
theorem rbytes_loop {L : List Int} (hL : Bits L) (hl : L.length ≤ 1000000) : ∀ (k i : Nat), i + k = L.length →
    pIter (s_wainscotref1_Bits_Bytes_0 L) ((i : Int), (packs (upto L i), ())) = some ((L.length : Int), (packs L, ()))
  | 0, i, h => by
    have e : i = L.length := by omega
    subst e
    refine pIter_inr ?_
    unfold s_wainscotref1_Bits_Bytes_0
    have : pLt (L.length : Int) (pLen L) = false := by simp [pLt, pLen]
    rw [this, upto_full]
    rfl
  | k + 1, i, h => by
    rw [pIter_inl (rbytes_step hL (by omega) hl)]
    exact rbytes_loop hL hl k (i + 1) (by omega)
theorem rbytes_ok {L : List Int} (hL : Bits L) (hl : L.length ≤ 1000000) : m_wainscotref1_Bits_Bytes L = some (L, (packs L, ())) := by
  have hadd : pAdd .i64 (pLen L) 7 = ((L.length + 7 : Nat) : Int) := by simp only [pLen]; rw [add64 (by omega) (by omega)]; omega
  have hq : pQuo .i64 ((L.length + 7 : Nat) : Int) 8 = (((L.length + 7) / 8 : Nat) : Int) := quo64 (b := 8) (by omega)
  have hsz : pSize (((L.length + 7) / 8 : Nat) : Int) (((L.length + 7) / 8 : Nat) : Int) = true := by simp [pSize]; omega
  have h80 : pNot (pEq 8 0) = true := rfl
  have hrep : pRep (((L.length + 7) / 8 : Nat) : Int) (0 : Int) = packs (upto L 0) := by rw [upto_none]; simp only [pRep, Int.toNat_natCast]
  unfold m_wainscotref1_Bits_Bytes
  simp only [h80, hadd, hq, hsz, reduceIte, hrep]
  have := rbytes_loop hL hl L.length 0 (by omega)
  simp only [Int.natCast_zero] at this
  simp only [this, pBind, Option.bind_some]

/-! reading -/
def Bytes (b : List Int) : Prop := ∀ x ∈ b, 0 ≤ x ∧ x ≤ 255
theorem Bytes.get {b : List Int} (h : Bytes b) (i : Nat) : 0 ≤ b.getD i 0 ∧ b.getD i 0 ≤ 255 := by
  rw [List.getD_eq_getElem?_getD]
  cases hx : b[i]? with
  | none => simp
  | some x => exact h x (List.mem_of_getElem? hx)
/-- a bit of bytes -/
def bitv (b : List Int) (i : Nat) : Int := b.getD (i / 8) 0 / 2 ^ (7 - i % 8) % 2
theorem bitv_bit (b : List Int) (i : Nat) : Bit (bitv b i) := bit_mod _
theorem bit8 : ∀ a : Fin 256, ∀ s : Fin 8, pWrap .i64 (pAnd .u8 (pShr .u8 (a.val : Int) (s.val : Int)) 1) = (a.val : Int) / 2 ^ s.val % 2 ∧ pAnd .u8 (pShr .u8 (a.val : Int) (s.val : Int)) 1 = (a.val : Int) / 2 ^ s.val % 2 :=
  of_decide_eq_true (by kernel_rfl)
theorem bit8' {x : Int} (h0 : 0 ≤ x) (h1 : x ≤ 255) {s : Nat} (hs : s < 8) : pWrap .i64 (pAnd .u8 (pShr .u8 x (s : Int)) 1) = x / 2 ^ s % 2 ∧ pAnd .u8 (pShr .u8 x (s : Int)) 1 = x / 2 ^ s % 2 := by
  obtain ⟨n, rfl⟩ := Int.eq_ofNat_of_zero_le h0
  have := bit8 ⟨n, by omega⟩ ⟨s, hs⟩
  simpa using this
theorem or1_64 {v x : Int} (h0 : 0 ≤ v) (h1 : v < 2 ^ 40) (hx : Bit x) : pOr .i64 (pShl .i64 v 1) x = 2 * v + x := by
  obtain ⟨n, rfl⟩ := Int.eq_ofNat_of_zero_le h0
  have hn : n < 2 ^ 40 := by omega
  have hs : pShl .i64 (n : Int) 1 = ((2 * n : Nat) : Int) := by
    simp only [pShl, IntKind.bits]
    rw [show (2 : Int) ^ min (Int.toNat 1) 64 = 2 from rfl, wrap64 (by omega) (by omega)]
    omega
  rw [hs, or_nat]
  have e1 : (((2 * n : Nat) : Int) % 2 ^ IntKind.bits .i64).toNat = 2 * n := by simp only [IntKind.bits]; omega
  rw [e1]
  have key : ∀ y : Nat, y < 2 → (2 * n ||| y) = 2 * n + y := fun y hy => by
    have := Nat.shiftLeft_add_eq_or_of_lt (i := 1) (b := y) (by omega) n
    rw [Nat.shiftLeft_eq] at this
    rw [show n * 2 ^ 1 = 2 * n by omega] at this
    exact this.symm
  rcases hx with rfl | rfl
  · have e2 : ((0 : Int) % 2 ^ IntKind.bits .i64).toNat = 0 := by decide
    rw [e2, key 0 (by omega), wrap64 (by omega) (by omega)]
    omega
  · have e2 : ((1 : Int) % 2 ^ IntKind.bits .i64).toNat = 1 := by decide
    rw [e2, key 1 (by omega), wrap64 (by omega) (by omega)]
    omega
/-- so many bits behind a number -/
def getAcc (b : List Int) (p : Nat) : Nat → Int → Int
  | 0, acc => acc
  | k + 1, acc => getAcc b (p + 1) k (2 * acc + bitv b p)
theorem get_step {b : List Int} (hb : Bytes b) {n t p : Nat} (ht : t < n) (hn : n ≤ 32) (hp : p < 8 * b.length) (hl : b.length ≤ 100000) {acc : Int} (h0 : 0 ≤ acc) (h1 : acc < 2 ^ t) {y : Int} {z : Int × Unit} :
    s_bits_Reader_Get_0 (n : Int) (y, (b, z)) (acc, ((t : Int), ((p : Int), ()))) = some (.inl (2 * acc + bitv b p, (((t + 1 : Nat) : Int), (((p + 1 : Nat) : Int), ())))) ∧
    s_wainscotref1_Scan_Get_0 (n : Int) (acc, ((t : Int), (b, ((p : Int), ())))) = some (.inl (2 * acc + bitv b p, (((t + 1 : Nat) : Int), (b, (((p + 1 : Nat) : Int), ()))))) := by
  have a1 : pLt (t : Int) (n : Int) = true := by simp [pLt]; omega
  have a2 : pLe 0 1 = true := rfl
  have h80 : pNot (pEq 8 0) = true := rfl
  have hq : pQuo .i64 (p : Int) 8 = ((p / 8 : Nat) : Int) := quo64 (b := 8) (by omega)
  have hr : pRem (p : Int) 8 = ((p % 8 : Nat) : Int) := rem64 _ 8
  have hs : pSub .i64 7 ((p % 8 : Nat) : Int) = ((7 - p % 8 : Nat) : Int) := by rw [sub64 (by omega) (by omega)]; omega
  have hin : pIn ((p / 8 : Nat) : Int) (pLen b) = true := by simp [pIn, pLen]; omega
  have h7 : pLe 0 ((7 - p % 8 : Nat) : Int) = true := by simp [pLe]
  have hn1 : pAdd .i64 (t : Int) 1 = ((t + 1 : Nat) : Int) := by rw [add64 (by omega) (by omega)]; omega
  have hn2 : pAdd .i64 (p : Int) 1 = ((p + 1 : Nat) : Int) := by rw [add64 (by omega) (by omega)]; omega
  have hg : pGet 0 b ((p / 8 : Nat) : Int) = b.getD (p / 8) 0 := by simp only [pGet, Int.toNat_natCast]
  have hbit : pWrap .i64 (pAnd .u8 (pShr .u8 (b.getD (p / 8) 0) ((7 - p % 8 : Nat) : Int)) 1) = bitv b p := (bit8' (hb.get _).1 (hb.get _).2 (by omega)).1
  have hpow : (2 : Int) ^ t ≤ 2 ^ 32 := by
    have : (2 : Nat) ^ t ≤ 2 ^ 32 := Nat.pow_le_pow_right (by omega) (by omega)
    have h3 : ((2 ^ t : Nat) : Int) ≤ ((2 ^ 32 : Nat) : Int) := by omega
    simpa using h3
  have hor : pOr .i64 (pShl .i64 acc 1) (bitv b p) = 2 * acc + bitv b p := or1_64 h0 (by omega) (bitv_bit b p)
  constructor
  · unfold s_bits_Reader_Get_0
    simp only [a1, a2, h80, hq, hr, hs, hin, h7, hn1, hn2, hg, hbit, hor, reduceIte]
  · unfold s_wainscotref1_Scan_Get_0
    simp only [a1, a2, h80, hq, hr, hs, hin, h7, hn1, hn2, hg, hbit, hor, reduceIte]
theorem get_loop {b : List Int} (hb : Bytes b) (hl : b.length ≤ 100000) {n : Nat} (hn : n ≤ 32) {y : Int} {z : Int × Unit} : ∀ (k t p : Nat) (acc : Int), t + k = n → p + k ≤ 8 * b.length → 0 ≤ acc → acc < 2 ^ t →
    pIter (s_bits_Reader_Get_0 (n : Int) (y, (b, z))) (acc, ((t : Int), ((p : Int), ()))) = some (getAcc b p k acc, ((n : Int), (((p + k : Nat) : Int), ()))) ∧
    pIter (s_wainscotref1_Scan_Get_0 (n : Int)) (acc, ((t : Int), (b, ((p : Int), ())))) = some (getAcc b p k acc, ((n : Int), (b, (((p + k : Nat) : Int), ()))))
  | 0, t, p, acc, ht, _, _, _ => by
    have e : t = n := by omega
    subst e
    have a1 : pLt (t : Int) (t : Int) = false := by simp [pLt]
    constructor
    · refine pIter_inr ?_
      unfold s_bits_Reader_Get_0
      simp only [a1]
      rfl
    · refine pIter_inr ?_
      unfold s_wainscotref1_Scan_Get_0
      simp only [a1]
      rfl
  | k + 1, t, p, acc, ht, hp, h0, h1 => by
    obtain ⟨s1, s2⟩ := get_step (n := n) (t := t) (p := p) hb (by omega) hn (by omega) hl h0 h1 (y := y) (z := z)
    have hbv := bitv_bit b p
    unfold Bit at hbv
    have hpw : (2 : Int) ^ (t + 1) = 2 * 2 ^ t := by rw [Int.pow_succ]; omega
    obtain ⟨i1, i2⟩ := get_loop hb hl hn (y := y) (z := z) k (t + 1) (p + 1) (2 * acc + bitv b p) (by omega) (by omega) (by omega) (by omega)
    have e : p + 1 + k = p + (k + 1) := by omega
    rw [e] at i1 i2
    exact ⟨(pIter_inl s1).trans i1, (pIter_inl s2).trans i2⟩
def leftv (b : List Int) (p : Int) : Int := 8 * (b.length : Int) - p
theorem left_ok {b : List Int} {p : Int} (hl : b.length ≤ 100000) (h0 : 0 ≤ p) (h1 : p ≤ 1000000) : pSub .i64 (pMul .i64 8 (pLen b)) p = leftv b p := by
  simp only [pLen]
  rw [mul64 (by omega) (by omega), sub64 (by omega) (by omega)]
  rfl
theorem get_arg {b : List Int} {n p : Int} (h : n < 0 ∨ 32 < n) : m_bits_Reader_Get n b p = some (0, (1, (b, (p, ())))) ∧ m_wainscotref1_Scan_Get n b p = some (0, (1, (b, (p, ())))) := by
  unfold m_bits_Reader_Get m_wainscotref1_Scan_Get
  by_cases a1 : n < 0
  · simp [pLt, a1]
  · have a2 : 32 < n := h.resolve_left a1
    simp [pLt, a1, a2]
theorem get_short {b : List Int} (hl : b.length ≤ 100000) {n p : Nat} (hn : n ≤ 32) (hp : p ≤ 8 * b.length) (h : 8 * b.length < p + n) :
    m_bits_Reader_Get (n : Int) b (p : Int) = some (0, (3, (b, ((p : Int), ())))) ∧ m_wainscotref1_Scan_Get (n : Int) b (p : Int) = some (0, (3, (b, ((p : Int), ())))) := by
  have a1 : pLt (n : Int) 0 = false := by simp [pLt]
  have a2 : pLt 32 (n : Int) = false := by simp [pLt]; omega
  have a3 : pLt (leftv b (p : Int)) (n : Int) = true := decide_eq_true (by unfold leftv; omega)
  have hlf := left_ok hl (p := (p : Int)) (by omega) (by omega)
  unfold m_bits_Reader_Get m_wainscotref1_Scan_Get m_bits_Reader_Left m_wainscotref1_Scan_Left
  simp only [hlf, a1, a2, a3, pBind, Option.bind_some, reduceIte, Bool.false_eq_true, and_self]
theorem get_ok {b : List Int} (hb : Bytes b) (hl : b.length ≤ 100000) {n p : Nat} (hn : n ≤ 32) (h : p + n ≤ 8 * b.length) :
    m_bits_Reader_Get (n : Int) b (p : Int) = some (getAcc b p n 0, (0, (b, (((p + n : Nat) : Int), ())))) ∧ m_wainscotref1_Scan_Get (n : Int) b (p : Int) = some (getAcc b p n 0, (0, (b, (((p + n : Nat) : Int), ())))) := by
  have a1 : pLt (n : Int) 0 = false := by simp [pLt]
  have a2 : pLt 32 (n : Int) = false := by simp [pLt]; omega
  have a3 : pLt (leftv b (p : Int)) (n : Int) = false := decide_eq_false (by unfold leftv; omega)
  have hlf := left_ok hl (p := (p : Int)) (by omega) (by omega)
  have hloop := fun y z => get_loop hb hl hn (y := y) (z := z) n 0 p 0 (by omega) h (by omega) (by decide)
  simp only [Int.natCast_zero] at hloop
  unfold m_bits_Reader_Get m_wainscotref1_Scan_Get m_bits_Reader_Left m_wainscotref1_Scan_Left
  simp only [hlf, a1, a2, a3, pBind, Option.bind_some, reduceIte, Bool.false_eq_true, (hloop _ _).1, (hloop 0 (0, ())).2, and_self]

/-! the rest -/
theorem rest8 : ∀ a : Fin 256, ∀ r : Fin 8, (pEq (pShl .u8 (a.val : Int) (r.val : Int)) 0 = decide ((a.val : Int) % 2 ^ (8 - r.val) = 0)) ∧ ((a.val : Int) % 2 ^ (r.val + 1) = 0 ↔ ((a.val : Int) / 2 ^ r.val % 2 = 0 ∧ (a.val : Int) % 2 ^ r.val = 0)) :=
  of_decide_eq_true (by kernel_rfl)
theorem rest8' {x : Int} (h0 : 0 ≤ x) (h1 : x ≤ 255) {r : Nat} (hr : r < 8) : (pEq (pShl .u8 x (r : Int)) 0 = decide (x % 2 ^ (8 - r) = 0)) ∧ (x % 2 ^ (r + 1) = 0 ↔ (x / 2 ^ r % 2 = 0 ∧ x % 2 ^ r = 0)) := by
  obtain ⟨n, rfl⟩ := Int.eq_ofNat_of_zero_le h0
  exact rest8 ⟨n, by omega⟩ ⟨r, hr⟩
def restv (b : List Int) (p : Nat) : Int := if 8 ≤ 8 * b.length - p then 3 else if b.getD (b.length - 1) 0 % 2 ^ (8 * b.length - p) = 0 then 0 else 3
theorem scan_rest {b : List Int} (hb : Bytes b) (hl : b.length ≤ 100000) (h0 : 0 < b.length) (z : Int) {w : Int × Unit} : ∀ k : Nat, k ≤ 8 →
    pIter (s_wainscotref1_Scan_Rest_0 (z, (b, w))) (((8 * b.length - k : Nat) : Int), ()) = some (if b.getD (b.length - 1) 0 % 2 ^ k = 0 then .inr (((8 * b.length : Nat) : Int), ()) else .inl (3, ()))
  | 0, _ => by
    have a0 : pMul .i64 8 (pLen b) = ((8 * b.length : Nat) : Int) := by simp only [pLen]; rw [mul64 (by omega) (by omega)]; omega
    have a1 : pLt ((8 * b.length : Nat) : Int) ((8 * b.length : Nat) : Int) = false := by simp [pLt]
    refine pIter_inr ?_
    unfold s_wainscotref1_Scan_Rest_0
    simp only [Nat.sub_zero, a0, a1, Int.pow_zero, Int.emod_one, reduceIte, Bool.false_eq_true]
  | k + 1, hk => by
    generalize hi : 8 * b.length - (k + 1) = i
    have a0 : pMul .i64 8 (pLen b) = ((8 * b.length : Nat) : Int) := by simp only [pLen]; rw [mul64 (by omega) (by omega)]; omega
    have a1 : pLt (i : Int) ((8 * b.length : Nat) : Int) = true := decide_eq_true (by omega)
    have h80 : pNot (pEq 8 0) = true := rfl
    have hq : pQuo .i64 (i : Int) 8 = ((b.length - 1 : Nat) : Int) := (quo64 (a := i) (by omega) 8).trans (congrArg Nat.cast (by omega))
    have hr : pRem (i : Int) 8 = ((7 - k : Nat) : Int) := (rem64 i 8).trans (congrArg Nat.cast (by omega))
    have hs : pSub .i64 7 ((7 - k : Nat) : Int) = ((k : Nat) : Int) := by rw [sub64 (by omega) (by omega)]; omega
    have hin : pIn ((b.length - 1 : Nat) : Int) (pLen b) = true := decide_eq_true (by simp only [pLen]; omega)
    have h7 : pLe 0 ((k : Nat) : Int) = true := decide_eq_true (by omega)
    have hn1 : pAdd .i64 (i : Int) 1 = ((8 * b.length - k : Nat) : Int) := by rw [add64 (by omega) (by omega)]; omega
    have hg : pGet 0 b ((b.length - 1 : Nat) : Int) = b.getD (b.length - 1) 0 := by simp only [pGet, Int.toNat_natCast]
    have hbit := (bit8' (hb.get (b.length - 1)).1 (hb.get (b.length - 1)).2 (s := k) (by omega)).2
    have hmod := (rest8' (hb.get (b.length - 1)).1 (hb.get (b.length - 1)).2 (r := k) (by omega)).2
    have ih := scan_rest hb hl h0 z (w := w) k (by omega)
    generalize b.getD (b.length - 1) 0 = x at *
    by_cases h1 : x / 2 ^ k % 2 = 1
    · have he : pEq (x / 2 ^ k % 2) 1 = true := decide_eq_true h1
      have hne : ¬ x % 2 ^ (k + 1) = 0 := fun e => by have := (hmod.1 e).1; omega
      rw [if_neg hne]
      refine pIter_inr ?_
      unfold s_wainscotref1_Scan_Rest_0
      simp only [a0, a1, h80, hq, hr, hs, hin, h7, hg, hbit, he, reduceIte]
    · have he : pEq (x / 2 ^ k % 2) 1 = false := decide_eq_false h1
      have hz : x / 2 ^ k % 2 = 0 := by omega
      have hst : s_wainscotref1_Scan_Rest_0 (z, (b, w)) ((i : Int), ()) = some (.inl (((8 * b.length - k : Nat) : Int), ())) := by
        unfold s_wainscotref1_Scan_Rest_0
        simp only [a0, a1, h80, hq, hr, hs, hin, h7, hg, hbit, he, hn1, reduceIte, Bool.false_eq_true]
      rw [pIter_inl hst, ih]
      by_cases h2 : x % 2 ^ k = 0
      · rw [if_pos h2, if_pos (hmod.2 ⟨hz, h2⟩)]
      · rw [if_neg h2, if_neg fun e => h2 (hmod.1 e).2]
theorem rest_ok {b : List Int} (hb : Bytes b) (hl : b.length ≤ 100000) {p : Nat} (hp : p ≤ 8 * b.length) :
    m_bits_Reader_Rest b (p : Int) = some (restv b p, (b, ((p : Int), ()))) ∧ m_wainscotref1_Scan_Rest b (p : Int) = some (restv b p, (b, ((p : Int), ()))) := by
  have hlf := left_ok hl (p := (p : Int)) (by omega) (by omega)
  have hlv : leftv b (p : Int) = ((8 * b.length - p : Nat) : Int) := by unfold leftv; omega
  rw [hlv] at hlf
  unfold m_bits_Reader_Rest m_wainscotref1_Scan_Rest m_bits_Reader_Left m_wainscotref1_Scan_Left restv
  by_cases h8 : 8 ≤ 8 * b.length - p
  · have a1 : pLe 8 ((8 * b.length - p : Nat) : Int) = true := decide_eq_true (by omega)
    simp only [hlf, a1, h8, pBind, Option.bind_some, reduceIte, and_self]
  · have a1 : pLe 8 ((8 * b.length - p : Nat) : Int) = false := decide_eq_false (by omega)
    by_cases hz : 8 * b.length - p = 0
    · have a2 : pLt 0 ((8 * b.length - p : Nat) : Int) = false := decide_eq_false (by omega)
      have a0 : pMul .i64 8 (pLen b) = ((8 * b.length : Nat) : Int) := by simp only [pLen]; rw [mul64 (by omega) (by omega)]; omega
      have a3 : pLt (p : Int) ((8 * b.length : Nat) : Int) = false := decide_eq_false (by omega)
      have hit : ∀ z : Int, ∀ w : Int × Unit, pIter (s_wainscotref1_Scan_Rest_0 (z, (b, w))) ((p : Int), ()) = some (.inr ((p : Int), ())) := fun z w => by
        refine pIter_inr ?_
        unfold s_wainscotref1_Scan_Rest_0
        simp only [a0, a3, reduceIte, Bool.false_eq_true]
      have hpw : b.getD (b.length - 1) 0 % 2 ^ (8 * b.length - p) = 0 := by rw [hz, Int.pow_zero, Int.emod_one]
      simp only [hlf, a1, a2, h8, hit, hpw, pBind, pCase, Option.bind_some, reduceIte, Bool.false_eq_true, and_self]
    · have hpos : 0 < b.length := by omega
      have a2 : pLt 0 ((8 * b.length - p : Nat) : Int) = true := decide_eq_true (by omega)
      have a3 : pSub .i64 (pLen b) 1 = ((b.length - 1 : Nat) : Int) := by simp only [pLen]; rw [sub64 (by omega) (by omega)]; omega
      have a4 : pIn ((b.length - 1 : Nat) : Int) (pLen b) = true := decide_eq_true (by simp only [pLen]; omega)
      have a5 : pSub .i64 8 ((8 * b.length - p : Nat) : Int) = ((8 - (8 * b.length - p) : Nat) : Int) := by rw [sub64 (by omega) (by omega)]; omega
      have a6 : pLe 0 ((8 - (8 * b.length - p) : Nat) : Int) = true := decide_eq_true (by omega)
      have a7 : pGet 0 b ((b.length - 1 : Nat) : Int) = b.getD (b.length - 1) 0 := by simp only [pGet, Int.toNat_natCast]
      have hbit := (rest8' (hb.get (b.length - 1)).1 (hb.get (b.length - 1)).2 (r := 8 - (8 * b.length - p)) (by omega)).1
      have e8 : 8 - (8 - (8 * b.length - p)) = 8 * b.length - p := by omega
      rw [e8] at hbit
      have hscan := fun z w => scan_rest hb hl hpos z (w := w) (8 * b.length - p) (by omega)
      have ep : 8 * b.length - (8 * b.length - p) = p := by omega
      rw [ep] at hscan
      generalize b.getD (b.length - 1) 0 = x at *
      by_cases hx : x % 2 ^ (8 * b.length - p) = 0
      · simp only [hlf, a1, a2, a3, a4, a5, a6, a7, h8, hbit, hx, hscan, pNot, pBind, pCase, Option.bind_some, decide_true, Bool.not_true, reduceIte, Bool.false_eq_true, and_self]
      · simp only [hlf, a1, a2, a3, a4, a5, a6, a7, h8, hbit, hx, hscan, pNot, pBind, pCase, Option.bind_some, decide_false, Bool.not_false, reduceIte, Bool.false_eq_true, and_self]
/-! what is fixed -/
theorem packs_bytes {L : List Int} (h : Bits L) : Bytes (packs L) := fun x hx => by
  unfold packs at hx
  obtain ⟨j, _, rfl⟩ := List.mem_map.1 hx
  exact byte_lt h j
theorem bits_nil : Bits ([] : List Int) := fun x hx => by cases hx
theorem awake_ok : m_wainscotlaw5_awake = some (true, ()) := by
  have p1 : m_bits_Writer_Put 5 3 [] 0 = some (0, ([160], (3, ()))) := by
    have h : ¬ PutBad 5 3 := by unfold PutBad; decide
    exact (put_ok (v := 5) (k := 3) (by omega) h bits_nil (by decide)).trans (by rfl)
  have p2 : m_bits_Writer_Put 8 3 [160] 3 = some (1, ([160], (3, ()))) := put_bad (by omega) (by unfold PutBad; decide) _ _
  have hb : Bytes [160] := fun x hx => by simp at hx; subst hx; omega
  have e1 : getAcc [160] 0 3 0 = 5 := by decide
  have e2 : restv [160] 3 = 0 := by decide
  have g1 : m_bits_Reader_Get 3 [160] 0 = some (5, (0, ([160], (3, ())))) := by
    have h := (get_ok hb (by decide) (n := 3) (p := 0) (by omega) (by decide)).1
    rw [e1] at h
    exact h
  have g2 : m_bits_Reader_Get 6 [160] 3 = some (0, (3, ([160], (3, ())))) := (get_short (b := [160]) (by decide) (n := 6) (p := 3) (by omega) (by decide) (by decide)).1
  have g3 : m_bits_Reader_Get 33 [160] 3 = some (0, (1, ([160], (3, ())))) := (get_arg (b := [160]) (n := 33) (p := 3) (by omega)).1
  have r1 : m_bits_Reader_Rest [160] 3 = some (0, ([160], (3, ()))) := by
    have h := (rest_ok hb (by decide) (p := 3) (by decide)).1
    rw [e2] at h
    exact h
  have l1 : pSub .i64 (pMul .i64 8 (pLen [(160 : Int)])) 3 = 5 := by decide
  have c1 : m_slices_Clone_byte_byte_ [160] = some ([160], ()) := clone_ok (by decide)
  unfold m_wainscotlaw5_awake m_bits_Writer_Put_1 m_bits_Reader_Get_1 m_bits_Writer_Len_1 m_bits_Reader_Rest_1 m_bits_Reader_Left_1 m_bits_Writer_Len m_bits_Writer_Bytes m_bits_Read
  have l2 : m_bits_Reader_Left [160] 3 = some (5, ([160], (3, ()))) := by unfold m_bits_Reader_Left; rw [l1]
  simp only [p1, p2, c1, g1, g2, g3, r1, l2, pBind, Option.bind_some]
  rfl
end Go.Xr.Try
