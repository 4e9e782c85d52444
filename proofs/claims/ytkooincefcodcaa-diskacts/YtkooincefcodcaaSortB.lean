import Derived.Test.YtkooincefcodcaaSortR
set_option linter.unusedVariables false
set_option linter.unusedSimpArgs false
set_option maxRecDepth 100000
set_option maxHeartbeats 1600000
namespace Go.Xr.Try
open Go Go.Xr Go.Sort
theorem wrapU {n : Int} (h0 : 0 ≤ n) (h1 : n < 2 ^ 64) : IntKind.wrap .u64 n = n := by
  simp [IntKind.wrap, IntKind.bits, IntKind.signed]
  omega
theorem ofIntU (u : UInt64) : BitVec.ofInt 64 ((u.toNat : Nat) : Int) = u.toBitVec := by
  rw [BitVec.ofInt_natCast]
  exact BitVec.eq_of_toNat_eq (by simp)
theorem xorU (u v : UInt64) : pXor .u64 (u.toNat : Int) (v.toNat : Int) = ((u ^^^ v).toNat : Int) := by
  show IntKind.wrap .u64 ((BitVec.ofInt 64 (u.toNat : Int) ^^^ BitVec.ofInt 64 (v.toNat : Int)).toNat : Int) = _
  rw [ofIntU, ofIntU, wrapU (by omega) (by have := (u.toBitVec ^^^ v.toBitVec).isLt; omega)]
  rfl
theorem shlU13 (u : UInt64) : pShl .u64 (u.toNat : Int) 13 = ((u <<< 13).toNat : Int) := by
  show IntKind.wrap .u64 ((u.toNat : Int) * 2 ^ 13) = _
  simp [IntKind.wrap, IntKind.bits, IntKind.signed, UInt64.toNat_shiftLeft, Nat.shiftLeft_eq]
theorem shlU17 (u : UInt64) : pShl .u64 (u.toNat : Int) 17 = ((u <<< 17).toNat : Int) := by
  show IntKind.wrap .u64 ((u.toNat : Int) * 2 ^ 17) = _
  simp [IntKind.wrap, IntKind.bits, IntKind.signed, UInt64.toNat_shiftLeft, Nat.shiftLeft_eq]
theorem shrU7 (u : UInt64) : pShr .u64 (u.toNat : Int) 7 = ((u >>> 7).toNat : Int) := by
  show Int.fdiv (u.toNat : Int) (2 ^ 7) = _
  rw [Int.fdiv_eq_ediv_of_nonneg _ (by omega)]
  simp [UInt64.toNat_shiftRight, Nat.shiftRight_eq_div_pow]
theorem next_eq (u : UInt64) : m_q0 (u.toNat : Int) = some (((xorNext u).toNat : Int), (((xorNext u).toNat : Int), ())) := by
  unfold m_q0 xorNext
  rw [if_pos (by decide), if_pos (by decide), if_pos (by decide)]
  simp only [shlU13, shrU7, shlU17, xorU]
theorem table : ((List.range 256).all fun n => decide (m_q28 (n : Int) = some (((1 <<< bitsLen n : Nat) : Int), ()))) = true := by decide +kernel
theorem pow_eq {n : Nat} (h : n < 256) : m_q28 (n : Int) = some (((1 <<< bitsLen n : Nat) : Int), ()) := by
  have := List.all_eq_true.1 table n (List.mem_range.2 h)
  exact of_decide_eq_true this
theorem tableL : ((List.range 256).all fun n => decide (m_q1 (pWrap .u64 (n : Int)) = some ((bitsLen n : Int), ()))) = true := by decide +kernel
theorem len_eq {n : Nat} (h : n < 256) : m_q1 (pWrap .u64 (n : Int)) = some ((bitsLen n : Int), ()) := by
  have := List.all_eq_true.1 tableL n (List.mem_range.2 h)
  exact of_decide_eq_true this
theorem andU (u : UInt64) (m : Nat) (h1 : 1 ≤ m) (hm : m ≤ 1024) : pWrap .i64 (pAnd .u64 (u.toNat : Int) (pSub .u64 (m : Int) 1)) = ((u.toNat &&& (m - 1) : Nat) : Int) := by
  have e1 : pSub .u64 (m : Int) 1 = ((m - 1 : Nat) : Int) := by
    show IntKind.wrap .u64 ((m : Int) - 1) = _
    rw [wrapU (by omega) (by omega)]; omega
  rw [e1]
  have e2 : pAnd .u64 (u.toNat : Int) ((m - 1 : Nat) : Int) = ((u.toNat &&& (m - 1) : Nat) : Int) := by
    show IntKind.wrap .u64 ((BitVec.ofInt 64 (u.toNat : Int) &&& BitVec.ofInt 64 ((m - 1 : Nat) : Int)).toNat : Int) = _
    have hle : u.toNat &&& (m - 1) ≤ m - 1 := Nat.and_le_right
    have : (BitVec.ofInt 64 (u.toNat : Int) &&& BitVec.ofInt 64 ((m - 1 : Nat) : Int)).toNat = u.toNat &&& (m - 1) := by
      rw [ofIntU, BitVec.toNat_and, BitVec.ofInt_natCast, BitVec.toNat_ofNat, Nat.mod_eq_of_lt (by omega)]
      rfl
    rw [this, wrapU (by omega) (by omega)]
  rw [e2]
  have hle : u.toNat &&& (m - 1) ≤ m - 1 := Nat.and_le_right
  exact wrap64 (by omega) (by omega)
theorem break_step (a b : Nat) (u : UInt64) (d : Array Int) (idx : Nat) (h8 : a + 8 ≤ b) (hl : b - a < 256) (hb : b ≤ d.size) (hd : d.size < 2 ^ 58) (h1 : idx ≤ a + (b - a) / 4 * 2 + 1) :
    s_q22_0 (a : Int) (b : Int) (((1 <<< bitsLen (b - a) : Nat) : Int), ()) ((idx : Int), (d.toList, ((u.toNat : Int), ()))) = some (.inl (((idx + 1 : Nat) : Int), ((breakStep a (b - a) (1 <<< bitsLen (b - a)) (u, d) idx).2.toList, (((breakStep a (b - a) (1 <<< bitsLen (b - a)) (u, d) idx).1.toNat : Int), ())))) := by
  have e4 : pNot (pEq 4 0) = true := by decide
  have eba : pSub .i64 (b : Int) (a : Int) = ((b - a : Nat) : Int) := subN (by omega) (by omega)
  have eq4 : pQuo .i64 ((b - a : Nat) : Int) 4 = (((b - a) / 4 : Nat) : Int) := by rw [show (4 : Int) = ((4 : Nat) : Int) from rfl, quo64 (by omega)]
  have em : pMul .i64 (((b - a) / 4 : Nat) : Int) 2 = (((b - a) / 4 * 2 : Nat) : Int) := by rw [mul64 (by omega) (by omega)]; omega
  have ea : pAdd .i64 (a : Int) (((b - a) / 4 * 2 : Nat) : Int) = ((a + (b - a) / 4 * 2 : Nat) : Int) := addN (by omega)
  have ea1 : pAdd .i64 ((a + (b - a) / 4 * 2 : Nat) : Int) 1 = ((a + (b - a) / 4 * 2 + 1 : Nat) : Int) := add1 (by omega)
  have ele : pLe (idx : Int) ((a + (b - a) / 4 * 2 + 1 : Nat) : Int) = true := by rw [leN]; simp; omega
  have hpow : 2 ^ bitsLen (b - a) ≤ 2 * (b - a) := two_pow_bitsLen_le (by omega)
  have hsh : 1 <<< bitsLen (b - a) = 2 ^ bitsLen (b - a) := Nat.one_shiftLeft _
  have hpos : 0 < 2 ^ bitsLen (b - a) := Nat.two_pow_pos _
  rw [hsh]
  generalize 2 ^ bitsLen (b - a) = m at *
  have hand := andU (xorNext u) m (by omega) (by omega)
  have hle : (xorNext u).toNat &&& (m - 1) ≤ m - 1 := Nat.and_le_right
  unfold breakStep s_q22_0
  simp only [e4, eba, eq4, em, ea, ea1, ele, next_eq, hand, if_true, pBind, Option.bind_some]
  generalize (xorNext u).toNat &&& (m - 1) = o at *
  by_cases ho : o ≥ b - a
  · have e5 : pLe ((b - a : Nat) : Int) (o : Int) = true := by rw [leN]; simp; omega
    have e6 : pSub .i64 (o : Int) ((b - a : Nat) : Int) = ((o - (b - a) : Nat) : Int) := subN (by omega) (by omega)
    have e7 : pAdd .i64 (a : Int) ((o - (b - a) : Nat) : Int) = ((a + (o - (b - a)) : Nat) : Int) := addN (by omega)
    rw [if_pos ho]
    simp only [e5, e6, e7, if_true, Option.bind_some, inE (d := d) (i := a + (o - (b - a))) (by omega), inE (d := d) (i := idx) (by omega), inS (d := d) (i := a + (o - (b - a))) (j := idx) (x := d[a + (o - (b - a))]!) (by omega), getE, swE, add1 (n := idx) (by omega)]
  · have e5 : pLe ((b - a : Nat) : Int) (o : Int) = false := by rw [leN]; simp; omega
    have e7 : pAdd .i64 (a : Int) (o : Int) = ((a + o : Nat) : Int) := addN (by omega)
    rw [if_neg ho]
    simp only [e5, e7, if_true, Bool.false_eq_true, if_false, Option.bind_some, inE (d := d) (i := a + o) (by omega), inE (d := d) (i := idx) (by omega), inS (d := d) (i := a + o) (j := idx) (x := d[a + o]!) (by omega), getE, swE, add1 (n := idx) (by omega)]
theorem break_size (a l m : Nat) (st : UInt64 × Array Int) (idx : Nat) : (breakStep a l m st idx).2.size = st.2.size := by
  unfold breakStep
  exact swS _ _ _
theorem break_eq (a b : Nat) (d : Array Int) (h8 : a + 8 ≤ b) (hl : b - a < 256) (hb : b ≤ d.size) (hd : d.size < 2 ^ 58) :
    ∃ k, m_q22 (a : Int) (b : Int) d.toList = some (.inl ((breakPatterns d a b).toList, (k, ()))) := by
  have e4 : pNot (pEq 4 0) = true := by decide
  have eba : pSub .i64 (b : Int) (a : Int) = ((b - a : Nat) : Int) := subN (by omega) (by omega)
  have eq4 : pQuo .i64 ((b - a : Nat) : Int) 4 = (((b - a) / 4 : Nat) : Int) := by rw [show (4 : Int) = ((4 : Nat) : Int) from rfl, quo64 (by omega)]
  have em : pMul .i64 (((b - a) / 4 : Nat) : Int) 2 = (((b - a) / 4 * 2 : Nat) : Int) := by rw [mul64 (by omega) (by omega)]; omega
  have ea : pAdd .i64 (a : Int) (((b - a) / 4 * 2 : Nat) : Int) = ((a + (b - a) / 4 * 2 : Nat) : Int) := addN (by omega)
  have es : pSub .i64 ((a + (b - a) / 4 * 2 : Nat) : Int) 1 = ((a + (b - a) / 4 * 2 - 1 : Nat) : Int) := by rw [show (1 : Int) = ((1 : Nat) : Int) from rfl]; exact subN (by omega) (by omega)
  have e8 : pLe 8 ((b - a : Nat) : Int) = true := by simp [pLe]; omega
  have ew : pWrap .u64 ((b - a : Nat) : Int) = ((UInt64.ofNat (b - a)).toNat : Int) := by
    show IntKind.wrap .u64 ((b - a : Nat) : Int) = _
    rw [wrapU (by omega) (by omega)]
    simp
    omega
  unfold m_q22
  simp only [eba, e8, pow_eq hl, e4, eq4, em, ea, es, ew, if_true, pBind, Option.bind_some]
  have z1 : (breakStep a (b - a) (1 <<< bitsLen (b - a)) (UInt64.ofNat (b - a), d) (a + (b - a) / 4 * 2 - 1)).2.size = d.size := break_size a (b - a) (1 <<< bitsLen (b - a)) (UInt64.ofNat (b - a), d) (a + (b - a) / 4 * 2 - 1)
  have s1 := break_step a b (UInt64.ofNat (b - a)) d (a + (b - a) / 4 * 2 - 1) h8 hl hb hd (by omega)
  have hdef : breakPatterns d a b = (breakStep a (b - a) (1 <<< bitsLen (b - a)) (breakStep a (b - a) (1 <<< bitsLen (b - a)) (breakStep a (b - a) (1 <<< bitsLen (b - a)) (UInt64.ofNat (b - a), d) (a + (b - a) / 4 * 2 - 1)) (a + (b - a) / 4 * 2 - 1 + 1)) (a + (b - a) / 4 * 2 - 1 + 2)).2 := by
    unfold breakPatterns
    exact if_pos (by omega)
  rw [hdef]
  generalize breakStep a (b - a) (1 <<< bitsLen (b - a)) (UInt64.ofNat (b - a), d) (a + (b - a) / 4 * 2 - 1) = t1 at *
  have z2 := break_size a (b - a) (1 <<< bitsLen (b - a)) t1 (a + (b - a) / 4 * 2 - 1 + 1)
  have s2 := break_step a b t1.1 t1.2 (a + (b - a) / 4 * 2 - 1 + 1) h8 hl (by omega) (by omega) (by omega)
  rw [show (t1.1, t1.2) = t1 from rfl] at s2
  generalize breakStep a (b - a) (1 <<< bitsLen (b - a)) t1 (a + (b - a) / 4 * 2 - 1 + 1) = t2 at *
  have z3 := break_size a (b - a) (1 <<< bitsLen (b - a)) t2 (a + (b - a) / 4 * 2 - 1 + 2)
  have s3 := break_step a b t2.1 t2.2 (a + (b - a) / 4 * 2 - 1 + 2) h8 hl (by omega) (by omega) (by omega)
  rw [show (t2.1, t2.2) = t2 from rfl] at s3
  generalize breakStep a (b - a) (1 <<< bitsLen (b - a)) t2 (a + (b - a) / 4 * 2 - 1 + 2) = t3 at *
  have s4 : s_q22_0 (a : Int) (b : Int) (((1 <<< bitsLen (b - a) : Nat) : Int), ()) (((a + (b - a) / 4 * 2 - 1 + 3 : Nat) : Int), (t3.2.toList, ((t3.1.toNat : Int), ()))) = some (.inr (((a + (b - a) / 4 * 2 - 1 + 3 : Nat) : Int), (t3.2.toList, ((t3.1.toNat : Int), ())))) := by
    have ea1 : pAdd .i64 ((a + (b - a) / 4 * 2 : Nat) : Int) 1 = ((a + (b - a) / 4 * 2 + 1 : Nat) : Int) := add1 (by omega)
    have ele : pLe ((a + (b - a) / 4 * 2 - 1 + 3 : Nat) : Int) ((a + (b - a) / 4 * 2 + 1 : Nat) : Int) = false := by rw [leN]; simp; omega
    unfold s_q22_0
    simp only [e4, eba, eq4, em, ea, ea1, ele, if_true, Bool.false_eq_true, if_false]
  refine ⟨(t3.1.toNat : Int), ?_⟩
  rw [pIter_inl s1, pIter_inl s2, pIter_inl s3, pIter_inr s4]
  rfl
end Go.Xr.Try
