import Derived.Test.YtjidecalfabkbaaDgen
set_option linter.unusedVariables false
set_option linter.unusedSimpArgs false
set_option maxRecDepth 100000
namespace Go.Xr.Try
open Go Go.Xr

/-! a directory's bytes, and back -/
def byteV (n : Int) (k : Nat) : Int := n / 256 ^ k % 256
theorem byteV_bd (n : Int) (k : Nat) : 0 ≤ byteV n k ∧ byteV n k < 256 := by unfold byteV; omega
theorem byte_eq {n : Int} (h0 : 0 ≤ n) (k : Nat) (hk : k ≤ 4) : pWrap .u8 (pShr .i64 n ((8 * k : Nat) : Int)) = byteV n k := by
  show IntKind.wrap .u8 (Int.fdiv n (2 ^ (min ((8 * k : Nat) : Int).toNat IntKind.i64.bits))) = _
  have e : min ((8 * k : Nat) : Int).toNat IntKind.i64.bits = 8 * k := by
    have : IntKind.i64.bits = 64 := rfl
    omega
  rw [e, Int.fdiv_eq_ediv_of_nonneg _ (Int.pow_nonneg (by decide))]
  have e2 : (2 : Int) ^ (8 * k) = 256 ^ k := by rw [Int.pow_mul]; rfl
  rw [e2]
  have : ∀ v : Int, IntKind.wrap .u8 v = v % 256 := fun v => by simp [IntKind.wrap, IntKind.bits, IntKind.signed]
  rw [this]
  rfl
def num2 (n : Int) : List Int := [byteV n 1, byteV n 0]
def num4 (n : Int) : List Int := [byteV n 3, byteV n 2, byteV n 1, byteV n 0]
theorem num_step {n : Int} (h0 : 0 ≤ n) (k : Nat) (hk : k ≤ 4) (l : List Int) (hl : l.length < 100) : s_q24_0 n ((k : Int), (l, ())) = some (.inl ((k : Int) - 1, (l ++ [byteV n k], ()))) := by
  unfold s_q24_0
  have e1 : pLe 0 (k : Int) = true := decide_eq_true (by omega)
  have e2 : pMul .i64 8 (k : Int) = ((8 * k : Nat) : Int) := by rw [mul64 (by omega) (by omega)]; omega
  have e3 : pLe 0 ((8 * k : Nat) : Int) = true := decide_eq_true (by omega)
  have e4 : pSub .i64 (k : Int) 1 = (k : Int) - 1 := sub64 (by omega) (by omega)
  have e5 : ∀ v : Int, pRoom (pIAdd (pLen l) (pLen [v])) = true := fun v => by simp only [pRoom, pIAdd, pLen]; exact decide_eq_true (by simp; omega)
  simp only [e1, e2, e3, e4, e5, byte_eq h0 k hk, if_true, pApp]
theorem num_end (n : Int) (l : List Int) : s_q24_0 n (-1, (l, ())) = some (.inr (-1, (l, ()))) := by
  unfold s_q24_0
  have e1 : pLe 0 (-1) = false := by decide
  simp only [e1, Bool.false_eq_true, if_false]
theorem number2 {n : Int} (h0 : 0 ≤ n) : m_q24 n 2 = some (num2 n, ()) := by
  unfold m_q24
  have e : pSub .i64 2 1 = ((1 : Nat) : Int) := by decide
  have s1 := num_step h0 1 (by omega) [] (by simp)
  have s2 := num_step h0 0 (by omega) [byteV n 1] (by simp)
  have z1 : ((1 : Nat) : Int) - 1 = ((0 : Nat) : Int) := by decide
  have z2 : ((0 : Nat) : Int) - 1 = -1 := by decide
  rw [z1] at s1
  rw [z2] at s2
  rw [e, pIter_inl s1, List.nil_append, pIter_inl s2, pIter_inr (num_end n _)]
  rfl
theorem number4 {n : Int} (h0 : 0 ≤ n) : m_q24 n 4 = some (num4 n, ()) := by
  unfold m_q24
  have e : pSub .i64 4 1 = ((3 : Nat) : Int) := by decide
  have s1 := num_step h0 3 (by omega) [] (by simp)
  have s2 := num_step h0 2 (by omega) [byteV n 3] (by simp)
  have s3 := num_step h0 1 (by omega) [byteV n 3, byteV n 2] (by simp)
  have s4 := num_step h0 0 (by omega) [byteV n 3, byteV n 2, byteV n 1] (by simp)
  have z0 : ((3 : Nat) : Int) - 1 = ((2 : Nat) : Int) := by decide
  have z1 : ((2 : Nat) : Int) - 1 = ((1 : Nat) : Int) := by decide
  have z2 : ((1 : Nat) : Int) - 1 = ((0 : Nat) : Int) := by decide
  have z3 : ((0 : Nat) : Int) - 1 = -1 := by decide
  rw [z0] at s1
  rw [z1] at s2
  rw [z2] at s3
  rw [z3] at s4
  rw [e, pIter_inl s1, List.nil_append, pIter_inl s2]
  show pBind (pIter _ (_, ([byteV n 3, byteV n 2], ()))) _ = _
  rw [pIter_inl s3]
  show pBind (pIter _ (_, ([byteV n 3, byteV n 2, byteV n 1], ()))) _ = _
  rw [pIter_inl s4, pIter_inr (num_end n _)]
  rfl
theorem or_byte {a c : Int} (ha : 0 ≤ a) (ha2 : a < 2 ^ 40) (hc : 0 ≤ c) (hc2 : c < 256) : pOr .i64 (pShl .i64 a 8) (pWrap .i64 c) = a * 256 + c := by
  have e1 : pWrap .i64 c = c := wrap64 (by omega) (by omega)
  have e2 : pShl .i64 a 8 = a * 256 := by
    show IntKind.i64.wrap (a * 2 ^ 8) = _
    rw [wrap64 (by omega) (by omega)]
    rfl
  rw [e1, e2]
  obtain ⟨x, rfl⟩ : ∃ x : Nat, a = (x : Int) := ⟨a.toNat, by omega⟩
  obtain ⟨y, rfl⟩ : ∃ y : Nat, c = (y : Int) := ⟨c.toNat, by omega⟩
  show IntKind.i64.wrap ((BitVec.ofInt 64 ((x : Int) * 256) ||| BitVec.ofInt 64 (y : Int)).toNat : Int) = _
  have h1 : (x : Int) * 256 = ((x * 256 : Nat) : Int) := by omega
  rw [h1, BitVec.ofInt_natCast, BitVec.ofInt_natCast, BitVec.toNat_or, BitVec.toNat_ofNat, BitVec.toNat_ofNat, Nat.mod_eq_of_lt (by omega), Nat.mod_eq_of_lt (by omega)]
  have h2 : x * 256 ||| y = x * 256 + y := by
    have := Nat.shiftLeft_add_eq_or_of_lt (show y < 2 ^ 8 by omega) x
    rw [Nat.shiftLeft_eq] at this
    exact this.symm
  rw [h2, wrap64 (by omega) (by omega)]
  omega
theorem back_step {l : List Int} {a : Int} {i : Nat} (hi : i < l.length) (hl : l.length < 100) (ha : 0 ≤ a) (ha2 : a < 2 ^ 40) (hc : 0 ≤ l.getD i 0 ∧ l.getD i 0 < 256) : s_q21_0 l (a, ((i : Int), ())) = some (.inl (a * 256 + l.getD i 0, (((i + 1 : Nat) : Int), ()))) := by
  unfold s_q21_0
  have e : pLe 0 8 = true := by decide
  simp only [lt_nat hi, in_nat hi, e, get_nat, or_byte ha ha2 hc.1 hc.2, add_one (i := i) (by omega), if_true]
theorem back_end {l : List Int} {a : Int} {i : Nat} (hi : i = l.length) : s_q21_0 l (a, ((i : Int), ())) = some (.inr (a, ((i : Int), ()))) := by
  unfold s_q21_0
  have e : pLt (i : Int) (pLen l) = false := decide_eq_false (by simp only [pLen]; omega)
  simp only [e, Bool.false_eq_true, if_false]
theorem back2 {n : Int} (h0 : 0 ≤ n) (h1 : n < 65536) : m_q21 (num2 n) = some (n, ()) := by
  unfold m_q21
  have b1 := byteV_bd n 1
  have b0 := byteV_bd n 0
  have s1 := back_step (l := num2 n) (a := 0) (i := 0) (by simp [num2]) (by simp [num2]) (by omega) (by omega) b1
  have s2 := back_step (l := num2 n) (a := 0 * 256 + byteV n 1) (i := 1) (by simp [num2]) (by simp [num2]) (by omega) (by omega) b0
  have s3 := back_end (l := num2 n) (a := (0 * 256 + byteV n 1) * 256 + byteV n 0) (i := 2) (by simp [num2])
  have h := (pIter_inl s1).trans ((pIter_inl s2).trans (pIter_inr s3))
  have : pIter (s_q21_0 (num2 n)) (0, (0, ())) = some ((0 * 256 + byteV n 1) * 256 + byteV n 0, (((2 : Nat) : Int), ())) := h
  rw [this]
  simp only [pBind, Option.bind_some]
  have e : (0 * 256 + byteV n 1) * 256 + byteV n 0 = n := by
    simp only [byteV, Int.pow_succ, Int.pow_zero] at *
    omega
  rw [e]
theorem back4 {n : Int} (h0 : 0 ≤ n) (h1 : n < 4294967296) : m_q21 (num4 n) = some (n, ()) := by
  unfold m_q21
  have b3 := byteV_bd n 3
  have b2 := byteV_bd n 2
  have b1 := byteV_bd n 1
  have b0 := byteV_bd n 0
  have s1 := back_step (l := num4 n) (a := 0) (i := 0) (by simp [num4]) (by simp [num4]) (by omega) (by omega) b3
  have s2 := back_step (l := num4 n) (a := 0 * 256 + byteV n 3) (i := 1) (by simp [num4]) (by simp [num4]) (by omega) (by omega) b2
  have s3 := back_step (l := num4 n) (a := (0 * 256 + byteV n 3) * 256 + byteV n 2) (i := 2) (by simp [num4]) (by simp [num4]) (by omega) (by omega) b1
  have s4 := back_step (l := num4 n) (a := ((0 * 256 + byteV n 3) * 256 + byteV n 2) * 256 + byteV n 1) (i := 3) (by simp [num4]) (by simp [num4]) (by omega) (by omega) b0
  have s5 := back_end (l := num4 n) (a := (((0 * 256 + byteV n 3) * 256 + byteV n 2) * 256 + byteV n 1) * 256 + byteV n 0) (i := 4) (by simp [num4])
  have h := (pIter_inl s1).trans ((pIter_inl s2).trans ((pIter_inl s3).trans ((pIter_inl s4).trans (pIter_inr s5))))
  have : pIter (s_q21_0 (num4 n)) (0, (0, ())) = some ((((0 * 256 + byteV n 3) * 256 + byteV n 2) * 256 + byteV n 1) * 256 + byteV n 0, (((4 : Nat) : Int), ())) := h
  rw [this]
  simp only [pBind, Option.bind_some]
  have e : (((0 * 256 + byteV n 3) * 256 + byteV n 2) * 256 + byteV n 1) * 256 + byteV n 0 = n := by
    simp only [byteV, Int.pow_succ, Int.pow_zero] at *
    omega
  rw [e]
/-! rows one behind the other -/
theorem take_flat {ls : List (List Int)} {i : Nat} (hi : i < ls.length) : (ls.take (i + 1)).flatten = (ls.take i).flatten ++ ls.getD i [] := by
  rw [List.take_add_one, List.flatten_append]
  simp [List.getD_eq_getElem?_getD, hi]
theorem take_flat_le (ls : List (List Int)) (i : Nat) : (ls.take i).flatten.length ≤ ls.flatten.length := by
  have : ls.flatten = (ls.take i).flatten ++ (ls.drop i).flatten := by rw [← List.flatten_append, List.take_append_drop]
  rw [this, List.length_append]
  omega
theorem concat_ok {ls : List (List Int)} (hl : ls.length ≤ 100) (ht : ls.flatten.length ≤ 4096) : m_q34 ls = some (ls.flatten, ()) := by
  have hd : ∀ i, i < ls.length → (ls.getD i []).length ≤ ls.flatten.length := fun i hi => by
    have h1 := take_flat_le ls (i + 1)
    rw [take_flat hi, List.length_append] at h1
    omega
  have p0 : pIter (s_q34_0 ls) (0, (0, ())) = some ((ls.flatten.length : Int), ((ls.length : Int), ())) := by
    have h := pIter_count (step := s_q34_0 ls) (F := fun i : Nat => (((ls.take i).flatten.length : Int), ((i : Int), ()))) (n := ls.length) (x := ((ls.flatten.length : Int), ((ls.length : Int), ()))) (fun i hi => ?_) ?_ ls.length 0 (by omega)
    · simpa using h
    · unfold s_q34_0
      have b1 := take_flat_le ls i
      have b2 := hd i hi
      have e1 : pAdd .i64 ((ls.take i).flatten.length : Int) (pLen (ls.getD i [])) = ((ls.take (i + 1)).flatten.length : Int) := by
        rw [take_flat hi, List.length_append, add64 (by simp only [pLen]; omega) (by simp only [pLen]; omega)]
        simp only [pLen]; omega
      have e2 : pLt ((ls.take (i + 1)).flatten.length : Int) 0 = false := decide_eq_false (by omega)
      simp only [lt_nat hi, in_nat hi, get_nat, e1, e2, add_one (i := i) (by omega), if_true, Bool.false_eq_true, if_false]
    · unfold s_q34_0
      have e : pLt (ls.length : Int) (pLen ls) = false := decide_eq_false (by simp only [pLen]; omega)
      simp only [e, Bool.false_eq_true, if_false, List.take_length]
  have loop : ∀ step : Int × (List Int × Unit) → Option ((Int × (List Int × Unit)) ⊕ (Int × (List Int × Unit))), (∀ d, step d = s_q34_1 ls d) → pIter step (0, ([], ())) = some ((ls.length : Int), (ls.flatten, ())) := by
    intro step hs
    have h := pIter_count (step := step) (F := fun i : Nat => ((i : Int), ((ls.take i).flatten, ()))) (n := ls.length) (x := ((ls.length : Int), (ls.flatten, ()))) (fun i hi => ?_) ?_ ls.length 0 (by omega)
    · simpa using h
    · rw [hs]
      unfold s_q34_1
      have b1 := take_flat_le ls i
      have b2 := hd i hi
      have e1 : pRoom (pIAdd (pLen (ls.take i).flatten) (pLen (ls.getD i []))) = true := by simp only [pRoom, pIAdd, pLen]; exact decide_eq_true (by omega)
      simp only [lt_nat hi, in_nat hi, get_nat, e1, add_one (i := i) (by omega), take_flat hi, pApp, if_true]
    · rw [hs]
      unfold s_q34_1
      have e : pLt (ls.length : Int) (pLen ls) = false := decide_eq_false (by simp only [pLen]; omega)
      simp only [e, Bool.false_eq_true, if_false, List.take_length]
  unfold m_q34
  simp only [p0, pBind, Option.bind_some]
  generalize hn : (ls.flatten.length : Int) = n at *
  have n0 : 0 ≤ n := by omega
  have g : (m_q37 n = some (.inl ([], ([], ())))) ∨ m_q37 n = some (.inr ([], ())) := by
    unfold m_q37
    have e1 : pLt n 0 = false := decide_eq_false (by omega)
    have e2 : pSub .i64 n (pSub .i64 0 0) = n := by
      have : pSub .i64 0 0 = 0 := by decide
      rw [this, sub64 (by omega) (by omega)]
      omega
    have e3 : pPart 0 0 0 = true := by decide
    have e4 : pSize n n = true := decide_eq_true (by omega)
    have e5 : pPart 0 0 (pLen (pRep n (0 : Int))) = true := decide_eq_true (by simp only [pLen]; omega)
    simp only [e1, e2, e3, e4, e5, Bool.false_eq_true, if_false, if_true]
    split
    · left; rfl
    · right; rfl
  rcases g with g | g
  · simp only [g, Option.bind_some, pCase, loop (s_q34_1 ls) (fun d => rfl)]
  · simp only [g, Option.bind_some, pCase, loop (s_q34_2 ls) (fun d => rfl)]
/-! an entry's ten bytes -/
def encE (d : Int) (x : EN) : List Int := num2 (keyF d x) ++ (num2 x.2.1 ++ (num2 x.2.2.1 ++ num4 x.2.2.2))
def bytesV (d : Int) (L : List EN) : List Int := L.flatMap (encE d)
theorem encE_len (d : Int) (x : EN) : (encE d x).length = 10 := rfl
theorem bytesV_len (d : Int) : ∀ L : List EN, (bytesV d L).length = 10 * L.length
  | [] => rfl
  | x :: L => by
    have ih := bytesV_len d L
    simp only [bytesV, List.flatMap_cons, List.length_append, encE_len, List.length_cons] at *
    omega
/-- sums are 32 bits -/
def SumsOK (L : List EN) : Prop := ∀ x ∈ L, 0 ≤ x.2.2.2 ∧ x.2.2.2 < 4294967296
theorem key_bd {d : Int} {x : EN} (h : okE d x = true) : 0 ≤ keyF d x ∧ keyF d x < 65536 := by
  have hp := (okE_iff.1 h).1
  obtain ⟨b1, b2, _⟩ := keyV_bd hp
  obtain ⟨⟨h0, h1⟩, a1, _⟩ := okP_iff.1 hp
  have := aheadV_le (d := d) (l := x.1.1 - 1) h1 (by omega)
  unfold keyF
  omega
theorem bytes_ok {d : Int} {L : List EN} (hl : L.length ≤ 200) (hok : ∀ x ∈ L, okE d x = true) (hs : SumsOK L) : m_q9 L d = some (bytesV d L, ()) := by
  unfold m_q9 m_q7 m_q12
  simp only [pBind, Option.bind_some]
  have h := pIter_count (step := s_q9_0 (pLen L, ()) L d) (F := fun i : Nat => ((i : Int), (bytesV d (L.take i), (([] : List Unit), ())))) (n := L.length) (x := ((L.length : Int), (bytesV d L, (([] : List Unit), ())))) (fun i hi => ?_) ?_ L.length 0 (by omega)
  · have h' : pIter (s_q9_0 (pLen L, ()) L d) (0, ([], ([], ()))) = some ((L.length : Int), (bytesV d L, ([], ()))) := by simpa [bytesV] using h
    rw [h']
    rfl
  · unfold s_q9_0
    have hm : L.getD i Z0 ∈ L := by rw [getD_get hi]; exact List.getElem_mem hi
    obtain ⟨_, a1, a2, a3, a4, a5⟩ := okE_iff.1 (hok _ hm)
    obtain ⟨k1, k2⟩ := key_bd (hok _ hm)
    obtain ⟨s1, s2⟩ := hs _ hm
    have hw : pWrap .i64 (L.getD i Z0).2.2.2 = (L.getD i Z0).2.2.2 := wrap64 (by omega) (by omega)
    have hlen : (bytesV d (L.take i)).length ≤ 2000 := by rw [bytesV_len, List.length_take]; omega
    have hcc := concat_ok (ls := [bytesV d (L.take i), num2 (keyF d (L.getD i Z0)), num2 (L.getD i Z0).2.1, num2 (L.getD i Z0).2.2.1, num4 (L.getD i Z0).2.2.2]) (by simp) (by simp [num2, num4]; omega)
    have hfl : [bytesV d (L.take i), num2 (keyF d (L.getD i Z0)), num2 (L.getD i Z0).2.1, num2 (L.getD i Z0).2.2.1, num4 (L.getD i Z0).2.2.2].flatten = bytesV d (L.take (i + 1)) := by
      rw [List.take_add_one]
      simp only [bytesV, List.flatMap_append, encE, List.flatten_cons, List.flatten_nil, List.append_nil]
      congr 1
      simp [List.getD_eq_getElem?_getD, hi, encE]
    rw [hfl] at hcc
    have hkey : m_q28 d (L.getD i Z0).1 = some (keyF d (L.getD i Z0), ()) := key_eq d _
    simp only [lt_nat hi, in_nat hi, get_nat, hkey, number2 k1, number2 (show 0 ≤ (L.getD i Z0).2.1 by omega), number2 (show 0 ≤ (L.getD i Z0).2.2.1 by omega), hw, number4 s1, hcc, add_one (i := i) (by omega), if_true, pBind, Option.bind_some]
  · unfold s_q9_0
    have e : pLt (L.length : Int) (pLen L) = false := decide_eq_false (by simp only [pLen]; omega)
    simp only [e, Bool.false_eq_true, if_false, List.take_length]
theorem decode_loop {d : Int} : ∀ (M acc : List EN), (∀ x ∈ M, okE d x = true) → SumsOK M → acc.length + M.length ≤ 200 → pIter (s_q6_0 d) (bytesV d M, (acc, ())) = some (.inr ([], (acc ++ M, ())))
  | [], acc, _, _, _ => by
    have : s_q6_0 d (bytesV d [], (acc, ())) = some (.inr (.inr ([], (acc ++ [], ())))) := by
      unfold s_q6_0
      have e : pLt 0 (pLen (bytesV d [])) = false := by show pLt 0 0 = false; decide
      simp only [e, Bool.false_eq_true, if_false, List.append_nil]
      rfl
    exact pIter_inr this
  | x :: M, acc, hok, hs, hl => by
    have ih := decode_loop (d := d) M (acc ++ [x]) (fun y hy => hok y (List.mem_cons_of_mem _ hy)) (fun y hy => hs y (List.mem_cons_of_mem _ hy)) (by simp at hl ⊢; omega)
    obtain ⟨hp, a1, a2, a3, a4, a5⟩ := okE_iff.1 (hok x (by simp))
    obtain ⟨k1, k2⟩ := key_bd (hok x (by simp))
    obtain ⟨s1, s2⟩ := hs x (by simp)
    have hc : bytesV d (x :: M) = encE d x ++ bytesV d M := rfl
    have hlen : (bytesV d (x :: M)).length = 10 + (bytesV d M).length := by rw [hc, List.length_append, encE_len]
    have st : s_q6_0 d (bytesV d (x :: M), (acc, ())) = some (.inl (bytesV d M, (acc ++ [x], ()))) := by
      unfold s_q6_0
      have p0 : pLt 0 (pLen (bytesV d (x :: M))) = true := decide_eq_true (by simp only [pLen]; omega)
      have p1 : pPart 0 2 (pLen (bytesV d (x :: M))) = true := decide_eq_true (by simp only [pLen]; omega)
      have p2 : pPart 2 4 (pLen (bytesV d (x :: M))) = true := decide_eq_true (by simp only [pLen]; omega)
      have p3 : pPart 4 6 (pLen (bytesV d (x :: M))) = true := decide_eq_true (by simp only [pLen]; omega)
      have p4 : pPart 6 10 (pLen (bytesV d (x :: M))) = true := decide_eq_true (by simp only [pLen]; omega)
      have p5 : pPart 10 (pLen (bytesV d (x :: M))) (pLen (bytesV d (x :: M))) = true := decide_eq_true (by simp only [pLen]; omega)
      have c1 : pCut (bytesV d (x :: M)) 0 (pISub 2 0) = num2 (keyF d x) := rfl
      have c2 : pCut (bytesV d (x :: M)) 2 (pISub 4 2) = num2 x.2.1 := rfl
      have c3 : pCut (bytesV d (x :: M)) 4 (pISub 6 4) = num2 x.2.2.1 := rfl
      have c4 : pCut (bytesV d (x :: M)) 6 (pISub 10 6) = num4 x.2.2.2 := rfl
      have c5 : pCut (bytesV d (x :: M)) 10 (pISub (pLen (bytesV d (x :: M))) 10) = bytesV d M := by
        have e1 : (10 : Int).toNat = 10 := rfl
        have e2 : (pISub (pLen (bytesV d (x :: M))) 10).toNat = (bytesV d M).length := by simp only [pISub, pLen]; omega
        show ((bytesV d (x :: M)).drop (10 : Int).toNat).take (pISub (pLen (bytesV d (x :: M))) 10).toNat = _
        rw [e2, hc, e1]
        show (List.drop 10 (encE d x ++ bytesV d M)).take _ = _
        have : List.drop 10 (encE d x ++ bytesV d M) = bytesV d M := rfl
        rw [this, List.take_length]
      have hat : m_q25 d (keyF d x) = some (x.1, (true, ())) := at_key hp
      have w : pWrap .u32 x.2.2.2 = x.2.2.2 := by
        show IntKind.wrap .u32 _ = _
        simp [IntKind.wrap, IntKind.bits, IntKind.signed]
        omega
      have n0 : pNot true = false := rfl
      have rm : ∀ z : EN, pRoom (pIAdd (pLen acc) (pLen [z])) = true := fun z => by simp only [pRoom, pIAdd, pLen]; exact decide_eq_true (by simp at hl ⊢; omega)
      simp only [p0, p1, p2, p3, p4, p5, c1, c2, c3, c4, c5, back2 k1 k2, back2 (show 0 ≤ x.2.1 by omega) (show x.2.1 < 65536 by omega), back2 (show 0 ≤ x.2.2.1 by omega) (show x.2.2.1 < 65536 by omega), back4 s1 s2, hat, w, n0, rm, pAmb_self, if_true, Bool.false_eq_true, if_false, pBind, Option.bind_some]
    rw [pIter_inl st, ih, List.append_assoc]
    rfl
theorem decode_ok {d : Int} {M : List EN} (hl : M.length ≤ 200) (h : DirOK d M) (hs : SumsOK M) : m_q6 d (bytesV d M) = some (.inr (0, (M, (d, ())))) := by
  obtain ⟨h0, h1⟩ := h.hd
  unfold m_q6
  have hc : m_q27 d = some (aheadV d (-1), ()) := by rw [count_eq, okD_iff.2 ⟨h0, h1⟩]; rfl
  have hcp := count_pos h0 h1
  have e0 : pEq (aheadV d (-1)) 0 = false := decide_eq_false (by omega)
  have e1 : pNot (pEq 10 0) = true := by decide
  have e2 : pNot (pEq (pRem (pLen (bytesV d M)) 10) 0) = false := by
    have : pRem (pLen (bytesV d M)) 10 = 0 := by
      show Int.tmod _ 10 = 0
      simp only [pLen, bytesV_len]
      rw [Int.tmod_eq_emod_of_nonneg (by omega)]
      omega
    rw [this]; decide
  have hd := decode_loop (d := d) M [] h.ok hs (by simpa using hl)
  have eqq : m_q3 (bytesV d M) (bytesV d M) = some (true, ()) := by
    unfold m_q3
    simp [pEqS]
  have e7 : pNot (pEq 0 0) = false := by decide
  have n0 : pNot true = false := rfl
  simp only [hc, e0, e1, e2, hd, List.nil_append, new_same hl h, bytes_ok hl h.ok hs, eqq, e7, n0, pBind, Option.bind_some, pCase, if_true, Bool.false_eq_true, if_false]
theorem decode_bad {d : Int} {b : List Int} (h0 : 0 ≤ d) (h1 : d ≤ 3) (hb : b.length % 10 ≠ 0) : m_q6 d b = some (.inl (3, ())) := by
  unfold m_q6
  have hc : m_q27 d = some (aheadV d (-1), ()) := by rw [count_eq, okD_iff.2 ⟨h0, h1⟩]; rfl
  have hcp := count_pos h0 h1
  have e0 : pEq (aheadV d (-1)) 0 = false := decide_eq_false (by omega)
  have e1 : pNot (pEq 10 0) = true := by decide
  have e2 : pNot (pEq (pRem (pLen b) 10) 0) = true := by
    have : pEq (pRem (pLen b) 10) 0 = false := by
      refine decide_eq_false ?_
      show ¬ Int.tmod (b.length : Int) 10 = 0
      rw [Int.tmod_eq_emod_of_nonneg (by omega)]
      omega
    rw [this]; rfl
  simp only [hc, e0, e1, e2, pBind, Option.bind_some, if_true, Bool.false_eq_true, if_false]
theorem all_ok {L : List EN} (hl : L.length ≤ 200) : m_q68 (-1) L = some (L, ()) := by
  unfold m_q68 m_q7 m_q12
  simp only [pBind, Option.bind_some]
  have h := pIter_count (step := s_q68_0 (pLen L, ()) L (-1)) (F := fun i : Nat => ((i : Int), (L.take i, (([] : List Unit), ())))) (n := L.length) (x := .inr ((L.length : Int), (L, (([] : List Unit), ())))) (fun i hi => ?_) ?_ L.length 0 (by omega)
  · have h' : pIter (s_q68_0 (pLen L, ()) L (-1)) (0, ([], ([], ()))) = some (.inr ((L.length : Int), (L, ([], ())))) := by simpa using h
    rw [h']
    rfl
  · unfold s_q68_0
    have e1 : pEq (pLen (L.take i)) (-1) = false := decide_eq_false (by simp only [pLen]; omega)
    have e2 : pRoom (pIAdd (pLen (L.take i)) (pLen [L.getD i Z0])) = true := by simp only [pRoom, pIAdd, pLen, List.length_take]; exact decide_eq_true (by simp; omega)
    have e3 : pApp (L.take i) [L.getD i Z0] = L.take (i + 1) := by
      rw [List.take_add_one]
      simp [List.getD_eq_getElem?_getD, hi]
    simp only [lt_nat hi, in_nat hi, get_nat, e1, e2, e3, add_one (i := i) (by omega), if_true, Bool.false_eq_true, if_false]
  · unfold s_q68_0
    have e : pLt (L.length : Int) (pLen L) = false := decide_eq_false (by simp only [pLen]; omega)
    simp only [e, Bool.false_eq_true, if_false, List.take_length]
theorem same_ok {L : List EN} (hl : L.length ≤ 200) : m_q70 L L = some (true, ()) := by
  unfold m_q70
  have e0 : pNot (pEq (pLen L) (pLen L)) = false := by simp [pNot, pEq]
  simp only [e0, Bool.false_eq_true, if_false, pBind]
  have h := pIter_count (step := s_q70_0 L L) (F := fun i : Nat => ((i : Int), ())) (n := L.length) (x := .inr ((L.length : Int), ())) (fun i hi => ?_) ?_ L.length 0 (by omega)
  · have h' : pIter (s_q70_0 L L) (0, ()) = some (.inr ((L.length : Int), ())) := by simpa using h
    rw [h']
    rfl
  · unfold s_q70_0
    have e1 : ∀ v : Int, pEq v v = true := fun v => by simp [pEq]
    have e2 : pNot (pAndB (pAndB true (pAndB true true)) (pAndB true (pAndB true true))) = false := rfl
    simp only [lt_nat hi, in_nat hi, get_nat, e1, e2, add_one (i := i) (by omega), if_true, Bool.false_eq_true, if_false]
  · unfold s_q70_0
    have e : pLt (L.length : Int) (pLen L) = false := decide_eq_false (by simp only [pLen]; omega)
    simp only [e, Bool.false_eq_true, if_false]
end Go.Xr.Try
