import Derived.Test.YtkooincefcodcaaBits
import Derived.Test.YtkooincefcodcaaMBitsTells
set_option linter.unusedVariables false
set_option linter.unusedSimpArgs false
set_option maxRecDepth 100000
namespace Go.Xr.Try
open Go Go.Xr

theorem put_both {v k : Int} (h1 : v < 2 ^ 63) {L : List Int} (hL : Bits L) (hl : L.length ≤ 9000) : ∃ e L', m_bits_Writer_Put v k (packs L) (L.length : Int) = some (e, (packs L', ((L'.length : Int), ()))) ∧
    m_wainscotref1_Bits_Put v k L = some (e, (L', ())) ∧ Bits L' ∧ L'.length ≤ L.length + 32 := by
  by_cases h : PutBad v k
  · exact ⟨1, L, put_bad h1 h _ _, rput_bad h1 h _, hL, by omega⟩
  · refine ⟨0, L ++ bitsL v k.toNat, ?_, rput_ok h1 h hl, hL.app (bitsL_bits v _), ?_⟩
    · rw [put_ok h1 h hL hl]
      simp [bitsL_len]
    · have : ¬ 32 < k := fun e => h (.inr (.inl e))
      simp [bitsL_len]
      omega
theorem pair_small {a0 : List (List Int)} (h : ∀ y ∈ a0, ∀ z ∈ y, z < (2 : Int) ^ 63) (i j : Nat) : pGet 0 (pGet (pZero 2 0) a0 (i : Int)) (j : Int) < (2 : Int) ^ 63 := by
  simp only [pGet, Int.toNat_natCast, List.getD_eq_getElem?_getD]
  cases h1 : a0[i]? with
  | none =>
    simp only [Option.getD_none, pZero]
    cases h2 : (List.replicate 2 (0 : Int))[j]? with
    | none => simp
    | some z =>
      have := List.mem_of_getElem? h2
      rw [List.mem_replicate] at this
      simp [this.2]
  | some y =>
    simp only [Option.getD_some]
    cases h2 : y[j]? with
    | none => simp
    | some z => simpa using h y (List.mem_of_getElem? h1) z (List.mem_of_getElem? h2)
theorem tells_step {a0 : List (List Int)} (h : ∀ y ∈ a0, ∀ z ∈ y, z < (2 : Int) ^ 63) {i : Nat} (hi : i < a0.length) (hl : a0.length ≤ 60) {L : List Int} (hL : Bits L) (hn : L.length ≤ 32 * i) :
    ∃ L', s_BitsTells_0 a0 ((i : Int), (packs L, ((L.length : Int), (L, ())))) = some (.inl (((i + 1 : Nat) : Int), (packs L', ((L'.length : Int), (L', ()))))) ∧ Bits L' ∧ L'.length ≤ 32 * (i + 1) := by
  have hv := pair_small h i 0
  obtain ⟨e, L', p1, p2, p3, p4⟩ := put_both (k := pGet 0 (pGet (pZero 2 0) a0 (i : Int)) 1) hv hL (by omega)
  refine ⟨L', ?_, p3, by omega⟩
  have a1 : pLt (i : Int) (pLen a0) = true := decide_eq_true (by simp only [pLen]; omega)
  have a2 : pIn (i : Int) (pLen a0) = true := decide_eq_true (by simp only [pLen]; omega)
  have a3 : pIn 0 2 = true := rfl
  have a4 : pIn 1 2 = true := rfl
  have a5 : pNot (pEq e e) = false := by simp [pNot, pEq]
  have a6 : pNot (pEq (L'.length : Int) (pLen L')) = false := by simp [pNot, pEq, pLen]
  have a7 : pAdd .i64 (i : Int) 1 = ((i + 1 : Nat) : Int) := by rw [add64 (by omega) (by omega)]; omega
  have p1 : m_bits_Writer_Put (pGet 0 (pGet (pZero 2 0) a0 (i : Int)) 0) (pGet 0 (pGet (pZero 2 0) a0 (i : Int)) 1) (packs L) (L.length : Int) = some (e, (packs L', ((L'.length : Int), ()))) := p1
  have p2 : m_wainscotref1_Bits_Put (pGet 0 (pGet (pZero 2 0) a0 (i : Int)) 0) (pGet 0 (pGet (pZero 2 0) a0 (i : Int)) 1) L = some (e, (L', ())) := p2
  unfold s_BitsTells_0 m_bits_Writer_Len
  simp only [a1, a2, a3, a4, a7, p1, p2, a5, a6, pBind, Option.bind_some, pAmb_self, pCase, reduceIte, Bool.false_eq_true]
theorem tells_loop {a0 : List (List Int)} (h : ∀ y ∈ a0, ∀ z ∈ y, z < (2 : Int) ^ 63) (hl : a0.length ≤ 60) : ∀ (k i : Nat) (L : List Int), i + k = a0.length → Bits L → L.length ≤ 32 * i →
    ∃ L' n, pIter (s_BitsTells_0 a0) ((i : Int), (packs L, ((L.length : Int), (L, ())))) = some (.inr (n, (packs L', ((L'.length : Int), (L', ()))))) ∧ Bits L' ∧ L'.length ≤ 2000
  | 0, i, L, hi, hL, hn => by
    have a1 : pLt (i : Int) (pLen a0) = false := decide_eq_false (by simp only [pLen]; omega)
    refine ⟨L, (i : Int), pIter_inr ?_, hL, by omega⟩
    unfold s_BitsTells_0
    simp only [a1, reduceIte, Bool.false_eq_true]
  | k + 1, i, L, hi, hL, hn => by
    obtain ⟨L', s1, s2, s3⟩ := tells_step h (by omega) hl hL hn
    rw [pIter_inl s1]
    exact tells_loop h hl k (i + 1) L' (by omega) s2 s3
/-- both readers -/
theorem get_both {b : List Int} (hb : Bytes b) (hl : b.length ≤ 100) (n : Int) {p : Nat} (hp : p ≤ 8 * b.length) : ∃ (v e : Int) (q : Nat), m_bits_Reader_Get n b (p : Int) = some (v, (e, (b, ((q : Int), ())))) ∧ m_wainscotref1_Scan_Get n b (p : Int) = some (v, (e, (b, ((q : Int), ())))) ∧ q ≤ 8 * b.length := by
  by_cases h : n < 0 ∨ 32 < n
  · exact ⟨0, 1, p, (get_arg h).1, (get_arg h).2, hp⟩
  · have h0 : ¬ n < 0 := fun e => h (.inl e)
    have h1 : ¬ 32 < n := fun e => h (.inr e)
    obtain ⟨m, rfl⟩ := Int.eq_ofNat_of_zero_le (by omega : 0 ≤ n)
    by_cases h2 : p + m ≤ 8 * b.length
    · have := get_ok hb (by omega) (n := m) (p := p) (by omega) h2
      exact ⟨_, 0, p + m, this.1, this.2, h2⟩
    · have := get_short (b := b) (by omega) (n := m) (p := p) (by omega) hp (by omega)
      exact ⟨0, 3, p, this.1, this.2, hp⟩
theorem tells_step1 {a2 b : List Int} (hb : Bytes b) (hl : b.length ≤ 100) {i : Nat} (hi : i < a2.length) (hl2 : a2.length ≤ 60) {p : Nat} (hp : p ≤ 8 * b.length) :
    ∃ q : Nat, s_BitsTells_1 a2 ((i : Int), (b, ((p : Int), (b, ((p : Int), ()))))) = some (.inl (((i + 1 : Nat) : Int), (b, ((q : Int), (b, ((q : Int), ())))))) ∧ q ≤ 8 * b.length := by
  obtain ⟨v, e, q, g1, g2, g3⟩ := get_both hb hl (pGet 0 a2 (i : Int)) hp
  refine ⟨q, ?_, g3⟩
  obtain ⟨r1, r2⟩ := rest_ok hb (by omega) g3
  have a1 : pLt (i : Int) (pLen a2) = true := decide_eq_true (by simp only [pLen]; omega)
  have a2' : pIn (i : Int) (pLen a2) = true := decide_eq_true (by simp only [pLen]; omega)
  have a7 : pAdd .i64 (i : Int) 1 = ((i + 1 : Nat) : Int) := by rw [add64 (by omega) (by omega)]; omega
  have ne : ∀ x : Int, pNot (pEq x x) = false := fun x => by simp [pNot, pEq]
  unfold s_BitsTells_1 m_bits_Reader_Left m_wainscotref1_Scan_Left
  simp only [a1, a2', a7, g1, g2, r1, r2, ne, pBind, Option.bind_some, reduceIte, Bool.false_eq_true]
theorem tells_loop1 {a2 b : List Int} (hb : Bytes b) (hl : b.length ≤ 100) (hl2 : a2.length ≤ 60) : ∀ (k i p : Nat), i + k = a2.length → p ≤ 8 * b.length →
    ∃ x, pIter (s_BitsTells_1 a2) ((i : Int), (b, ((p : Int), (b, ((p : Int), ()))))) = some (.inr x)
  | 0, i, p, hi, hp => by
    have a1 : pLt (i : Int) (pLen a2) = false := decide_eq_false (by simp only [pLen]; omega)
    refine ⟨((i : Int), (b, ((p : Int), (b, ((p : Int), ()))))), pIter_inr ?_⟩
    unfold s_BitsTells_1
    simp only [a1, reduceIte, Bool.false_eq_true]
  | k + 1, i, p, hi, hp => by
    obtain ⟨q, s1, s2⟩ := tells_step1 (a2 := a2) hb hl (i := i) (by omega) hl2 hp
    rw [pIter_inl s1]
    exact tells_loop1 hb hl hl2 k (i + 1) q (by omega) s2
theorem BitsTells_true {a0 : List (List Int)} {a1 a2 : List Int} (h0 : ∀ y ∈ a0, ∀ z ∈ y, z < (2 : Int) ^ 63) (h1 : Bytes a1) : BitsTells_m a0 a1 a2 = some true := by
  unfold BitsTells_m
  by_cases c0 : 60 < a0.length
  · have : pLt 60 (pLen a0) = true := decide_eq_true (by simp only [pLen]; omega)
    simp only [this, awake_ok, pBind, Option.bind_some, reduceIte]
  by_cases c1 : 100 < a1.length
  · have b0 : pLt 60 (pLen a0) = false := decide_eq_false (by simp only [pLen]; omega)
    have : pLt 100 (pLen a1) = true := decide_eq_true (by simp only [pLen]; omega)
    simp only [b0, this, awake_ok, pBind, Option.bind_some, reduceIte, Bool.false_eq_true]
  by_cases c2 : 60 < a2.length
  · have b0 : pLt 60 (pLen a0) = false := decide_eq_false (by simp only [pLen]; omega)
    have b1 : pLt 100 (pLen a1) = false := decide_eq_false (by simp only [pLen]; omega)
    have : pLt 60 (pLen a2) = true := decide_eq_true (by simp only [pLen]; omega)
    simp only [b0, b1, this, awake_ok, pBind, Option.bind_some, reduceIte, Bool.false_eq_true]
  have b0 : pLt 60 (pLen a0) = false := decide_eq_false (by simp only [pLen]; omega)
  have b1 : pLt 100 (pLen a1) = false := decide_eq_false (by simp only [pLen]; omega)
  have b2 : pLt 60 (pLen a2) = false := decide_eq_false (by simp only [pLen]; omega)
  obtain ⟨L, n, l1, l2, l3⟩ := tells_loop h0 (by omega) a0.length 0 [] (by omega) bits_nil (by simp)
  obtain ⟨x, l4⟩ := tells_loop1 (a2 := a2) h1 (by omega) (by omega) a2.length 0 0 (by omega) (by omega)
  have e0 : packs [] = [] := rfl
  simp only [e0, List.length_nil, Int.natCast_zero] at l1 l4
  have hp : (packs L).length ≤ 300 := by rw [packs_len]; omega
  have r1 := read_ok (p := a1) (by omega)
  have w1 := bytes_ok (p := packs L) (L.length : Int) (by omega)
  have w2 := rbytes_ok l2 (by omega)
  have eqs : ∀ y : List Int, pNot (pEqS y y) = false := fun y => by simp [pNot, pEqS]
  simp only [b0, b1, b2, l1, r1, w1, w2, l4, eqs, awake_ok, pBind, Option.bind_some, pCase, pAmb_self, reduceIte, Bool.false_eq_true]
end Go.Xr.Try
