import Derived.Test.YtkooincefcodcaaLz1
set_option linter.unusedVariables false
set_option linter.unusedSimpArgs false
set_option maxRecDepth 100000
namespace Go.Xr.Try
open Go Go.Xr

/-! ### what is put -/
theorem best_prop {b : List Int} {i : Nat} (hn : (bestAt b i).2 ≠ 0) : 1 ≤ (bestAt b i).1 ∧ (bestAt b i).1 ≤ 4096 ∧ (bestAt b i).1 ≤ i ∧ 3 ≤ (bestAt b i).2 ∧ (bestAt b i).2 ≤ 258 ∧ i + (bestAt b i).2 ≤ b.length ∧
    ∀ x, x < (bestAt b i).2 → b.getD (i + x) 0 = b.getD (i - (bestAt b i).1 + x) 0 := by
  unfold bestAt at hn ⊢
  split at hn
  · rename_i h
    rw [if_pos h]
    rcases best_spec (b := b) (i := i) (placesL b i) (0, 0) with ⟨h1, _⟩ | ⟨p, h1, h2, h3, _⟩
    · rw [h1] at hn; exact (hn rfl).elim
    · rw [h2]
      have hp := occ_mem.1 ((List.takeWhile_sublist _).mem h1)
      have hne : near i p = true := by
        unfold placesL at h1
        exact (List.all_eq_true.1 (List.all_takeWhile (p := near i) (l := occ b (key3 b i) i))) p h1
      simp only [near, decide_eq_true_eq] at hne
      have h3 := key3_run h hp.1 hp.2
      have h4 : mlen b i p ≤ 258 := runL_le b 258 i p
      have h5 : i + mlen b i p ≤ b.length := runL_end b 258 i p (by omega)
      refine ⟨by simp only; omega, hne, by simp only; omega, h3, h4, h5, fun x hx => ?_⟩
      simp only at hx ⊢
      rw [show i - (i - p) + x = p + x by omega]
      exact runL_same b 258 i p x hx
  · exact (hn rfl).elim
def tok (b : List Int) (i : Nat) : List Int :=
  if (bestAt b i).2 = 0 then bitsL 0 1 ++ bitsL (b.getD i 0) 8 else bitsL 1 1 ++ bitsL (((bestAt b i).1 - 1 : Nat) : Int) 12 ++ bitsL (((bestAt b i).2 - 3 : Nat) : Int) 8
def adv (b : List Int) (i : Nat) : Nat := if (bestAt b i).2 = 0 then 1 else (bestAt b i).2
def bitsFrom (b : List Int) : Nat → Nat → List Int
  | 0, _ => []
  | f + 1, i => if i < b.length then tok b i ++ bitsFrom b f (i + adv b i) else []
theorem tok_bits (b : List Int) (i : Nat) : Bits (tok b i) := by
  unfold tok
  split
  · exact (bitsL_bits _ _).app (bitsL_bits _ _)
  · exact ((bitsL_bits _ _).app (bitsL_bits _ _)).app (bitsL_bits _ _)
theorem tok_len (b : List Int) (i : Nat) : (tok b i).length = if (bestAt b i).2 = 0 then 9 else 21 := by
  unfold tok
  split <;> simp [bitsL_len]
theorem adv_spec {b : List Int} {i : Nat} (hi : i < b.length) : 1 ≤ adv b i ∧ i + adv b i ≤ b.length ∧ (tok b i).length ≤ 9 * adv b i := by
  rw [tok_len]
  unfold adv
  split
  · omega
  · rename_i h
    have := best_prop h
    omega
theorem bitsFrom_bits (b : List Int) : ∀ f i, Bits (bitsFrom b f i)
  | 0, _ => bits_nil
  | f + 1, i => by
    unfold bitsFrom
    split
    · exact (tok_bits b i).app (bitsFrom_bits b f _)
    · exact bits_nil
theorem bitsFrom_len {b : List Int} : ∀ f i, i ≤ b.length → (bitsFrom b f i).length ≤ 9 * (b.length - i)
  | 0, _, _ => by simp [bitsFrom]
  | f + 1, i, h => by
    unfold bitsFrom
    split
    · rename_i hi
      have h1 := adv_spec hi
      have h2 := bitsFrom_len f (i + adv b i) h1.2.1
      simp only [List.length_append]
      omega
    · simp
theorem not_bad {v : Int} {k : Nat} (hk : k ≤ 32) (h0 : 0 ≤ v) (h1 : v < 2 ^ k) : ¬ PutBad v (k : Int) := by
  unfold PutBad
  simp only [Int.toNat_natCast, Int.ediv_eq_zero_of_lt h0 h1]
  omega
theorem small63 {v : Int} {k : Nat} (hk : k ≤ 32) (h1 : v < 2 ^ k) : v < 2 ^ 63 := by
  have : (2 : Nat) ^ k ≤ 2 ^ 32 := Nat.pow_le_pow_right (by omega) hk
  have h3 : ((2 ^ k : Nat) : Int) ≤ ((2 ^ 32 : Nat) : Int) := by omega
  simp at h3
  omega
theorem putN {v : Int} {k : Nat} (hk : k ≤ 32) (h0 : 0 ≤ v) (h1 : v < 2 ^ k) {L : List Int} (hL : Bits L) (hl : L.length ≤ 900000) :
    m_bits_Writer_Put v (k : Int) (packs L) (L.length : Int) = some (0, (packs (L ++ bitsL v k), (((L ++ bitsL v k).length : Int), ()))) ∧
    m_wainscotref1_Bits_Put v (k : Int) L = some (0, (L ++ bitsL v k, ())) := by
  have h2 := put_ok (small63 hk h1) (not_bad hk h0 h1) hL (by omega)
  have h3 := rput_ok (small63 hk h1) (not_bad hk h0 h1) (L := L) (by omega)
  simp only [Int.toNat_natCast] at h2 h3
  refine ⟨?_, h3⟩
  rw [h2]
  simp [bitsL_len]
theorem pack_step {b : List Int} (hb : Bytes b) (hlen : b.length ≤ 65535) {i : Nat} (hi : i < b.length) {L : List Int} (hL : Bits L) (hl : L.length ≤ 800000) :
    s_lz_Pack_0 b ((i : Int), (packs L, ((L.length : Int), (b, (prevs b (b.length - 2), ()))))) = some (.inl (((i + adv b i : Nat) : Int), (packs (L ++ tok b i), (((L ++ tok b i).length : Int), (b, (prevs b (b.length - 2), ())))))) ∧
    s_wainscotref1_Pack_0 b ((i : Int), (L, ())) = some (.inl (((i + adv b i : Nat) : Int), (L ++ tok b i, ()))) := by
  have h1 : pLt (i : Int) (pLen b) = true := decide_eq_true (by simp only [pLen]; omega)
  have h2 : pIn (i : Int) (pLen b) = true := decide_eq_true (by simp only [pLen]; omega)
  have h3 := at_ok (b := b) (by omega) (i := i) (by omega)
  have h4 := rmatch_ok (b := b) (by omega) hi
  unfold s_lz_Pack_0 s_wainscotref1_Pack_0 tok adv
  by_cases hn : (bestAt b i).2 = 0
  · have h5 : pEq (((bestAt b i).2 : Nat) : Int) 0 = true := decide_eq_true (by omega)
    have h6 : pLt 0 (((bestAt b i).2 : Nat) : Int) = false := decide_eq_false (by omega)
    obtain ⟨p1, q1⟩ := putN (v := 0) (k := 1) (by omega) (by omega) (by decide) hL (by omega)
    have hL1 : Bits (L ++ bitsL 0 1) := hL.app (bitsL_bits _ _)
    have hl1 : (L ++ bitsL 0 1).length = L.length + 1 := by simp [bitsL_len]
    have hg := hb.get i
    have h7 : pWrap .i64 (pGet 0 b (i : Int)) = b.getD i 0 := by
      simp only [pGet, Int.toNat_natCast, pWrap]
      exact wrap64 (by omega) (by omega)
    obtain ⟨p2, q2⟩ := putN (v := b.getD i 0) (k := 8) (by omega) (by omega) (by omega) hL1 (by omega)
    have h8 : pAdd .i64 (i : Int) 1 = ((i + 1 : Nat) : Int) := by rw [add64 (by omega) (by omega)]; omega
    have p1 : m_bits_Writer_Put 0 1 (packs L) (L.length : Int) = _ := p1
    have q1 : m_wainscotref1_Bits_Put 0 1 L = _ := q1
    have p2 : m_bits_Writer_Put (b.getD i 0) 8 (packs (L ++ bitsL 0 1)) ((L ++ bitsL 0 1).length : Int) = _ := p2
    have q2 : m_wainscotref1_Bits_Put (b.getD i 0) 8 (L ++ bitsL 0 1) = _ := q2
    simp only [h1, h2, h3, h4, h5, h6, h7, h8, p1, p2, q1, q2, pBind, Option.bind_some, if_true, if_pos hn, Bool.false_eq_true, if_false, List.append_assoc, and_self]
  · have h5 : pEq (((bestAt b i).2 : Nat) : Int) 0 = false := decide_eq_false (by omega)
    have h6 : pLt 0 (((bestAt b i).2 : Nat) : Int) = true := decide_eq_true (by omega)
    have hbp := best_prop hn
    obtain ⟨p1, q1⟩ := putN (v := 1) (k := 1) (by omega) (by omega) (by decide) hL (by omega)
    have hL1 : Bits (L ++ bitsL 1 1) := hL.app (bitsL_bits _ _)
    have hl1 : (L ++ bitsL 1 1).length = L.length + 1 := by simp [bitsL_len]
    have h7 : pSub .i64 (((bestAt b i).1 : Nat) : Int) 1 = (((bestAt b i).1 - 1 : Nat) : Int) := by rw [sub64 (by omega) (by omega)]; omega
    obtain ⟨p2, q2⟩ := putN (v := (((bestAt b i).1 - 1 : Nat) : Int)) (k := 12) (by omega) (by omega) (by omega) hL1 (by omega)
    have hL2 : Bits (L ++ bitsL 1 1 ++ bitsL (((bestAt b i).1 - 1 : Nat) : Int) 12) := hL1.app (bitsL_bits _ _)
    have hl2 : (L ++ bitsL 1 1 ++ bitsL (((bestAt b i).1 - 1 : Nat) : Int) 12).length = L.length + 13 := by simp [bitsL_len]
    have h8 : pSub .i64 (((bestAt b i).2 : Nat) : Int) 3 = (((bestAt b i).2 - 3 : Nat) : Int) := by rw [sub64 (by omega) (by omega)]; omega
    obtain ⟨p3, q3⟩ := putN (v := (((bestAt b i).2 - 3 : Nat) : Int)) (k := 8) (by omega) (by omega) (by omega) hL2 (by omega)
    have h9 : pAdd .i64 (i : Int) (((bestAt b i).2 : Nat) : Int) = ((i + (bestAt b i).2 : Nat) : Int) := by rw [add64 (by omega) (by omega)]; omega
    have p1 : m_bits_Writer_Put 1 1 (packs L) (L.length : Int) = _ := p1
    have q1 : m_wainscotref1_Bits_Put 1 1 L = _ := q1
    have p2 : m_bits_Writer_Put (((bestAt b i).1 - 1 : Nat) : Int) 12 (packs (L ++ bitsL 1 1)) ((L ++ bitsL 1 1).length : Int) = _ := p2
    have q2 : m_wainscotref1_Bits_Put (((bestAt b i).1 - 1 : Nat) : Int) 12 (L ++ bitsL 1 1) = _ := q2
    have p3 : m_bits_Writer_Put (((bestAt b i).2 - 3 : Nat) : Int) 8 (packs (L ++ bitsL 1 1 ++ bitsL (((bestAt b i).1 - 1 : Nat) : Int) 12)) ((L ++ bitsL 1 1 ++ bitsL (((bestAt b i).1 - 1 : Nat) : Int) 12).length : Int) = _ := p3
    have q3 : m_wainscotref1_Bits_Put (((bestAt b i).2 - 3 : Nat) : Int) 8 (L ++ bitsL 1 1 ++ bitsL (((bestAt b i).1 - 1 : Nat) : Int) 12) = _ := q3
    simp only [h1, h3, h4, h5, h6, pBind, Option.bind_some, if_true, if_neg hn, Bool.false_eq_true, if_false, p1, q1, h7, p2, q2, h8, p3, q3, h9]
    simp only [List.append_assoc, and_self]
theorem pack_loop {b : List Int} (hb : Bytes b) (hlen : b.length ≤ 65535) : ∀ (f i : Nat) (L : List Int), i ≤ b.length → b.length ≤ i + f → Bits L → L.length ≤ 16 + 9 * i →
    pIter (s_lz_Pack_0 b) ((i : Int), (packs L, ((L.length : Int), (b, (prevs b (b.length - 2), ()))))) = some ((b.length : Int), (packs (L ++ bitsFrom b f i), (((L ++ bitsFrom b f i).length : Int), (b, (prevs b (b.length - 2), ()))))) ∧
    pIter (s_wainscotref1_Pack_0 b) ((i : Int), (L, ())) = some ((b.length : Int), (L ++ bitsFrom b f i, ())) := by
  intro f
  induction f with
  | zero =>
    intro i L h1 h2 hL hl
    have e : i = b.length := by omega
    subst e
    have h1 : pLt (b.length : Int) (pLen b) = false := decide_eq_false (by simp only [pLen]; omega)
    constructor
    · refine pIter_inr ?_
      unfold s_lz_Pack_0
      simp only [h1, Bool.false_eq_true, if_false, bitsFrom, List.append_nil]
    · refine pIter_inr ?_
      unfold s_wainscotref1_Pack_0
      simp only [h1, Bool.false_eq_true, if_false, bitsFrom, List.append_nil]
  | succ f ih =>
    intro i L h1 h2 hL hl
    by_cases hi : i < b.length
    · obtain ⟨s1, s2⟩ := pack_step hb hlen hi hL (by omega)
      have ha := adv_spec hi
      obtain ⟨i1, i2⟩ := ih (i + adv b i) (L ++ tok b i) ha.2.1 (by omega) (hL.app (tok_bits b i)) (by simp only [List.length_append]; omega)
      rw [pIter_inl s1, pIter_inl s2, i1, i2]
      simp only [bitsFrom, if_pos hi, List.append_assoc, and_self]
    · have e : i = b.length := by omega
      subst e
      have h1 : pLt (b.length : Int) (pLen b) = false := decide_eq_false (by simp only [pLen]; omega)
      constructor
      · refine pIter_inr ?_
        unfold s_lz_Pack_0
        simp only [h1, Bool.false_eq_true, if_false, bitsFrom, List.append_nil, Nat.lt_irrefl]
      · refine pIter_inr ?_
        unfold s_wainscotref1_Pack_0
        simp only [h1, Bool.false_eq_true, if_false, bitsFrom, List.append_nil, Nat.lt_irrefl]
/-- all bits of packed bytes -/
def allBits (b : List Int) : List Int := bitsL (b.length : Int) 16 ++ bitsFrom b b.length 0
theorem allBits_bits (b : List Int) : Bits (allBits b) := (bitsL_bits _ _).app (bitsFrom_bits b _ _)
theorem allBits_len (b : List Int) : 16 ≤ (allBits b).length ∧ (allBits b).length ≤ 16 + 9 * b.length := by
  have := bitsFrom_len (b := b) b.length 0 (by omega)
  simp [allBits, bitsL_len]
  omega
/-- Packed bytes. -/
theorem pack_ok {b : List Int} (hb : Bytes b) (hlen : b.length ≤ 65535) : m_lz_Pack b = some (0, (packs (allBits b), ())) ∧ m_wainscotref1_Pack b = some (0, (packs (allBits b), ())) := by
  have h1 : pLt 65535 (pLen b) = false := decide_eq_false (by simp only [pLen]; omega)
  have h2 := new_ok (b := b) (by omega)
  obtain ⟨p1, q1⟩ := putN (v := (b.length : Int)) (k := 16) (by omega) (by omega) (by omega) bits_nil (by simp)
  have p1 : m_bits_Writer_Put (pLen b) 16 [] 0 = some (0, (packs (bitsL (b.length : Int) 16), (((bitsL (b.length : Int) 16).length : Int), ()))) := p1
  have q1 : m_wainscotref1_Bits_Put (pLen b) 16 [] = some (0, (bitsL (b.length : Int) 16, ())) := q1
  obtain ⟨l1, l2⟩ := pack_loop hb hlen b.length 0 (bitsL (b.length : Int) 16) (by omega) (by omega) (bitsL_bits _ _) (by simp [bitsL_len])
  have hal := allBits_len b
  have hpl := packs_len (allBits b)
  have w1 := bytes_ok (p := packs (allBits b)) ((allBits b).length : Int) (by omega)
  have w2 := rbytes_ok (allBits_bits b) (by omega)
  unfold m_lz_Pack m_wainscotref1_Pack
  simp only [Int.natCast_zero] at l1 l2
  simp only [h1, h2, p1, q1, l1, l2, pBind, Option.bind_some, Bool.false_eq_true, if_false]
  have w1 : m_bits_Writer_Bytes (packs (bitsL (b.length : Int) 16 ++ bitsFrom b b.length 0)) ((bitsL (b.length : Int) 16 ++ bitsFrom b b.length 0).length : Int) = _ := w1
  have w2 : m_wainscotref1_Bits_Bytes (bitsL (b.length : Int) 16 ++ bitsFrom b b.length 0) = _ := w2
  simp only [w1, w2, Option.bind_some, and_self]
theorem pack_big {b : List Int} (hlen : 65535 < b.length) : m_lz_Pack b = some (1, ([], ())) := by
  have h1 : pLt 65535 (pLen b) = true := decide_eq_true (by simp only [pLen]; omega)
  unfold m_lz_Pack
  simp only [h1, if_true]
end Go.Xr.Try
