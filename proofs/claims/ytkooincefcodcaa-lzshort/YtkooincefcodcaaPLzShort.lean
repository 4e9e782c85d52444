import Derived.Test.YtkooincefcodcaaLz6
import Derived.Test.YtkooincefcodcaaMLzShort
set_option linter.unusedVariables false
set_option linter.unusedSimpArgs false
set_option maxRecDepth 100000
namespace Go.Xr.Try
open Go Go.Xr
theorem runL_full {b : List Int} : ∀ (f i j : Nat), i ≤ b.length → (∀ x, i + x < b.length → b.getD (i + x) 0 = b.getD (j + x) 0) → runL b f i j = min f (b.length - i)
  | 0, i, j, _, _ => by simp [runL]
  | f + 1, i, j, hi, hs => by
    simp only [runL]
    by_cases h : i < b.length
    · rw [if_pos ⟨h, by simpa using hs 0 (by omega)⟩, runL_full f (i + 1) (j + 1) (by omega) (fun x hx => by
        have := hs (x + 1) (by omega)
        rw [show i + (x + 1) = i + 1 + x by omega, show j + (x + 1) = j + 1 + x by omega] at this
        exact this)]
      omega
    · rw [if_neg (fun hc => h hc.1)]
      omega
theorem rep_get {n i : Nat} {v : Int} (h : i < n) : (List.replicate n v).getD i 0 = v := by
  rw [List.getD_eq_getElem?_getD, List.getElem?_replicate, if_pos h]
  rfl
theorem rep_key {n i : Nat} {v : Int} (h : i + 3 ≤ n) : key3 (List.replicate n v) i = List.replicate 3 v := by
  unfold key3
  rw [List.drop_replicate, List.take_replicate]
  congr 1
  omega
/-- the best match in a row of one byte -/
theorem rep_best {n i : Nat} {v : Int} (hi : i < n) : (bestAt (List.replicate n v) i).2 = if 1 ≤ i ∧ i + 3 ≤ n then min (n - i) 258 else 0 := by
  unfold bestAt
  have hl : (List.replicate n v).length = n := List.length_replicate
  by_cases h3 : i + 3 ≤ n
  · rw [if_pos (by rw [hl]; exact h3)]
    by_cases h1 : 1 ≤ i
    · rw [if_pos ⟨h1, h3⟩]
      have hm : mlen (List.replicate n v) i (i - 1) = min (n - i) 258 := by
        unfold mlen
        rw [runL_full 258 i (i - 1) (by omega) fun x hx => by rw [rep_get (by omega), rep_get (by omega)], hl]
        omega
      have hin : i - 1 ∈ placesL (List.replicate n v) i := by
        unfold placesL
        obtain ⟨k, rfl⟩ : ∃ k, i = k + 1 := ⟨i - 1, by omega⟩
        have hk : key3 (List.replicate n v) k = key3 (List.replicate n v) (k + 1) := by rw [rep_key (by omega), rep_key (by omega)]
        simp only [occ, if_pos hk]
        rw [List.takeWhile_cons, if_pos (by simp only [near]; exact decide_eq_true (by omega))]
        simp
      rcases best_spec (b := List.replicate n v) (i := i) (placesL (List.replicate n v) i) (0, 0) with ⟨_, h2⟩ | ⟨p, h4, h5, h6, h7⟩
      · have := h2 _ hin
        rw [hm] at this
        simp only at this
        omega
      · rw [h5]
        have h8 := h7 _ hin
        rw [hm] at h8
        have h9 : mlen (List.replicate n v) i p ≤ 258 := runL_le _ 258 i p
        have h10 : i + mlen (List.replicate n v) i p ≤ (List.replicate n v).length := runL_end _ 258 i p (by omega)
        simp only
        omega
    · have : i = 0 := by omega
      subst this
      rw [if_neg (by omega)]
      rfl
  · rw [if_neg (by rw [hl]; exact h3), if_neg (by omega)]
/-- the bits of so many bytes -/
def shortN : Nat → Nat → Nat
  | 0, _ => 0
  | f + 1, left => if 3 ≤ left then 21 + shortN f (left - min left 258) else 9 * left
theorem short_from {n : Nat} {v : Int} : ∀ (f i : Nat), 1 ≤ i → i ≤ n → n ≤ i + f → (bitsFrom (List.replicate n v) f i).length = shortN (f + 1) (n - i)
  | 0, i, h1, h2, h3 => by
    have : n - i = 0 := by omega
    rw [this]
    rfl
  | f + 1, i, h1, h2, h3 => by
    have hl : (List.replicate n v).length = n := List.length_replicate
    by_cases hi : i < n
    · rw [bitsFrom, if_pos (by omega), List.length_append]
      by_cases hc : i + 3 ≤ n
      · have hb : (bestAt (List.replicate n v) i).2 = min (n - i) 258 := by rw [rep_best hi, if_pos ⟨h1, hc⟩]
        have hne : ¬ (bestAt (List.replicate n v) i).2 = 0 := by omega
        have hadv : adv (List.replicate n v) i = min (n - i) 258 := by unfold adv; rw [if_neg hne, hb]
        have htok : (tok (List.replicate n v) i).length = 21 := by rw [tok_len, if_neg hne]
        have ih := short_from (n := n) (v := v) f (i + min (n - i) 258) (by omega) (by omega) (by omega)
        rw [htok, hadv, ih]
        rw [show shortN (f + 1 + 1) (n - i) = 21 + shortN (f + 1) (n - i - min (n - i) 258) by rw [shortN, if_pos (by omega)]]
        rw [show n - (i + min (n - i) 258) = n - i - min (n - i) 258 by omega]
      · have hb : (bestAt (List.replicate n v) i).2 = 0 := by rw [rep_best hi, if_neg (by omega)]
        have hadv : adv (List.replicate n v) i = 1 := by unfold adv; rw [if_pos hb]
        have htok : (tok (List.replicate n v) i).length = 9 := by rw [tok_len, if_pos hb]
        have ih := short_from (n := n) (v := v) f (i + 1) (by omega) (by omega) (by omega)
        rw [htok, hadv, ih]
        rw [shortN, if_neg (by omega), shortN, if_neg (by omega)]
        omega
    · rw [bitsFrom, if_neg (by omega), shortN, if_neg (by omega)]
      simp; omega
theorem short_all {n : Nat} {v : Int} (h : 1 ≤ n) : (allBits (List.replicate n v)).length = 25 + shortN n (n - 1) := by
  have hl : (List.replicate n v).length = n := List.length_replicate
  obtain ⟨m, rfl⟩ : ∃ m, n = m + 1 := ⟨n - 1, by omega⟩
  have hb : (bestAt (List.replicate (m + 1) v) 0).2 = 0 := by rw [rep_best (by omega), if_neg (by omega)]
  have hadv : adv (List.replicate (m + 1) v) 0 = 1 := by unfold adv; rw [if_pos hb]
  have htok : (tok (List.replicate (m + 1) v) 0).length = 9 := by rw [tok_len, if_pos hb]
  have ih := short_from (n := m + 1) (v := v) m (0 + 1) (by omega) (by omega) (by omega)
  unfold allBits
  rw [List.length_append, bitsL_len, hl, bitsFrom, if_pos (by omega), List.length_append, htok, hadv, ih]
  simp only [Nat.zero_add]
  omega
theorem fill_loop {n : Nat} (hn : n ≤ 3000) {v : Int} : ∀ (j i : Nat), i + j = n → pIter (s_LzShort_0 (n : Int) v) ((i : Int), (List.replicate i v ++ List.replicate (n - i) 0, ())) = some ((n : Int), (List.replicate n v, ()))
  | 0, i, h => by
    have : i = n := by omega
    subst this
    refine pIter_inr ?_
    have h1 : pLt (i : Int) (i : Int) = false := decide_eq_false (by omega)
    unfold s_LzShort_0
    simp only [h1, Bool.false_eq_true, if_false, Nat.sub_self, List.replicate_zero, List.append_nil]
  | j + 1, i, h => by
    have h1 : pLt (i : Int) (n : Int) = true := decide_eq_true (by omega)
    have h2 : pIn (i : Int) (pLen (List.replicate i v ++ List.replicate (n - i) (0 : Int))) = true := decide_eq_true (by simp only [pLen, List.length_append, List.length_replicate]; omega)
    have h3 : pAdd .i64 (i : Int) 1 = ((i + 1 : Nat) : Int) := by rw [add64 (by omega) (by omega)]; omega
    have h4 : pSet (List.replicate i v ++ List.replicate (n - i) (0 : Int)) (i : Int) v = List.replicate (i + 1) v ++ List.replicate (n - (i + 1)) 0 := by
      simp only [pSet, Int.toNat_natCast]
      rw [List.set_append_right _ _ (by simp)]
      obtain ⟨m, hm⟩ : ∃ m, n - i = m + 1 := ⟨n - i - 1, by omega⟩
      rw [hm, List.replicate_succ, List.length_replicate, Nat.sub_self, List.set_cons_zero, List.replicate_succ', show n - (i + 1) = m by omega]
      simp
    have st : s_LzShort_0 (n : Int) v ((i : Int), (List.replicate i v ++ List.replicate (n - i) 0, ())) = some (.inl (((i + 1 : Nat) : Int), (List.replicate (i + 1) v ++ List.replicate (n - (i + 1)) 0, ()))) := by
      unfold s_LzShort_0
      simp only [h1, h2, h3, h4, if_true]
    rw [pIter_inl st]
    exact fill_loop hn j (i + 1) (by omega)
theorem count_loop : ∀ (f left bb : Nat), left < f → left ≤ 3000 → bb + 30 * left ≤ 200000 → ∃ l b' : Nat, pIter s_LzShort_1 ((left : Int), ((bb : Int), ())) = some ((l : Int), ((b' : Int), ())) ∧ l ≤ 3 ∧ b' ≤ 200000 ∧ b' + 9 * l = bb + shortN f left
  | 0, left, bb, h, _, _ => by omega
  | f + 1, left, bb, h, hl, hb => by
    by_cases hc : 3 ≤ left
    · have h1 : pLe 3 (left : Int) = true := decide_eq_true (by omega)
      have h2 : pMin (left : Int) 258 = ((min left 258 : Nat) : Int) := by simp only [pMin]; omega
      have h3 : pSub .i64 (left : Int) ((min left 258 : Nat) : Int) = ((left - min left 258 : Nat) : Int) := by rw [sub64 (by omega) (by omega)]; omega
      have h4 : pAdd .i64 (bb : Int) 21 = ((bb + 21 : Nat) : Int) := by rw [add64 (by omega) (by omega)]; omega
      have st : s_LzShort_1 ((left : Int), ((bb : Int), ())) = some (.inl (((left - min left 258 : Nat) : Int), (((bb + 21 : Nat) : Int), ()))) := by
        unfold s_LzShort_1
        simp only [h1, h2, h3, h4, if_true]
      obtain ⟨l, b', k1, k2, k3, k4⟩ := count_loop f (left - min left 258) (bb + 21) (by omega) (by omega) (by omega)
      refine ⟨l, b', (pIter_inl st).trans k1, k2, k3, ?_⟩
      rw [shortN, if_pos hc]
      omega
    · have h1 : pLe 3 (left : Int) = false := decide_eq_false (by omega)
      refine ⟨left, bb, pIter_inr ?_, by omega, by omega, by rw [shortN, if_neg hc]⟩
      unfold s_LzShort_1
      simp only [h1, Bool.false_eq_true, if_false]
theorem LzShort_true {a0 a1 : Int} (h0 : 0 ≤ a0 ∧ a0 ≤ 255) : LzShort_m a0 a1 = some true := by
  unfold LzShort_m
  by_cases c0 : a1 < 1
  · exact (if_pos (decide_eq_true c0)).trans (pbind_to awake7_ok rfl)
  refine (if_neg (by simp only [pLt, decide_eq_true_eq]; omega)).trans ?_
  by_cases c1 : 3000 < a1
  · exact (if_pos (decide_eq_true c1)).trans (pbind_to awake7_ok rfl)
  refine (if_neg (by simp only [pLt, decide_eq_true_eq]; omega)).trans ?_
  obtain ⟨n, rfl⟩ := Int.eq_ofNat_of_zero_le (by omega : 0 ≤ a1)
  have hsz : pSize (n : Int) (n : Int) = true := decide_eq_true (by omega)
  refine (if_pos hsz).trans ?_
  have hf := fill_loop (n := n) (by omega) (v := a0) n 0 (by omega)
  have hf : pIter (s_LzShort_0 (n : Int) a0) (0, (pRep (n : Int) 0, ())) = some ((n : Int), (List.replicate n a0, ())) := by
    have e : pRep (n : Int) (0 : Int) = List.replicate n 0 := by simp only [pRep, Int.toNat_natCast]
    rw [e]
    exact hf
  refine pbind_to hf ?_
  have hs : pSub .i64 (n : Int) 1 = ((n - 1 : Nat) : Int) := by rw [sub64 (by omega) (by omega)]; omega
  obtain ⟨l, b', k1, k2, k3, k4⟩ := count_loop n (n - 1) 25 (by omega) (by omega) (by omega)
  have k1 : pIter s_LzShort_1 (pSub .i64 (n : Int) 1, (25, ())) = some ((l : Int), ((b' : Int), ())) := by rw [hs]; exact k1
  refine pbind_to k1 ?_
  have hb : Bytes (List.replicate n a0) := fun x hx => by rw [List.mem_replicate] at hx; rw [hx.2]; exact h0
  have hbl : (List.replicate n a0).length = n := List.length_replicate
  have hp := (pack_ok hb (by omega)).1
  have hal := short_all (n := n) (v := a0) (by omega)
  have hpl := packs_len (allBits (List.replicate n a0))
  have hal2 := allBits_len (List.replicate n a0)
  have hu := (unpack_ok (packs_bytes (allBits_bits (List.replicate n a0))) (by omega)).1
  rw [unpack_pack hb (by omega)] at hu
  refine pbind_to hp ?_
  refine pbind_to hu ?_
  refine pbind_to (a := (true, ())) ?_ rfl
  have e0 : pEq 0 0 = true := rfl
  have e8 : pNot (pEq 8 0) = true := rfl
  have es : pEqS (List.replicate n a0) (List.replicate n a0) = true := decide_eq_true rfl
  have m1 : pMul .i64 9 (l : Int) = ((9 * l : Nat) : Int) := by rw [mul64 (by omega) (by omega)]; omega
  have m2 : pAdd .i64 (b' : Int) ((9 * l : Nat) : Int) = ((b' + 9 * l : Nat) : Int) := by rw [add64 (by omega) (by omega)]; omega
  have m3 : pAdd .i64 ((b' + 9 * l : Nat) : Int) 7 = ((b' + 9 * l + 7 : Nat) : Int) := by rw [add64 (by omega) (by omega)]; omega
  have m4 : pQuo .i64 ((b' + 9 * l + 7 : Nat) : Int) 8 = (((b' + 9 * l + 7) / 8 : Nat) : Int) := quo64 (b := 8) (by omega)
  have eq : pEq (pLen (packs (allBits (List.replicate n a0)))) (pQuo .i64 (pAdd .i64 (pAdd .i64 (b' : Int) (pMul .i64 9 (l : Int))) 7) 8) = true := by
    rw [m1, m2, m3, m4]
    exact decide_eq_true (by simp only [pLen]; omega)
  refine (if_pos e0).trans ((if_pos e8).trans ((if_pos eq).trans ((if_pos e0).trans ((if_pos es).trans ?_))))
  exact pbind_to awake7_ok rfl
end Go.Xr.Try
