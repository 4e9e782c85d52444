import Derived.Test.YtkooincefcodcaaBits
import Derived.Test.YtkooincefcodcaaMatch2
set_option linter.unusedVariables false
set_option linter.unusedSimpArgs false
set_option maxRecDepth 100000
namespace Go.Xr.Try
open Go Go.Xr

/-! ### bits of packed bytes -/
theorem Bit_le {x : Int} (h : Bit x) : 0 ≤ x ∧ x ≤ 1 := by unfold Bit at h; omega
theorem bitv_packs {L : List Int} (h : Bits L) {j : Nat} (hj : j < L.length) : bitv (packs L) j = L.getD j 0 := by
  have hget : (packs L).getD (j / 8) 0 = byteAt L (j / 8) := by
    rw [List.getD_eq_getElem?_getD, packs_get, if_pos (by omega)]
    rfl
  unfold bitv
  rw [hget]
  have g0 := Bit_le (h.get (8 * (j / 8)))
  have g1 := Bit_le (h.get (8 * (j / 8) + 1))
  have g2 := Bit_le (h.get (8 * (j / 8) + 2))
  have g3 := Bit_le (h.get (8 * (j / 8) + 3))
  have g4 := Bit_le (h.get (8 * (j / 8) + 4))
  have g5 := Bit_le (h.get (8 * (j / 8) + 5))
  have g6 := Bit_le (h.get (8 * (j / 8) + 6))
  have g7 := Bit_le (h.get (8 * (j / 8) + 7))
  have ht : j % 8 = 0 ∨ j % 8 = 1 ∨ j % 8 = 2 ∨ j % 8 = 3 ∨ j % 8 = 4 ∨ j % 8 = 5 ∨ j % 8 = 6 ∨ j % 8 = 7 := by omega
  have hx : L.getD (8 * (j / 8) + j % 8) 0 = L.getD j 0 := by rw [show 8 * (j / 8) + j % 8 = j by omega]
  rw [← hx]
  unfold byteAt
  clear hget hx
  generalize j % 8 = t at *
  rcases ht with rfl | rfl | rfl | rfl | rfl | rfl | rfl | rfl <;>
  · try simp only [Nat.add_zero]
    generalize L.getD (8 * (j / 8)) 0 = x0 at *
    generalize L.getD (8 * (j / 8) + 1) 0 = x1 at *
    generalize L.getD (8 * (j / 8) + 2) 0 = x2 at *
    generalize L.getD (8 * (j / 8) + 3) 0 = x3 at *
    generalize L.getD (8 * (j / 8) + 4) 0 = x4 at *
    generalize L.getD (8 * (j / 8) + 5) 0 = x5 at *
    generalize L.getD (8 * (j / 8) + 6) 0 = x6 at *
    generalize L.getD (8 * (j / 8) + 7) 0 = x7 at *
    simp
    try omega
theorem mod_double (v P : Int) (hP : 0 < P) : v % (2 * P) = v / P % 2 * P + v % P := by
  have e1 := Int.mul_ediv_add_emod v P
  have e2 := Int.mul_ediv_add_emod (v / P) 2
  have h1 := Int.emod_nonneg v (by omega : P ≠ 0)
  have h2 := Int.emod_lt_of_pos v hP
  have h3 : v / P % 2 = 0 ∨ v / P % 2 = 1 := by omega
  generalize v % P = r at *
  generalize v / P = q at *
  generalize q / 2 = q2 at *
  generalize q % 2 = b at *
  subst e2
  subst e1
  have e3 : P * (2 * q2 + b) + r = (b * P + r) + 2 * P * q2 := by
    rw [Int.mul_add, Int.mul_comm P b]
    have : P * (2 * q2) = 2 * P * q2 := by rw [← Int.mul_assoc, Int.mul_comm P 2]
    omega
  rw [e3, Int.add_mul_emod_self_left]
  refine Int.emod_eq_of_lt ?_ ?_ <;> rcases h3 with rfl | rfl <;> omega
theorem getAcc_val {b : List Int} {v : Int} : ∀ (k p : Nat) (acc : Int), (∀ t, t < k → bitv b (p + t) = (bitsL v k).getD t 0) → getAcc b p k acc = acc * 2 ^ k + v % 2 ^ k
  | 0, p, acc, _ => by simp [getAcc, Int.emod_one]
  | k + 1, p, acc, h => by
    have h0 := h 0 (by omega)
    simp only [Nat.add_zero] at h0
    have e0 : (bitsL v (k + 1)).getD 0 0 = v / 2 ^ k % 2 := rfl
    rw [e0] at h0
    have ih := getAcc_val (b := b) (v := v) k (p + 1) (2 * acc + bitv b p) fun t ht => by
      have := h (t + 1) (by omega)
      rw [show p + (t + 1) = p + 1 + t by omega] at this
      rw [this]
      rfl
    simp only [getAcc]
    rw [ih, h0, Int.pow_succ, Int.mul_comm (2 ^ k) 2, mod_double v (2 ^ k) (Int.pow_pos (by omega)), Int.add_mul]
    have : 2 * acc * 2 ^ k = acc * (2 * 2 ^ k) := by rw [Int.mul_comm 2 acc, Int.mul_assoc]
    omega
/-- behind the last bit there are noughts -/
theorem rest_packs {L : List Int} (h : Bits L) : restv (packs L) L.length = 0 := by
  have hl := packs_len L
  unfold restv
  rw [if_neg (by omega)]
  by_cases hz : L.length = 0
  · rw [hl, hz]
    simp
  have hget : (packs L).getD ((packs L).length - 1) 0 = byteAt L ((packs L).length - 1) := by
    rw [List.getD_eq_getElem?_getD, packs_get, if_pos (by omega)]
    rfl
  rw [hget]
  generalize hq : (packs L).length - 1 = q at *
  have g0 := Bit_le (h.get (8 * q))
  have g1 := Bit_le (h.get (8 * q + 1))
  have g2 := Bit_le (h.get (8 * q + 2))
  have g3 := Bit_le (h.get (8 * q + 3))
  have g4 := Bit_le (h.get (8 * q + 4))
  have g5 := Bit_le (h.get (8 * q + 5))
  have g6 := Bit_le (h.get (8 * q + 6))
  have g7 := Bit_le (h.get (8 * q + 7))
  have hout : ∀ t, L.length ≤ 8 * q + t → L.getD (8 * q + t) 0 = 0 := fun t ht => by
    rw [List.getD_eq_getElem?_getD, List.getElem?_eq_none ht]; rfl
  have z1 := hout 1
  have z2 := hout 2
  have z3 := hout 3
  have z4 := hout 4
  have z5 := hout 5
  have z6 := hout 6
  have z7 := hout 7
  have e8 : 8 * (packs L).length = 8 * q + 8 := by omega
  rw [e8]
  have hr : L.length = 8 * q + 1 ∨ L.length = 8 * q + 2 ∨ L.length = 8 * q + 3 ∨ L.length = 8 * q + 4 ∨ L.length = 8 * q + 5 ∨ L.length = 8 * q + 6 ∨ L.length = 8 * q + 7 ∨ L.length = 8 * q + 8 := by omega
  unfold byteAt
  have key : (L.getD (8 * q) 0 * 128 + L.getD (8 * q + 1) 0 * 64 + L.getD (8 * q + 2) 0 * 32 + L.getD (8 * q + 3) 0 * 16 + L.getD (8 * q + 4) 0 * 8 + L.getD (8 * q + 5) 0 * 4 + L.getD (8 * q + 6) 0 * 2 + L.getD (8 * q + 7) 0) % 2 ^ (8 * q + 8 - L.length) = 0 := by
    generalize L.getD (8 * q) 0 = x0 at *
    generalize L.getD (8 * q + 1) 0 = x1 at *
    generalize L.getD (8 * q + 2) 0 = x2 at *
    generalize L.getD (8 * q + 3) 0 = x3 at *
    generalize L.getD (8 * q + 4) 0 = x4 at *
    generalize L.getD (8 * q + 5) 0 = x5 at *
    generalize L.getD (8 * q + 6) 0 = x6 at *
    generalize L.getD (8 * q + 7) 0 = x7 at *
    clear hget hout
    rcases hr with hr | hr | hr | hr | hr | hr | hr | hr <;>
    · rw [hr]
      rw [hr] at z1 z2 z3 z4 z5 z6 z7
      simp only [Nat.add_sub_add_left, Nat.reduceSub]
      omega
  rw [key]
  rfl

/-! ### the document's match -/
theorem run_loop {b : List Int} (hb : b.length ≤ 1000000) {i d : Nat} (hi : i < b.length) (hd : 1 ≤ d) (hd2 : d ≤ i) :
    ∀ (f t : Nat), t + f = 258 → pIter (s_wainscotref1_run_0 (i : Int) b (d : Int)) ((t : Int), ()) = some (((t + runL b f (i + t) (i - d + t) : Nat) : Int), ())
  | 0, t, ht => by
    refine pIter_inr ?_
    have : t = 258 := by omega
    subst this
    unfold s_wainscotref1_run_0
    simp [pLt, runL]
  | f + 1, t, ht => by
    have h1 : pLt (t : Int) 258 = true := decide_eq_true (by omega)
    have h2 : pAdd .i64 (i : Int) (t : Int) = ((i + t : Nat) : Int) := by rw [add64 (by omega) (by omega)]; omega
    have h3 : pSub .i64 (i : Int) (d : Int) = ((i - d : Nat) : Int) := by rw [sub64 (by omega) (by omega)]; omega
    have h4 : pAdd .i64 ((i - d : Nat) : Int) (t : Int) = ((i - d + t : Nat) : Int) := by rw [add64 (by omega) (by omega)]; omega
    have h5 : pAdd .i64 (t : Int) 1 = ((t + 1 : Nat) : Int) := by rw [add64 (by omega) (by omega)]; omega
    by_cases hlt : i + t < b.length
    · have h6 : pLt ((i + t : Nat) : Int) (pLen b) = true := decide_eq_true (by simp only [pLen]; omega)
      have h7 : pIn ((i + t : Nat) : Int) (pLen b) = true := decide_eq_true (by simp only [pLen]; omega)
      have h8 : pIn ((i - d + t : Nat) : Int) (pLen b) = true := decide_eq_true (by simp only [pLen]; omega)
      have h9 : ∀ q : Nat, pGet 0 b ((q : Nat) : Int) = b.getD q 0 := fun q => by simp only [pGet, Int.toNat_natCast]
      by_cases he : b.getD (i + t) 0 = b.getD (i - d + t) 0
      · have hst : s_wainscotref1_run_0 (i : Int) b (d : Int) ((t : Int), ()) = some (.inl (((t + 1 : Nat) : Int), ())) := by
          unfold s_wainscotref1_run_0
          simp only [h1, h2, h3, h4, h5, h6, h7, h8, h9, pEq, he, decide_true, if_true]
        rw [pIter_inl hst, run_loop hb hi hd hd2 f (t + 1) (by omega)]
        simp only [runL, if_pos (And.intro hlt he)]
        congr 2
        rw [show i + (t + 1) = i + t + 1 by omega, show i - d + (t + 1) = i - d + t + 1 by omega]
        omega
      · refine pIter_inr ?_
        unfold s_wainscotref1_run_0
        have : ¬ (i + t < b.length ∧ b.getD (i + t) 0 = b.getD (i - d + t) 0) := fun h => he h.2
        have hr : runL b (f + 1) (i + t) (i - d + t) = 0 := by simp only [runL]; rw [if_neg this]
        simp only [h1, h2, h3, h4, h5, h6, h7, h8, h9, pEq, he, decide_false, if_true, Bool.false_eq_true, if_false, hr, Nat.add_zero]
    · refine pIter_inr ?_
      unfold s_wainscotref1_run_0
      have h6 : pLt ((i + t : Nat) : Int) (pLen b) = false := decide_eq_false (by simp only [pLen]; omega)
      have : ¬ (i + t < b.length ∧ b.getD (i + t) 0 = b.getD (i - d + t) 0) := fun h => hlt h.1
      simp only [h1, h2, h6, if_true, Bool.false_eq_true, if_false, runL, if_neg this, Nat.add_zero]
theorem run_ok {b : List Int} (hb : b.length ≤ 1000000) {i d : Nat} (hi : i < b.length) (hd : 1 ≤ d) (hd2 : d ≤ i) : m_wainscotref1_run b (i : Int) (d : Int) = some ((mlen b i (i - d) : Int), ()) := by
  have h := run_loop hb hi hd hd2 258 0 rfl
  simp only [Nat.add_zero, Nat.zero_add, Int.natCast_zero] at h
  unfold m_wainscotref1_run
  simp only [h, pBind, Option.bind_some, mlen]
/-- the distances of three bytes or more -/
def dl (b : List Int) (i : Nat) : Nat → List Nat
  | 0 => []
  | k + 1 => dl b i k ++ if 3 ≤ mlen b i (i - (k + 1)) then [k + 1] else []
theorem dl_len (b : List Int) (i : Nat) : ∀ k, (dl b i k).length ≤ k
  | 0 => Nat.le_refl _
  | k + 1 => by
    have := dl_len b i k
    simp only [dl, List.length_append]
    split <;> simp <;> omega
theorem dl_mem {b : List Int} {i : Nat} : ∀ {k d : Nat}, d ∈ dl b i k → 1 ≤ d ∧ d ≤ k
  | 0, d, h => by cases h
  | k + 1, d, h => by
    simp only [dl, List.mem_append] at h
    rcases h with h | h
    · have := dl_mem h; omega
    · split at h
      · simp at h; omega
      · cases h
def natsI (l : List Nat) : List Int := l.map Int.ofNat
theorem places_loop {b : List Int} (hb : b.length ≤ 1000000) {i : Nat} (hi : i < b.length) : ∀ (j k : Nat), k + j = min 4096 i →
    pIter (s_wainscotref1_Places_0 (i : Int) b) (((k + 1 : Nat) : Int), (natsI (dl b i k), ())) = some (((min 4096 i + 1 : Nat) : Int), (natsI (dl b i (min 4096 i)), ()))
  | 0, k, hk => by
    have : k = min 4096 i := by omega
    subst this
    refine pIter_inr ?_
    unfold s_wainscotref1_Places_0
    by_cases h1 : 4096 < i + 1
    · have h2 : min 4096 i = 4096 := by omega
      have h3 : pLe ((4096 + 1 : Nat) : Int) 4096 = false := decide_eq_false (by omega)
      simp only [h2, h3, Bool.false_eq_true, if_false]
    · have h2 : min 4096 i = i := by omega
      have h3 : pLe ((i + 1 : Nat) : Int) (i : Int) = false := decide_eq_false (by omega)
      simp only [h2, h3, Bool.false_eq_true, if_false, ite_self]
  | j + 1, k, hk => by
    have h1 : pLe ((k + 1 : Nat) : Int) 4096 = true := decide_eq_true (by omega)
    have h2 : pLe ((k + 1 : Nat) : Int) (i : Int) = true := decide_eq_true (by omega)
    have h3 := run_ok hb hi (d := k + 1) (by omega) (by omega)
    have h4 : pRoom (pIAdd (pLen (natsI (dl b i k))) (pLen [((k + 1 : Nat) : Int)])) = true := by
      have := dl_len b i k
      simp [pRoom, pIAdd, pLen, natsI]; omega
    have h5 : pAdd .i64 ((k + 1 : Nat) : Int) 1 = ((k + 1 + 1 : Nat) : Int) := by rw [add64 (by omega) (by omega)]; omega
    have h6 : s_wainscotref1_Places_0 (i : Int) b (((k + 1 : Nat) : Int), (natsI (dl b i k), ())) = some (.inl (((k + 1 + 1 : Nat) : Int), (natsI (dl b i (k + 1)), ()))) := by
      unfold s_wainscotref1_Places_0
      by_cases hm : 3 ≤ mlen b i (i - (k + 1))
      · have h7 : pLe 3 ((mlen b i (i - (k + 1)) : Nat) : Int) = true := decide_eq_true (by omega)
        have h8 : natsI (dl b i (k + 1)) = pApp (natsI (dl b i k)) [((k + 1 : Nat) : Int)] := by simp only [dl, if_pos hm, natsI, pApp, List.map_append]; rfl
        simp only [h1, h2, h3, h4, h5, h7, h8, pBind, Option.bind_some, if_true]
      · have h7 : pLe 3 ((mlen b i (i - (k + 1)) : Nat) : Int) = false := decide_eq_false (by omega)
        have h8 : natsI (dl b i (k + 1)) = natsI (dl b i k) := by simp only [dl, if_neg hm, List.append_nil]
        simp only [h1, h2, h3, h5, h7, h8, pBind, Option.bind_some, if_true, Bool.false_eq_true, if_false]
    rw [pIter_inl h6]
    exact places_loop hb hi j (k + 1) (by omega)
theorem rplaces_ok {b : List Int} (hb : b.length ≤ 1000000) {i : Nat} (hi : i < b.length) : m_wainscotref1_Places b (i : Int) = some (natsI (dl b i (min 4096 i)), ()) := by
  have h1 : pLt (i : Int) 0 = false := decide_eq_false (by omega)
  have h2 : pLe (pLen b) (i : Int) = false := decide_eq_false (by simp only [pLen]; omega)
  have h3 := places_loop hb hi (min 4096 i) 0 (by omega)
  have h3 : pIter (s_wainscotref1_Places_0 (i : Int) b) (1, ([], ())) = some (((min 4096 i + 1 : Nat) : Int), (natsI (dl b i (min 4096 i)), ())) := h3
  unfold m_wainscotref1_Places
  simp only [h1, h2, h3, pBind, Option.bind_some, Bool.false_eq_true, if_false]
def bestD (b : List Int) (i : Nat) (l : List Nat) (s : Nat × Nat) : Nat × Nat := l.foldl (fun s d => if s.2 < mlen b i (i - d) then (d, mlen b i (i - d)) else s) s
theorem match_loop {b : List Int} (hb : b.length ≤ 1000000) {i : Nat} (hi : i < b.length) {l : List Nat} (hl : ∀ d ∈ l, 1 ≤ d ∧ d ≤ i) (hll : l.length ≤ 5000) : ∀ (j k : Nat) (s : Nat × Nat), k + j = l.length →
    pIter (s_wainscotref1_Match_0 (natsI l, ()) b (i : Int)) ((s.1 : Int), ((s.2 : Int), ((k : Int), ()))) = some (((bestD b i (l.drop k) s).1 : Int), (((bestD b i (l.drop k) s).2 : Int), ((l.length : Int), ())))
  | 0, k, s, hk => by
    have : k = l.length := by omega
    subst this
    have h1 : pLt (l.length : Int) (pLen (natsI l)) = false := decide_eq_false (by simp [pLen, natsI])
    refine pIter_inr ?_
    unfold s_wainscotref1_Match_0
    simp only [h1, Bool.false_eq_true, if_false, List.drop_length]
    rfl
  | j + 1, k, s, hk => by
    have hkl : k < l.length := by omega
    have h1 : pLt (k : Int) (pLen (natsI l)) = true := decide_eq_true (by simp [pLen, natsI]; omega)
    have h2 : pIn (k : Int) (pLen (natsI l)) = true := decide_eq_true (by simp [pLen, natsI]; omega)
    have hm := hl _ (List.getElem_mem hkl)
    have h3 : pGet 0 (natsI l) (k : Int) = ((l[k] : Nat) : Int) := by simp [pGet, natsI, hkl]
    have h4 := run_ok hb hi hm.1 hm.2
    have h5 : pAdd .i64 (k : Int) 1 = ((k + 1 : Nat) : Int) := by rw [add64 (by omega) (by omega)]; omega
    have h6 : l.drop k = l[k] :: l.drop (k + 1) := List.drop_eq_getElem_cons hkl
    rw [h6]
    show _ = some (((bestD b i (l.drop (k + 1)) (if s.2 < mlen b i (i - l[k]) then (l[k], mlen b i (i - l[k])) else s)).1 : Int), (((bestD b i (l.drop (k + 1)) (if s.2 < mlen b i (i - l[k]) then (l[k], mlen b i (i - l[k])) else s)).2 : Int), ((l.length : Int), ())))
    have h7 : s_wainscotref1_Match_0 (natsI l, ()) b (i : Int) ((s.1 : Int), ((s.2 : Int), ((k : Int), ()))) = some (.inl (((if s.2 < mlen b i (i - l[k]) then (l[k], mlen b i (i - l[k])) else s).1 : Int), (((if s.2 < mlen b i (i - l[k]) then (l[k], mlen b i (i - l[k])) else s).2 : Int), (((k + 1 : Nat) : Int), ())))) := by
      unfold s_wainscotref1_Match_0
      by_cases hc : s.2 < mlen b i (i - l[k])
      · have h8 : pLt (s.2 : Int) ((mlen b i (i - l[k]) : Nat) : Int) = true := decide_eq_true (by omega)
        simp only [h1, h2, h3, h4, h5, h8, pBind, Option.bind_some, if_true, if_pos hc]
      · have h8 : pLt (s.2 : Int) ((mlen b i (i - l[k]) : Nat) : Int) = false := decide_eq_false (by omega)
        simp only [h1, h2, h3, h4, h5, h8, pBind, Option.bind_some, if_true, if_neg hc, Bool.false_eq_true, if_false]
    rw [pIter_inl h7]
    exact match_loop hb hi hl hll j (k + 1) _ (by omega)
theorem run_key3 {b : List Int} {i j : Nat} (hi : i + 3 ≤ b.length) (hj : j < i) (h : 3 ≤ mlen b i j) : key3 b j = key3 b i := by
  apply List.ext_getElem?
  intro x
  simp only [key3, List.getElem?_take, List.getElem?_drop]
  split
  · rename_i hx
    have hs := runL_same b 258 i j x (by unfold mlen at h; omega)
    rw [List.getD_eq_getElem?_getD, List.getD_eq_getElem?_getD] at hs
    rw [List.getElem?_eq_getElem (by omega : i + x < b.length), List.getElem?_eq_getElem (by omega : j + x < b.length)] at hs ⊢
    simp only [Option.getD_some] at hs
    rw [hs]
  · rfl
theorem occ_dl {b : List Int} {i : Nat} (hi : i + 3 ≤ b.length) : ∀ m, m ≤ i → occ b (key3 b i) i = (dl b i m).map (i - ·) ++ occ b (key3 b i) (i - m)
  | 0, _ => by simp [dl]
  | m + 1, h => by
    rw [occ_dl hi m (by omega)]
    have e : i - m = (i - (m + 1)) + 1 := by omega
    rw [e]
    simp only [occ, dl]
    by_cases hk : key3 b (i - (m + 1)) = key3 b i
    · rw [if_pos hk, if_pos (key3_run hi (by omega) hk)]
      simp
    · rw [if_neg hk, if_neg (fun h3 => hk (run_key3 hi (by omega) h3))]
      simp
theorem placesL_dl {b : List Int} {i : Nat} (hi : i + 3 ≤ b.length) : placesL b i = (dl b i (min 4096 i)).map (i - ·) := by
  unfold placesL
  rw [occ_dl hi (min 4096 i) (by omega)]
  have h1 : ∀ p ∈ (dl b i (min 4096 i)).map (i - ·), near i p = true := by
    intro p hp
    obtain ⟨d, hd, rfl⟩ := List.mem_map.1 hp
    have := dl_mem hd
    simp only [near]
    exact decide_eq_true (by omega)
  rw [List.takeWhile_append_of_pos h1]
  have h2 : (occ b (key3 b i) (i - min 4096 i)).takeWhile (near i) = [] := by
    cases ho : occ b (key3 b i) (i - min 4096 i) with
    | nil => rfl
    | cons p r =>
      have hp : p ∈ occ b (key3 b i) (i - min 4096 i) := by rw [ho]; exact List.mem_cons_self
      have := (occ_mem.1 hp).1
      rw [List.takeWhile_cons, if_neg]
      simp only [near, decide_eq_true_eq]
      omega
  rw [h2, List.append_nil]
theorem bestL_map (b : List Int) (i : Nat) : ∀ (l : List Nat) (s : Nat × Nat), (∀ d ∈ l, 1 ≤ d ∧ d ≤ i) → bestL b i (l.map (i - ·)) s = bestD b i l s
  | [], s, _ => rfl
  | d :: l, s, h => by
    have hd := h d (by simp)
    show bestL b i (l.map (i - ·)) (best1 b i s (i - d)) = bestD b i l (if s.2 < mlen b i (i - d) then (d, mlen b i (i - d)) else s)
    rw [bestL_map b i l _ fun x hx => h x (by simp [hx])]
    unfold best1
    rw [show i - (i - d) = d by omega]
theorem dl_short {b : List Int} {i : Nat} (hi : i ≤ b.length) (h : ¬ i + 3 ≤ b.length) : ∀ m, dl b i m = []
  | 0 => rfl
  | m + 1 => by
    simp only [dl, dl_short hi h m, List.nil_append]
    rw [if_neg]
    have := runL_end b 258 i (i - (m + 1)) hi
    unfold mlen
    omega
/-- What the document says is what the finder says. -/
theorem rmatch_ok {b : List Int} (hb : b.length ≤ 1000000) {i : Nat} (hi : i < b.length) : m_wainscotref1_Match b (i : Int) = some (((bestAt b i).1 : Int), (((bestAt b i).2 : Int), ())) := by
  have hl : ∀ d ∈ dl b i (min 4096 i), 1 ≤ d ∧ d ≤ i := fun d hd => by have := dl_mem hd; omega
  have hll := dl_len b i (min 4096 i)
  have h1 := match_loop hb hi hl (by omega) (dl b i (min 4096 i)).length 0 (0, 0) (by omega)
  simp only [List.drop_zero] at h1
  have h1 : pIter (s_wainscotref1_Match_0 (natsI (dl b i (min 4096 i)), ()) b (i : Int)) (0, (0, (0, ()))) = _ := h1
  have h2 : bestD b i (dl b i (min 4096 i)) (0, 0) = bestAt b i := by
    unfold bestAt
    split
    · rename_i h
      rw [placesL_dl h, bestL_map b i _ _ hl]
    · rename_i h
      rw [dl_short (by omega) h]
      rfl
  rw [h2] at h1
  unfold m_wainscotref1_Match
  simp only [rplaces_ok hb hi, h1, pBind, Option.bind_some]
end Go.Xr.Try
