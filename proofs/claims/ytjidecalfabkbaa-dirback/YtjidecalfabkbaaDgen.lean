import Derived.Test.YtjidecalfabkbaaDsortG
import Derived.Test.YtjidecalfabkbaaDawake
set_option linter.unusedVariables false
set_option linter.unusedSimpArgs false
set_option maxRecDepth 100000
namespace Go.Xr.Try
open Go Go.Xr

/-! a new directory of any entries -/
/-- neighbours are looked at -/
theorem adj_loop {step : Int × Unit → Option ((Int × Unit) ⊕ ((Int × Unit) ⊕ (Int × Unit)))} {c : Nat → Bool} {n : Nat} (h : ∀ i : Nat, i + 1 < n → step ((i : Int), ()) = if c i then some (.inr (.inl (1, ()))) else some (.inl (((i + 1 : Nat) : Int), ()))) (he : ∀ i : Nat, n ≤ i + 1 → step ((i : Int), ()) = some (.inr (.inr ((i : Int), ())))) :
    ∀ (m i : Nat), n - i = m → (pIter step ((i : Int), ()) = some (.inl (1, ())) ∧ ∃ j, i ≤ j ∧ j + 1 < n ∧ c j = true) ∨ ((∃ k, pIter step ((i : Int), ()) = some (.inr (k, ()))) ∧ ∀ j, i ≤ j → j + 1 < n → c j = false)
  | 0, i, hm => .inr ⟨⟨_, pIter_inr (he i (by omega))⟩, fun j h1 h2 => by omega⟩
  | m + 1, i, hm => by
    by_cases hi : i + 1 < n
    · have st := h i hi
      cases hc : c i with
      | true =>
        rw [hc, if_pos rfl] at st
        exact .inl ⟨pIter_inr st, i, Nat.le_refl _, hi, hc⟩
      | false =>
        rw [hc, if_neg (by simp)] at st
        rcases adj_loop h he m (i + 1) (by omega) with ⟨h1, j, h2, h3, h4⟩ | ⟨⟨k, h1⟩, h2⟩
        · exact .inl ⟨by rw [pIter_inl st]; exact h1, j, by omega, h3, h4⟩
        · refine .inr ⟨⟨k, by rw [pIter_inl st]; exact h1⟩, fun j h3 h4 => ?_⟩
          by_cases e : j = i
          · rw [e]; exact hc
          · exact h2 j (by omega) h4
    · exact .inr ⟨⟨_, pIter_inr (he i (by omega))⟩, fun j h1 h2 => by omega⟩
theorem sub_one {α : Type} {l : List α} (h : l.length < 2 ^ 61) : pSub .i64 (pLen l) 1 = (l.length : Int) - 1 := sub64 (by simp only [pLen]; omega) (by simp only [pLen]; omega)
theorem loop0 {L : List EN} (hl : L.length < 2 ^ 61) (hok : ∀ x ∈ L, m_q22 x = some (endV x, ())) : (pIter (s_q16_0 (L, ())) (0, ()) = some (.inl (1, ())) ∧ ∃ j, j + 1 < L.length ∧ startF (L.getD (j + 1) Z0) < endV (L.getD j Z0)) ∨ ((∃ k, pIter (s_q16_0 (L, ())) (0, ()) = some (.inr (k, ()))) ∧ ∀ j, j + 1 < L.length → endV (L.getD j Z0) ≤ startF (L.getD (j + 1) Z0)) := by
  have hs := sub_one hl
  have := adj_loop (step := s_q16_0 (L, ())) (c := fun i => decide (startF (L.getD (i + 1) Z0) < endV (L.getD i Z0))) (n := L.length) (fun i hi => by
    unfold s_q16_0
    have e1 : pLt (i : Int) ((L.length : Int) - 1) = true := decide_eq_true (by omega)
    have e2 : pAdd .i64 (i : Int) 1 = ((i + 1 : Nat) : Int) := add_one (by omega)
    have hm : L.getD i Z0 ∈ L := by simp [List.getD_eq_getElem?_getD, show i < L.length by omega]
    simp only [hs, e1, e2, in_nat (l := L) (i := i) (by omega), in_nat (l := L) (i := i + 1) hi, get_nat, hok _ hm, if_true, pBind, Option.bind_some, pLt, decide_eq_true_eq]
    rfl) (fun i hi => by
    unfold s_q16_0
    have e1 : pLt (i : Int) ((L.length : Int) - 1) = false := decide_eq_false (by omega)
    simp only [hs, e1, Bool.false_eq_true, if_false]) L.length 0 (by omega)
  rcases this with ⟨h1, j, _, h3, h4⟩ | ⟨⟨k, h1⟩, h2⟩
  · exact .inl ⟨h1, j, h3, by simpa using h4⟩
  · exact .inr ⟨⟨k, h1⟩, fun j hj => by have := h2 j (Nat.zero_le _) hj; simp only [decide_eq_false_iff_not] at this; omega⟩
theorem loop1 {L : List EN} (hl : L.length < 2 ^ 61) : (pIter (s_q17 (L, ())) (0, ()) = some (.inl (1, ())) ∧ ∃ j, j + 1 < L.length ∧ (L.getD j Z0).1 = (L.getD (j + 1) Z0).1) ∨ ((∃ k, pIter (s_q17 (L, ())) (0, ()) = some (.inr (k, ()))) ∧ ∀ j, j + 1 < L.length → (L.getD j Z0).1 ≠ (L.getD (j + 1) Z0).1) := by
  have hs := sub_one hl
  have ee : ∀ x y : EN, pAndB (pEq x.1.1 y.1.1) (pAndB (pEq x.1.2.1 y.1.2.1) (pEq x.1.2.2 y.1.2.2)) = decide (x.1 = y.1) := by
    intro x y
    obtain ⟨⟨a, b, c⟩, _⟩ := x
    obtain ⟨⟨a', b', c'⟩, _⟩ := y
    simp only [pAndB, pEq, Prod.mk.injEq, Bool.decide_and]
  have := adj_loop (step := s_q17 (L, ())) (c := fun i => decide ((L.getD i Z0).1 = (L.getD (i + 1) Z0).1)) (n := L.length) (fun i hi => by
    unfold s_q17
    have e1 : pLt (i : Int) ((L.length : Int) - 1) = true := decide_eq_true (by omega)
    have e2 : pAdd .i64 (i : Int) 1 = ((i + 1 : Nat) : Int) := add_one (by omega)
    simp only [hs, e1, e2, in_nat (l := L) (i := i) (by omega), in_nat (l := L) (i := i + 1) hi, get_nat, ee, if_true]) (fun i hi => by
    unfold s_q17
    have e1 : pLt (i : Int) ((L.length : Int) - 1) = false := decide_eq_false (by omega)
    simp only [hs, e1, Bool.false_eq_true, if_false]) L.length 0 (by omega)
  rcases this with ⟨h1, j, _, h3, h4⟩ | ⟨⟨k, h1⟩, h2⟩
  · exact .inl ⟨h1, j, h3, by simpa using h4⟩
  · exact .inr ⟨⟨k, h1⟩, fun j hj => by have := h2 j (Nat.zero_le _) hj; simpa using this⟩
/-- a row that may be a directory, in its order -/
structure DirOK (d : Int) (L : List EN) : Prop where
  hd : 0 ≤ d ∧ d ≤ 3
  ok : ∀ x ∈ L, okE d x = true
  keys : L.Pairwise fun x y => keyF d x < keyF d y
  ap : L.Pairwise apart
theorem end_ok {d : Int} {x : EN} (h : okE d x = true) : m_q22 x = some (endV x, ()) := by
  obtain ⟨_, a1, a2, a3, a4, a5⟩ := okE_iff.1 h
  exact end_eq a4 (by omega) (by omega)
theorem apart_symm {x y : EN} (h : apart x y) : apart y x := Or.symm h
theorem ahead_step {d l : Int} (h0 : 0 ≤ d) (h1 : d ≤ 3) (hl : 0 ≤ l) (hl2 : l ≤ d) : aheadV d (l - 1) = aheadV d l + sideV d l * sideV d l := by
  unfold aheadV sideV
  have e : (d - (l - 1)).toNat = (d - l).toNat + 1 := by omega
  rw [e]
  have : (d - l).toNat ≤ 3 := by omega
  generalize (d - l).toNat = n at *
  rcases (show n = 0 ∨ n = 1 ∨ n = 2 ∨ n = 3 by omega) with rfl | rfl | rfl | rfl <;> decide
theorem ahead_mono {d l m : Int} (h1 : d ≤ 3) (hl : -1 ≤ l) (hlm : l ≤ m) (hm : m ≤ d) : aheadV d m ≤ aheadV d l := by
  unfold aheadV
  obtain ⟨a, ha⟩ : ∃ a : Nat, (d - m).toNat = a := ⟨_, rfl⟩
  obtain ⟨b, hb⟩ : ∃ b : Nat, (d - l).toNat = b := ⟨_, rfl⟩
  rw [ha, hb]
  have hab : a ≤ b := by omega
  have hb4 : b ≤ 4 := by omega
  rcases (show b = 0 ∨ b = 1 ∨ b = 2 ∨ b = 3 ∨ b = 4 by omega) with rfl | rfl | rfl | rfl | rfl <;>
    rcases (show a = 0 ∨ a = 1 ∨ a = 2 ∨ a = 3 ∨ a = 4 by omega) with rfl | rfl | rfl | rfl | rfl <;> first | decide | omega
theorem keyV_bd {d : Int} {p : PG} (hp : okP d p = true) : 0 ≤ keyV d p ∧ keyV d p < aheadV d (p.1 - 1) ∧ aheadV d p.1 ≤ keyV d p ∧ keyV d p - aheadV d p.1 = p.2.1 + p.2.2 * sideV d p.1 := by
  obtain ⟨⟨h0, h1⟩, a1, a2, a3, a4, a5, a6⟩ := okP_iff.1 hp
  unfold keyV
  rw [if_pos hp, ahead_step h0 h1 a1 a2]
  have s1 := sideV_le (d := d) (l := p.1) h1 a1
  have s2 := aheadV_le (d := d) (l := p.1) h1 (by omega)
  have m1 : 0 ≤ p.2.2 * sideV d p.1 := Int.mul_nonneg a5 (by omega)
  have m2 : p.2.2 * sideV d p.1 ≤ (sideV d p.1 - 1) * sideV d p.1 := Int.mul_le_mul_of_nonneg_right (by omega) (by omega)
  have m3 : (sideV d p.1 - 1) * sideV d p.1 = sideV d p.1 * sideV d p.1 - sideV d p.1 := by rw [Int.sub_mul]; omega
  omega
theorem at_key {d : Int} {p : PG} (hp : okP d p = true) : m_q25 d (keyV d p) = some (p, (true, ())) := by
  obtain ⟨b1, b2, b3, b4⟩ := keyV_bd hp
  obtain ⟨⟨h0, h1⟩, a1, a2, a3, a4, a5, a6⟩ := okP_iff.1 hp
  have s1 := sideV_le (d := d) (l := p.1) h1 a1
  have s2 := aheadV_le (d := d) (l := p.1) h1 (by omega)
  have s3 := aheadV_le (d := d) (l := p.1 - 1) h1 (by omega)
  generalize keyV d p = key at *
  unfold m_q25
  have e0 : pLt key 0 = false := decide_eq_false (by omega)
  have hc : m_q27 d = some (aheadV d (-1), ()) := by rw [count_eq, okD_iff.2 ⟨h0, h1⟩]; rfl
  have mono := ahead_mono (d := d) (l := -1) (m := p.1 - 1) h1 (by omega) (by omega) (by omega)
  have e1 : pLe (aheadV d (-1)) key = false := decide_eq_false (by omega)
  obtain ⟨n, hn⟩ : ∃ n : Nat, d - (n : Int) = p.1 := ⟨(d - p.1).toNat, by omega⟩
  have hit : pIter (s_q25_0 d key) (d, ()) = some (p.1, ()) := by
    have h := pIter_count (step := s_q25_0 d key) (F := fun i : Nat => (d - (i : Int), ())) (n := n) (x := (p.1, ())) (fun i hi => ?_) ?_ n 0 (by omega)
    · simpa using h
    · unfold s_q25_0
      have q1 : pSub .i64 (d - (i : Int)) 1 = d - ((i + 1 : Nat) : Int) := by rw [sub64 (by omega) (by omega)]; omega
      have q2 := ahead_mono (d := d) (l := p.1) (m := d - ((i + 1 : Nat) : Int)) h1 (by omega) (by omega) (by omega)
      have q3 : pLe (aheadV d (d - ((i + 1 : Nat) : Int))) key = true := decide_eq_true (by omega)
      simp only [q1, ahead_eq h0 h1 (show -1 ≤ d - ((i + 1 : Nat) : Int) by omega) (show d - ((i + 1 : Nat) : Int) ≤ d by omega), q3, if_true, pBind, Option.bind_some]
    · unfold s_q25_0
      have q1 : pSub .i64 p.1 1 = p.1 - 1 := sub64 (by omega) (by omega)
      have q3 : pLe (aheadV d (p.1 - 1)) key = false := decide_eq_false (by omega)
      simp only [hn, q1, ahead_eq h0 h1 (show -1 ≤ p.1 - 1 by omega) (show p.1 - 1 ≤ d by omega), q3, Bool.false_eq_true, if_false, pBind, Option.bind_some]
  have m1 : 0 ≤ p.2.2 * sideV d p.1 := Int.mul_nonneg a5 (by omega)
  have e2 : pSub .i64 key (aheadV d p.1) = p.2.1 + p.2.2 * sideV d p.1 := by rw [sub64 (by omega) (by omega)]; exact b4
  have e3 : pRem (p.2.1 + p.2.2 * sideV d p.1) (sideV d p.1) = p.2.1 := by
    show Int.tmod _ _ = _
    rw [Int.tmod_eq_emod_of_nonneg (by omega), Int.add_mul_emod_self_right, Int.emod_eq_of_lt a3 a4]
  have e4 : pQuo .i64 (p.2.1 + p.2.2 * sideV d p.1) (sideV d p.1) = p.2.2 := by
    show IntKind.i64.wrap (Int.tdiv _ _) = _
    rw [Int.tdiv_eq_ediv_of_nonneg (by omega), Int.add_mul_ediv_right _ _ (by omega), Int.ediv_eq_zero_of_lt a3 a4, Int.zero_add, wrap64 (by omega) (by omega)]
  have e5 : pNot (pEq (sideV d p.1) 0) = true := by
    have : pEq (sideV d p.1) 0 = false := decide_eq_false (by omega)
    rw [this]; rfl
  simp only [e0, hc, e1, hit, ahead_eq h0 h1 (show -1 ≤ p.1 by omega) a2, side_eq h0 h1 (show -1 ≤ p.1 by omega) a2, e2, e3, e4, e5, if_true, Bool.false_eq_true, if_false, pBind, Option.bind_some]
theorem keyV_inj {d : Int} {p q : PG} (hp : okP d p = true) (hq : okP d q = true) (h : keyV d p = keyV d q) : p = q := by
  have h1 := at_key hp
  rw [h, at_key hq] at h1
  simp only [Option.some.injEq, Prod.mk.injEq, and_true] at h1
  exact h1.symm
theorem getD_get {L : List EN} {i : Nat} (h : i < L.length) : L.getD i Z0 = L[i] := by simp [List.getD_eq_getElem?_getD, h]
/-- neighbours in order: all in order -/
theorem chain_all {α : Type} {R : α → α → Prop} (ht : ∀ a b c, R a b → R b c → R a c) : ∀ (L : List α), (∀ j, (h : j + 1 < L.length) → R L[j] L[j + 1]) → L.Pairwise R
  | [], _ => List.Pairwise.nil
  | [x], _ => List.pairwise_singleton _ _
  | x :: y :: L, h => by
    have ih := chain_all ht (y :: L) (fun j hj => h (j + 1) (by simpa using hj))
    refine List.pairwise_cons.2 ⟨fun z hz => ?_, ih⟩
    have h0 : R x y := h 0 (by simp)
    rcases List.mem_cons.1 hz with rfl | hz
    · exact h0
    · exact ht _ _ _ h0 ((List.pairwise_cons.1 ih).1 z hz)
/-- what New gives, if it gives one -/
theorem new_gives {d : Int} {l : List EN} (hl : l.length ≤ 200) : m_q16 d l = some (.inl (1, ())) ∨ ∃ L, m_q16 d l = some (.inr (0, (L, (d, ())))) ∧ L.Perm l ∧ DirOK d L := by
  cases hd : okD d with
  | false =>
    left
    unfold m_q16
    rw [count_eq, hd]
    rfl
  | true =>
    obtain ⟨h0, h1⟩ := okD_iff.1 hd
    by_cases hall : ∀ x ∈ l, okE d x = true
    · have hc : m_q35 l d = some (false, ()) := contains_none (by omega) (fun i hi => hall _ (by rw [getD_get hi]; exact List.getElem_mem hi))
      obtain ⟨L1, hs1, hp1, ho1⟩ := gsortA l (by omega)
      obtain ⟨L2, hs2, hp2, ho2⟩ := gsortB d L1 (by rw [hp1.length_eq]; omega)
      have hcp := count_pos h0 h1
      have hcz : pEq (aheadV d (-1)) 0 = false := decide_eq_false (by omega)
      have ok1 : ∀ x ∈ L1, okE d x = true := fun x hx => hall x (hp1.mem_iff.1 hx)
      have ok2 : ∀ x ∈ L2, okE d x = true := fun x hx => ok1 x (hp2.mem_iff.1 hx)
      have hN : m_q16 d l = ((pIter (s_q16_0 (L1, ())) (0, ())).bind fun d286 => pCase d286 (fun d287 => some (.inl (d287.1, ()))) (fun d288 => (m_q41 L1 d).bind fun d289 => (pIter (s_q17 d289) (0, ())).bind fun d291 => pCase d291 (fun d292 => some (.inl (d292.1, ()))) (fun d293 => some (.inr (0, (d289.1, (d, ()))))))) := by
        unfold m_q16
        rw [count_eq, hd]
        simp only [if_true, pBind, Option.bind_some, hcz, Bool.false_eq_true, if_false, hc, clone_eq (l := l) (by omega), hs1]
      rw [hN]
      rcases loop0 (L := L1) (by rw [hp1.length_eq]; omega) (fun x hx => end_ok (ok1 x hx)) with ⟨k1, _⟩ | ⟨⟨k, k1⟩, k2⟩
      · left; rw [k1]; rfl
      · rw [k1]
        simp only [Option.bind_some, pCase, hs2]
        rcases loop1 (L := L2) (by rw [hp2.length_eq, hp1.length_eq]; omega) with ⟨k3, _⟩ | ⟨⟨k', k3⟩, k4⟩
        · left; rw [k3]; rfl
        · right
          refine ⟨L2, by rw [k3]; rfl, hp2.trans hp1, ⟨h0, h1⟩, ok2, ?_, ?_⟩
          · -- keys rise
            have : L2.Pairwise fun x y => keyF d x < keyF d y := by
              refine chain_all (R := fun x y => keyF d x < keyF d y) (fun a b c h h' => Int.lt_trans h h') L2 (fun j hj => ?_)
              have hle : ¬ keyF d L2[j + 1] < keyF d L2[j] := by
                have := List.pairwise_iff_getElem.1 ho2 j (j + 1) (by omega) hj (by omega)
                simpa [Ordd, byI] using this
              have hne := k4 j hj
              rw [getD_get (by omega : j < L2.length), getD_get hj] at hne
              have hk : keyF d L2[j] ≠ keyF d L2[j + 1] := fun e => hne (keyV_inj (okE_iff.1 (ok2 _ (List.getElem_mem _))).1 (okE_iff.1 (ok2 _ (List.getElem_mem _))).1 e)
              omega
            exact this
          · -- apart
            have : L1.Pairwise apart := by
              have h : L1.Pairwise fun x y => endV x ≤ startF y ∧ startF x ≤ endV x ∧ startF y ≤ endV y := by
                refine chain_all (fun a b c h h' => ⟨by omega, h.2.1, h'.2.2⟩) L1 (fun j hj => ?_)
                have := k2 j hj
                rw [getD_get (by omega : j < L1.length), getD_get hj] at this
                have e : ∀ x ∈ L1, startF x ≤ endV x := fun x hx => by
                  obtain ⟨_, _, _, a3, _⟩ := okE_iff.1 (ok1 x hx)
                  have := secV_pos a3
                  simp only [startF, endV]
                  omega
                exact ⟨this, e _ (List.getElem_mem _), e _ (List.getElem_mem _)⟩
              exact h.imp fun hh => .inl hh.1
            exact (hp2.symm.pairwise_iff (R := apart) (fun {x y} h => apart_symm h)).1 this
    · left
      -- the first that may not be
      have : ∃ j, j < l.length ∧ (∀ i, i < j → okE d (l.getD i Z0) = true) ∧ okE d (l.getD j Z0) = false := by
        clear hl
        induction l with
        | nil => exact (hall (by simp)).elim
        | cons x r ih =>
          cases hx : okE d x with
          | false => exact ⟨0, by simp, fun i hi => by omega, by simpa using hx⟩
          | true =>
            obtain ⟨j, h1, h2, h3⟩ := ih (fun h => hall (fun y hy => by
              rcases List.mem_cons.1 hy with rfl | hy
              · exact hx
              · exact h y hy))
            refine ⟨j + 1, by simpa using h1, fun i hi => ?_, by simpa using h3⟩
            cases i with
            | zero => simpa using hx
            | succ i => simpa using h2 i (by omega)
      obtain ⟨j, h1, h2, h3⟩ := this
      exact new_bad (by omega) h1 h2 h3
/-- a directory's own row, as a new one -/
theorem new_same {d : Int} {L : List EN} (hl : L.length ≤ 200) (h : DirOK d L) : m_q16 d L = some (.inr (0, (L, (d, ())))) := by
  obtain ⟨⟨h0, h1⟩, hok, hkeys, hap⟩ := h
  have hd : okD d = true := okD_iff.2 ⟨h0, h1⟩
  have hc : m_q35 L d = some (false, ()) := contains_none (by omega) (fun i hi => hok _ (by rw [getD_get hi]; exact List.getElem_mem hi))
  obtain ⟨L1, hs1, hp1, ho1⟩ := gsortA L (by omega)
  obtain ⟨L2, hs2, hp2, ho2⟩ := gsortB d L1 (by rw [hp1.length_eq]; omega)
  have hcp := count_pos h0 h1
  have hcz : pEq (aheadV d (-1)) 0 = false := decide_eq_false (by omega)
  have ok1 : ∀ x ∈ L1, okE d x = true := fun x hx => hok x (hp1.mem_iff.1 hx)
  have hL2 : L2 = L := by
    refine List.Perm.eq_of_pairwise (le := fun x y => keyF d x ≤ keyF d y) (fun a b ha hb h h' => ?_) (ho2.imp fun hh => ?_) (hkeys.imp fun hh => Int.le_of_lt hh) (hp2.trans hp1)
    · have e : keyF d a = keyF d b := Int.le_antisymm h h'
      have hb' : b ∈ L := hb
      have ha' : a ∈ L := (hp2.trans hp1).mem_iff.1 ha
      -- keys tell entries apart
      have inj : ∀ x ∈ L, ∀ y ∈ L, keyF d x = keyF d y → x = y := by
        intro x hx y hy he
        obtain ⟨i, hi, rfl⟩ := List.getElem_of_mem hx
        obtain ⟨j, hj, rfl⟩ := List.getElem_of_mem hy
        rcases Nat.lt_trichotomy i j with hij | hij | hij
        · have := List.pairwise_iff_getElem.1 hkeys i j hi hj hij; omega
        · subst hij; rfl
        · have := List.pairwise_iff_getElem.1 hkeys j i hj hi hij; omega
      exact inj a ha' b hb' e
    · simp only [Ordd, byI, decide_eq_false_iff_not] at hh; omega
  have hap1 : L1.Pairwise apart := (hp1.symm.pairwise_iff (R := apart) (fun {x y} h => apart_symm h)).1 hap
  unfold m_q16
  rw [count_eq, hd]
  simp only [if_true, pBind, Option.bind_some, hcz, Bool.false_eq_true, if_false, hc, clone_eq (l := L) (by omega), hs1]
  rcases loop0 (L := L1) (by rw [hp1.length_eq]; omega) (fun x hx => end_ok (ok1 x hx)) with ⟨_, j, hj, hlt⟩ | ⟨⟨k, k1⟩, _⟩
  · exfalso
    rw [getD_get (by omega : j < L1.length), getD_get hj] at hlt
    have q1 := List.pairwise_iff_getElem.1 hap1 j (j + 1) (by omega) hj (by omega)
    have q2 : ¬ startF L1[j + 1] < startF L1[j] := by
      have := List.pairwise_iff_getElem.1 ho1 j (j + 1) (by omega) hj (by omega)
      simpa [Ordd, byI] using this
    obtain ⟨_, _, _, a3, _⟩ := okE_iff.1 (ok1 _ (List.getElem_mem hj))
    have := secV_pos a3
    rcases q1 with q1 | q1
    · omega
    · simp only [endV, startF] at *; omega
  · rw [k1]
    simp only [Option.bind_some, pCase, hs2]
    subst hL2
    rcases loop1 (L := L2) (by omega) with ⟨_, j, hj, he⟩ | ⟨⟨k', k3⟩, _⟩
    · exfalso
      rw [getD_get (by omega : j < L2.length), getD_get hj] at he
      have := List.pairwise_iff_getElem.1 hkeys j (j + 1) (by omega) hj (by omega)
      simp only [keyF, he] at this
      omega
    · rw [k3]
      rfl
end Go.Xr.Try
