import Derived.Test.YtkooincefcodcaaMatch2
import Derived.Test.YtkooincefcodcaaMMatchCopies
set_option linter.unusedVariables false
set_option linter.unusedSimpArgs false
set_option maxRecDepth 100000
namespace Go.Xr.Try
open Go Go.Xr

theorem occ_desc (b : List Int) (key : List Int) : ∀ k, (occ b key k).Pairwise (· > ·)
  | 0 => List.Pairwise.nil
  | k + 1 => by
    simp only [occ]
    split
    · exact List.pairwise_cons.2 ⟨fun p hp => (occ_mem.1 hp).1, occ_desc b key k⟩
    · exact occ_desc b key k
theorem places_mem {b : List Int} {i p : Nat} (h : p ∈ placesL b i) : p < i ∧ key3 b p = key3 b i := occ_mem.1 ((List.takeWhile_sublist _).mem h)
theorem dists_asc {b : List Int} {i : Nat} : (distsL b i).Pairwise (· < ·) := by
  unfold distsL
  split
  · rw [List.pairwise_map]
    have h1 : (placesL b i).Pairwise (· > ·) := (occ_desc b _ i).sublist (List.takeWhile_sublist _)
    refine List.Pairwise.imp_of_mem ?_ h1
    intro p q hp hq hpq
    have := (places_mem hp).1
    have := (places_mem hq).1
    omega
  · exact List.Pairwise.nil
theorem copies_loop {b : List Int} (hb : b.length ≤ 1000000) {k p m : Nat} {y z : List Int × (List Int × Unit)} {u : List Int × Unit} (hu : u.1 = b) {v : Int × Unit} (hv : v.1 = (k : Int)) (hp : p < k) (hm : k + m ≤ b.length) (hs : ∀ x, x < m → b.getD (k + x) 0 = b.getD (p + x) 0) :
    ∀ (j t : Nat), t + j = m → pIter (s_MatchCopies_0 (((k - p : Nat) : Int), ((m : Int), y)) v u) ((t : Int), ()) = some (.inr ((m : Int), ()))
  | 0, t, ht => by
    refine pIter_inr ?_
    unfold s_MatchCopies_0
    have : pLt (t : Int) (m : Int) = false := by simp [pLt]; omega
    have e : t = m := by omega
    subst e
    simp [this]
  | j + 1, t, ht => by
    have e1 : pLt (t : Int) (m : Int) = true := by simp [pLt]; omega
    have e2 : pAdd .i64 (k : Int) (t : Int) = ((k + t : Nat) : Int) := by rw [add64 (by omega) (by omega)]; omega
    have e3 : pSub .i64 ((k + t : Nat) : Int) ((k - p : Nat) : Int) = ((p + t : Nat) : Int) := by rw [sub64 (by omega) (by omega)]; omega
    have e4 : pIn ((k + t : Nat) : Int) (pLen b) = true := by simp [pIn, pLen]; omega
    have e5 : pIn ((p + t : Nat) : Int) (pLen b) = true := by simp [pIn, pLen]; omega
    have e6 : ∀ q : Nat, pGet 0 b ((q : Nat) : Int) = b.getD q 0 := fun q => by simp only [pGet, Int.toNat_natCast]
    have e7 : pAdd .i64 (t : Int) 1 = ((t + 1 : Nat) : Int) := by rw [add64 (by omega) (by omega)]; omega
    have hst : s_MatchCopies_0 (((k - p : Nat) : Int), ((m : Int), y)) v u ((t : Int), ()) = some (.inl (((t + 1 : Nat) : Int), ())) := by
      unfold s_MatchCopies_0
      simp only [hu, hv, e1, e2, e3, e4, e5, e6, e7, hs t (by omega), pNot, pEq, decide_true, Bool.not_true, Bool.false_eq_true, if_true, if_false]
    rw [pIter_inl hst]
    exact copies_loop (z := z) hb hu hv hp hm hs j (t + 1) (by omega)
theorem met_loop {l : List Int} (hl : l.length ≤ 1000000) (ha : l.Pairwise (· < ·)) {d : Int} {y : List Int × (List Int × Unit)} {x1 x2 : List Int} {y2 : Int × (List Int × (List Int × Unit))} :
    ∀ (j t : Nat) (met : Bool), t + j = l.length → met = decide (∃ x, x < t ∧ l.getD x 0 = d) → pIter (s_MatchCopies_1 (x1, (x2, (l, ()))) (d, y2)) (met, ((t : Int), ())) = some (.inr (decide (∃ x, x < l.length ∧ l.getD x 0 = d), ((l.length : Int), ())))
  | 0, t, met, ht, hm => by
    refine pIter_inr ?_
    unfold s_MatchCopies_1
    have : pLt (t : Int) (pLen l) = false := by simp [pLt, pLen]; omega
    have e : t = l.length := by omega
    subst e
    simp [this, hm]
  | j + 1, t, met, ht, hm => by
    have e1 : pLt (t : Int) (pLen l) = true := by simp [pLt, pLen]; omega
    have e2 : pIn (t : Int) (pLen l) = true := by simp [pIn, pLen]; omega
    have e6 : ∀ q : Nat, pGet 0 l ((q : Nat) : Int) = l.getD q 0 := fun q => by simp only [pGet, Int.toNat_natCast]
    have e7 : pAdd .i64 (t : Int) 1 = ((t + 1 : Nat) : Int) := by rw [add64 (by omega) (by omega)]; omega
    have hnew : (met || decide (l.getD t 0 = d)) = decide (∃ x, x < t + 1 ∧ l.getD x 0 = d) := by
      rw [Bool.eq_iff_iff, Bool.or_eq_true, hm]
      simp only [decide_eq_true_eq]
      constructor
      · rintro (⟨x, h1, h2⟩ | h)
        · exact ⟨x, by omega, h2⟩
        · exact ⟨t, by omega, h⟩
      · rintro ⟨x, h1, h2⟩
        by_cases e : x = t
        · subst e; exact .inr h2
        · exact .inl ⟨x, by omega, h2⟩
    have hfirst : (if met then (some (true, ()) : Option (Bool × Unit)) else if true then some (pEq (l.getD t 0) d, ()) else none) = some (decide (∃ x, x < t + 1 ∧ l.getD x 0 = d), ()) := by
      rw [← hnew]
      cases met <;> rfl
    have hst : s_MatchCopies_1 (x1, (x2, (l, ()))) (d, y2) (met, ((t : Int), ())) = some (.inl (decide (∃ x, x < t + 1 ∧ l.getD x 0 = d), (((t + 1 : Nat) : Int), ()))) := by
      unfold s_MatchCopies_1
      simp only [e1, e2, e6, e7, if_true]
      by_cases h0 : t = 0
      · subst h0
        have e3 : pLt 0 ((0 : Nat) : Int) = false := rfl
        rw [e3]
        simp only [if_true] at hfirst
        simp only [hfirst, pBind, Option.bind_some, Bool.false_eq_true, if_false, pCase]
      · have e3 : pLt 0 (t : Int) = true := by simp [pLt]; omega
        have e4 : pSub .i64 (t : Int) 1 = ((t - 1 : Nat) : Int) := by rw [sub64 (by omega) (by omega)]; omega
        have e5 : pIn ((t - 1 : Nat) : Int) (pLen l) = true := by simp [pIn, pLen]; omega
        have e8 : pLe (l.getD t 0) (l.getD (t - 1) 0) = false := by
          have := List.pairwise_iff_getElem.1 ha (t - 1) t (by omega) (by omega) (by omega)
          simp [pLe, List.getD_eq_getElem?_getD, show t < l.length by omega, show t - 1 < l.length by omega]
          exact this
        rw [e3, e4]
        simp only [if_true] at hfirst
        simp only [hfirst, e5, e6, e8, pBind, Option.bind_some, Bool.false_eq_true, if_false, if_true, pCase]
    rw [pIter_inl hst]
    exact met_loop hl ha (y := y) j (t + 1) _ (by omega) rfl
theorem MatchCopies_true (a0 : List Int) (a1 a2 : Int) : MatchCopies_m a0 a1 a2 = some true := by
  unfold MatchCopies_m
  by_cases g1 : 20 < a0.length
  · have : pLt 20 (pLen a0) = true := by simp [pLt, pLen]; omega
    simp [this, awake6_ok, pBind]
  have g1' : pLt 20 (pLen a0) = false := by simp [pLt, pLen]; omega
  by_cases g2 : a1 < 0
  · have : pLt a1 0 = true := by simp [pLt, g2]
    simp [g1', this, awake6_ok, pBind]
  have g2' : pLt a1 0 = false := by simp [pLt, g2]
  by_cases g3 : 700 < a1
  · have : pLt 700 a1 = true := by simp [pLt, g3]
    simp [g1', g2', this, awake6_ok, pBind]
  have g3' : pLt 700 a1 = false := by simp [pLt, g3]
  obtain ⟨N, rfl⟩ := Int.eq_ofNat_of_zero_le (by omega : 0 ≤ a1)
  obtain ⟨b, h1, h2, _⟩ := row_ok (a0 := a0) (by omega) (N := N) (by omega)
  have hb : b.length ≤ 700 := by
    rcases h2 with h2 | h2
    · omega
    · rw [h2]; simp
  have e1 : pAdd .i64 (pLen b) 1 = ((b.length + 1 : Nat) : Int) := by
    simp only [pLen]
    rw [add64 (by omega) (by omega)]; omega
  obtain ⟨k, hk, h3, _⟩ := round_ok (a := a2) (n := b.length + 1) (by omega) (by omega)
  have h4 := at_ok (b := b) (by omega) (i := k) (by omega)
  have h5 := all_ok (b := b) (by omega) (i := k) (by omega)
  have hnew := new_ok (b := b) (by omega)
  simp only [g1', g2', g3', Bool.false_eq_true, if_false, h1, pBind, Option.bind_some, hnew, e1, h3, h4, h5, awake6_ok, pAmb_self]
  -- what the best match is
  have hbest : (bestAt b k = (0, 0) ∧ distsL b k = []) ∨ ∃ p, p < k ∧ k + 3 ≤ b.length ∧ 3 ≤ mlen b k p ∧ bestAt b k = (k - p, mlen b k p) ∧ ((k - p : Nat) : Int) ∈ distsL b k := by
    unfold bestAt distsL
    by_cases hk3 : k + 3 ≤ b.length
    · simp only [if_pos hk3]
      rcases best_spec (b := b) (i := k) (placesL b k) (0, 0) with ⟨q1, q2⟩ | ⟨p, q1, q2, q3, q4⟩
      · left
        refine ⟨q1, ?_⟩
        cases hpl : placesL b k with
        | nil => rfl
        | cons p l =>
          exfalso
          have hm : p ∈ placesL b k := by rw [hpl]; simp
          obtain ⟨m1, m2⟩ := places_mem hm
          have := key3_run hk3 m1 m2
          have := q2 p hm
          simp at this
          omega
      · right
        obtain ⟨m1, m2⟩ := places_mem q1
        exact ⟨p, m1, hk3, key3_run hk3 m1 m2, q2, List.mem_map.2 ⟨p, q1, rfl⟩⟩
    · simp only [if_neg hk3]
      left
      simp
  rcases hbest with ⟨q1, q2⟩ | ⟨p, q1, q2, q3, q4, q5⟩
  · rw [q1, q2]
    rfl
  · rw [q4]
    generalize hm : mlen b k p = m at *
    have m1 : m ≤ 258 := by rw [← hm]; exact runL_le b 258 k p
    have m2 : k + m ≤ b.length := by rw [← hm]; exact runL_end b 258 k p (by omega)
    have m3 : ∀ x, x < m → b.getD (k + x) 0 = b.getD (p + x) 0 := by rw [← hm]; exact runL_same b 258 k p
    have c1 : pEq (m : Int) 0 = false := by simp [pEq]; omega
    have c2 : pLt ((k - p : Nat) : Int) 1 = false := by simp [pLt] <;> omega
    have c3 : pLt (k : Int) ((k - p : Nat) : Int) = false := by simp [pLt] <;> omega
    have c4 : pLt (m : Int) 3 = false := by simp [pLt]; omega
    have c5 : pLt 258 (m : Int) = false := by simp [pLt]; omega
    have c6 : pAdd .i64 (k : Int) (m : Int) = ((k + m : Nat) : Int) := by rw [add64 (by omega) (by omega)]; omega
    have c7 : pLt (pLen b) ((k + m : Nat) : Int) = false := by simp [pLt, pLen]; omega
    have c8 := copies_loop (b := b) (by omega) (y := (b, (prevs b (b.length - 2), ()))) (z := (b, (b, ()))) (u := (b, ())) rfl (v := ((k : Int), ())) rfl q1 m2 m3 m 0 (by omega)
    have c8 : pIter (s_MatchCopies_0 (((k - p : Nat) : Int), ((m : Int), (b, (prevs b (b.length - 2), ())))) ((k : Int), ()) (b, ())) (0, ()) = some (.inr ((m : Int), ())) := c8
    have hdl : (distsL b k).length ≤ 1000000 := by
      have h1 := occ_len b (key3 b k) k
      have h2 : (placesL b k).length ≤ (occ b (key3 b k) k).length := (List.takeWhile_sublist _).length_le
      unfold distsL
      rw [if_pos q2, List.length_map]
      omega
    have c9 := met_loop hdl dists_asc (d := ((k - p : Nat) : Int)) (y := (b, (b, ()))) (x1 := b) (x2 := prevs b (b.length - 2)) (y2 := ((m : Int), (b, (prevs b (b.length - 2), ())))) (distsL b k).length 0 false (by omega) (by simp)
    have hmet : decide (∃ x, x < (distsL b k).length ∧ (distsL b k).getD x 0 = ((k - p : Nat) : Int)) = true := by
      apply decide_eq_true
      obtain ⟨x, hx, e⟩ := List.mem_iff_getElem.1 q5
      exact ⟨x, hx, by simp [List.getD_eq_getElem?_getD, hx]; exact e⟩
    rw [hmet] at c9
    have c9 : pIter (s_MatchCopies_1 (b, (prevs b (b.length - 2), (distsL b k, ()))) (((k - p : Nat) : Int), ((m : Int), (b, (prevs b (b.length - 2), ()))))) (false, (0, ())) = some (.inr (true, (((distsL b k).length : Int), ()))) := c9
    simp only [c1, c2, c3, c4, c5, c6, c7, Bool.false_eq_true, if_false, c8, c9, Option.bind_some, pCase, if_true]
    by_cases z1 : m = 258
    · have : pEq (m : Int) 258 = true := by simp [pEq]; omega
      simp only [this, if_true, Option.bind_some]
    have z1' : pEq (m : Int) 258 = false := by simp [pEq]; omega
    by_cases z2 : k + m = b.length
    · have : pEq ((k + m : Nat) : Int) (pLen b) = true := by simp [pEq, pLen]; omega
      simp only [z1', this, if_true, Option.bind_some, Bool.false_eq_true, if_false]
    have z2' : pEq ((k + m : Nat) : Int) (pLen b) = false := by simp [pEq, pLen]; omega
    have z3 : pIn ((k + m : Nat) : Int) (pLen b) = true := by simp [pIn, pLen]; omega
    have z4 : pSub .i64 ((k + m : Nat) : Int) ((k - p : Nat) : Int) = ((p + m : Nat) : Int) := by rw [sub64 (by omega) (by omega)]; omega
    have z5 : pIn ((p + m : Nat) : Int) (pLen b) = true := by simp [pIn, pLen]; omega
    have z6 : ∀ q : Nat, pGet 0 b ((q : Nat) : Int) = b.getD q 0 := fun q => by simp only [pGet, Int.toNat_natCast]
    have z7 : pNot (pEq (b.getD (k + m) 0) (b.getD (p + m) 0)) = true := by
      have := runL_stop b 258 k p (by have := hm; unfold mlen at this; omega) (by have := hm; unfold mlen at this; omega)
      have hm' : runL b 258 k p = m := hm
      rw [hm'] at this
      simp [pNot, pEq]
      simpa [List.getD_eq_getElem?_getD] using this
    simp only [z1', z2', z3, z4, z5, z6, z7, if_true, Option.bind_some, Bool.false_eq_true, if_false]
end Go.Xr.Try
