import Derived.Test.YtkooincefcodcaaMatch
set_option linter.unusedVariables false
set_option linter.unusedSimpArgs false
set_option maxRecDepth 100000
namespace Go.Xr.Try
open Go Go.Xr

theorem occ_len (b : List Int) (key : List Int) : ∀ k, (occ b key k).length ≤ k
  | 0 => Nat.le_refl _
  | k + 1 => by
    simp only [occ]
    have := occ_len b key k
    split
    · simp; omega
    · omega
def projAll : (List Int × (List Unit × Unit)) ⊕ (Int × (List Int × (List Unit × Unit))) → List Int
  | .inl x => x.1
  | .inr x => x.2.1
theorem all_loop {b : List Int} (hb : b.length ≤ 1000000) {i : Nat} (hi : i + 3 ≤ b.length) : ∀ (k : Nat), k ≤ i → ∀ (l : List Int), l.length + k ≤ 2000000 →
    ∃ r, pIter (s_wainscotlaw6_all_1_0 (b, (prevs b (b.length - 2), ((i : Int), ()))) (-1)) (lastP b (key3 b i) k, (l, ([], ()))) = some r ∧
      projAll r = l ++ ((occ b (key3 b i) k).takeWhile (near i)).map fun p => ((i - p : Nat) : Int) := by
  intro k
  induction k using Nat.strongRecOn with
  | _ k ih =>
    intro hk l hl
    rcases lastP_occ b (key3 b i) k with ⟨h1, h2⟩ | ⟨p, hp, h1, hkey, h2⟩
    · refine ⟨_, pIter_inr (x := .inr (-1, (l, ([], ())))) ?_, ?_⟩
      · rw [h1]
        unfold s_wainscotlaw6_all_1_0
        simp [pLe]
      · rw [h2]
        simp [projAll]
    · rw [h1, h2]
      have e1 : pLe 0 (p : Int) = true := by simp [pLe]
      have e2 : pSub .i64 (i : Int) (p : Int) = ((i - p : Nat) : Int) := by rw [sub64 (by omega) (by omega)]; omega
      by_cases hn : i - p ≤ 4096
      · have e3 : pLe ((i - p : Nat) : Int) 4096 = true := by simp [pLe]; omega
        have e4 : pEq (pLen l) (-1) = false := by simp [pEq, pLen] <;> omega
        have e5 : pRoom (pIAdd (pLen l) (pLen [((i - p : Nat) : Int)])) = true := by simp [pRoom, pIAdd, pLen]; omega
        have e6 : pIn (p : Int) (pLen (prevs b (b.length - 2))) = true := by simp [pIn, pLen, prevs_len]; omega
        have e7 : pGet 0 (prevs b (b.length - 2)) (p : Int) = lastP b (key3 b i) p := by
          simp only [pGet, Int.toNat_natCast]
          rw [prevs_get (by omega), hkey]
        have e8 : (p :: occ b (key3 b i) p).takeWhile (near i) = p :: (occ b (key3 b i) p).takeWhile (near i) := by
          rw [List.takeWhile_cons, if_pos (by simp [near]; omega)]
        have hst : s_wainscotlaw6_all_1_0 (b, (prevs b (b.length - 2), ((i : Int), ()))) (-1) ((p : Int), (l, ([], ()))) = some (.inl (lastP b (key3 b i) p, (l ++ [((i - p : Nat) : Int)], ([], ())))) := by
          unfold s_wainscotlaw6_all_1_0
          simp only [e1, e2, e3, e4, e5, e6, e7, if_true, Bool.false_eq_true, if_false, pApp]
        rw [pIter_inl hst]
        obtain ⟨r, q1, q2⟩ := ih p hp (by omega) (l ++ [((i - p : Nat) : Int)]) (by simp; omega)
        refine ⟨r, q1, ?_⟩
        rw [q2, e8]
        simp
      · have e3 : pLe ((i - p : Nat) : Int) 4096 = false := by simp [pLe]; omega
        have e8 : (p :: occ b (key3 b i) p).takeWhile (near i) = [] := by
          rw [List.takeWhile_cons, if_neg (by simp [near]; omega)]
        refine ⟨_, pIter_inr (x := .inr ((p : Int), (l, ([], ())))) ?_, ?_⟩
        · unfold s_wainscotlaw6_all_1_0
          simp only [e1, e2, e3, if_true, Bool.false_eq_true, if_false]
        · rw [e8]
          simp [projAll]
/-- the distances of all matches -/
def distsL (b : List Int) (i : Nat) : List Int := if i + 3 ≤ b.length then (placesL b i).map fun p => ((i - p : Nat) : Int) else []
theorem all_ok {b : List Int} (hb : b.length ≤ 1000000) {i : Nat} (hi : i ≤ 1000000) : m_wainscotlaw6_all_1 (i : Int) (-1) b (prevs b (b.length - 2)) = some (b, (prevs b (b.length - 2), (distsL b i, ()))) := by
  unfold m_wainscotlaw6_all_1 m_match_Finder_Places
  simp only [pBind, Option.bind_some]
  have h1 : pLt (i : Int) 0 = false := by simp [pLt]
  simp only [h1, Bool.false_eq_true, if_false]
  by_cases h : i + 3 ≤ b.length
  · have h2 : pLe (pLen (prevs b (b.length - 2))) (i : Int) = false := by simp [pLe, pLen, prevs_len]; omega
    have h3 : pIn (i : Int) (pLen (prevs b (b.length - 2))) = true := by simp [pIn, pLen, prevs_len]; omega
    have h4 : pGet 0 (prevs b (b.length - 2)) (i : Int) = lastP b (key3 b i) i := by
      simp only [pGet, Int.toNat_natCast]
      exact prevs_get (by omega)
    obtain ⟨r, h5, h6⟩ := all_loop hb h i (Nat.le_refl i) [] (by simp; omega)
    simp only [h2, h3, h4, Bool.false_eq_true, if_false, if_true, h5, Option.bind_some]
    unfold distsL placesL
    rw [if_pos h]
    cases r with
    | inl x => simp only [projAll, List.nil_append] at h6; simp only [pCase, h6]
    | inr x => simp only [projAll, List.nil_append] at h6; simp only [pCase, h6]
  · have h2 : pLe (pLen (prevs b (b.length - 2))) (i : Int) = true := by simp [pLe, pLen, prevs_len]; omega
    simp only [h2, if_true]
    unfold distsL
    rw [if_neg h]
theorem round_ok {a : Int} {n : Nat} (h0 : 0 < n) (hn : n ≤ 1000000000) : ∃ k : Nat, k < n ∧ m_wainscotalike_Round a (n : Int) = some ((k : Int), ()) ∧ (k : Int) = (a.tmod n + n).tmod n := by
  have hp : (0 : Int) < (n : Int) := by omega
  have h1 : -(n : Int) < a.tmod n ∧ a.tmod n < n := ⟨Int.lt_tmod_of_pos a hp, Int.tmod_lt_of_pos a hp⟩
  have h2 : pAdd .i64 (pRem a (n : Int)) (n : Int) = a.tmod n + n := by
    simp only [pRem]
    exact add64 (by omega) (by omega)
  have h3 : 0 ≤ (a.tmod n + n).tmod n := Int.tmod_nonneg _ (by omega)
  have h4 : (a.tmod n + n).tmod n < n := Int.tmod_lt_of_pos _ hp
  refine ⟨((a.tmod n + n).tmod n).toNat, by omega, ?_, by omega⟩
  unfold m_wainscotalike_Round
  have h5 : pNot (pEq (n : Int) 0) = true := by simp [pNot, pEq]; omega
  simp only [h5, if_true, h2]
  simp only [pRem]
  congr 2
  omega
theorem row_loop (a0 : List Int) (h0 : a0 ≠ []) (hl : a0.length ≤ 1000) {N : Nat} (hN : N ≤ 1000000) : ∀ (j k : Nat) (l : List Int), k + j = N → l.length = k → (∀ x ∈ l, 0 ≤ x ∧ x ≤ 255) →
    ∃ l', pIter (s_wainscotalike_Row_0 (N : Int) a0) ((k : Int), (l, ())) = some ((N : Int), (l', ())) ∧ l'.length = N ∧ ∀ x ∈ l', 0 ≤ x ∧ x ≤ 255
  | 0, k, l, hk, hlk, hb => by
    have : k = N := by omega
    subst this
    refine ⟨l, pIter_inr ?_, hlk, hb⟩
    unfold s_wainscotalike_Row_0
    simp [pLt]
  | j + 1, k, l, hk, hlk, hb => by
    have hpos : 0 < a0.length := List.length_pos_iff.2 h0
    have e1 : pLt (k : Int) (N : Int) = true := by simp [pLt]; omega
    have e2 : pLt 0 (pLen a0) = true := by simp [pLt, pLen]; omega
    have e3 : pNot (pEq (pLen a0) 0) = true := by simp [pNot, pEq, pLen]; omega
    have e4 : pRem (k : Int) (pLen a0) = ((k % a0.length : Nat) : Int) := rem64 _ _
    have e5 : pIn ((k % a0.length : Nat) : Int) (pLen a0) = true := by
      have := Nat.mod_lt k hpos
      simp [pIn, pLen]; omega
    have e6 : pNot (pEq 97 0) = true := rfl
    generalize hx : pWrap .u8 (pAdd .i64 (pGet 0 a0 ((k % a0.length : Nat) : Int)) (pQuo .i64 (k : Int) 97)) = x
    have hx2 : 0 ≤ x ∧ x ≤ 255 := by
      rw [← hx]
      simp only [pWrap]
      rw [wrap8_eq]
      omega
    have e7 : pRoom (pIAdd (pLen l) (pLen [x])) = true := by simp [pRoom, pIAdd, pLen]; omega
    have e8 : pAdd .i64 (k : Int) 1 = ((k + 1 : Nat) : Int) := by rw [add64 (by omega) (by omega)]; omega
    have hst : s_wainscotalike_Row_0 (N : Int) a0 ((k : Int), (l, ())) = some (.inl (((k + 1 : Nat) : Int), (l ++ [x], ()))) := by
      unfold s_wainscotalike_Row_0
      simp only [e1, e2, e3, e4, e5, e6, hx, e7, e8, if_true, pApp]
    rw [pIter_inl hst]
    exact row_loop a0 h0 hl hN j (k + 1) (l ++ [x]) (by omega) (by simp; omega) (fun y hy => by
      rcases List.mem_append.1 hy with hy | hy
      · exact hb y hy
      · simp at hy; rw [hy]; exact hx2)
theorem row_ok {a0 : List Int} (hl : a0.length ≤ 1000) {N : Nat} (hN : N ≤ 1000000) : ∃ b, m_wainscotalike_Row a0 (N : Int) = some (b, ()) ∧ (b.length = N ∨ b = []) ∧ ∀ x ∈ b, 0 ≤ x ∧ x ≤ 255 := by
  unfold m_wainscotalike_Row
  by_cases h0 : a0 = []
  · subst h0
    refine ⟨[], ?_, .inr rfl, by simp⟩
    have : pIter (s_wainscotalike_Row_0 (N : Int) []) (0, ([], ())) = some (0, ([], ())) := by
      refine pIter_inr ?_
      unfold s_wainscotalike_Row_0
      by_cases h : pLt 0 (N : Int) = true
      · rw [h]; simp [pLt, pLen]
      · have : pLt 0 (N : Int) = false := by simpa using h
        rw [this]; rfl
    simp [pBind, this]
  · obtain ⟨l, h1, h2, h3⟩ := row_loop a0 h0 hl hN N 0 [] (by omega) rfl (by simp)
    have h1 : pIter (s_wainscotalike_Row_0 (N : Int) a0) (0, ([], ())) = some ((N : Int), (l, ())) := h1
    exact ⟨l, by simp [pBind, h1], .inl h2, h3⟩
theorem ints_loop (p q : List Int) (hl : p.length = q.length) (hp : p.length ≤ 1000000) : ∀ (j k : Nat), k + j = p.length → (∀ x, x < k → p.getD x 0 = q.getD x 0) →
    ∃ r, pIter (s_wainscotalike_Ints_0 p q) ((k : Int), ()) = some r ∧ (match r with | .inl x => x.1 | .inr _ => true) = decide (p = q)
  | 0, k, hk, hs => by
    refine ⟨_, pIter_inr (x := .inr ((k : Int), ())) ?_, ?_⟩
    · unfold s_wainscotalike_Ints_0
      have : pLt (k : Int) (pLen p) = false := by simp [pLt, pLen]; omega
      rw [this]; rfl
    · symm
      apply decide_eq_true
      apply List.ext_getElem hl
      intro i h1 h2
      have := hs i (by omega)
      simpa [List.getD_eq_getElem?_getD, h1, h2] using this
  | j + 1, k, hk, hs => by
    have e1 : pLt (k : Int) (pLen p) = true := by simp [pLt, pLen]; omega
    have e2 : pIn (k : Int) (pLen p) = true := by simp [pIn, pLen]; omega
    have e3 : pIn (k : Int) (pLen q) = true := by simp [pIn, pLen]; omega
    have e4 : ∀ l : List Int, pGet 0 l (k : Int) = l.getD k 0 := fun l => by simp only [pGet, Int.toNat_natCast]
    by_cases he : p.getD k 0 = q.getD k 0
    · have e5 : pAdd .i64 (k : Int) 1 = ((k + 1 : Nat) : Int) := by rw [add64 (by omega) (by omega)]; omega
      have hst : s_wainscotalike_Ints_0 p q ((k : Int), ()) = some (.inl (((k + 1 : Nat) : Int), ())) := by
        unfold s_wainscotalike_Ints_0
        simp only [e1, e2, e3, e4, he, e5, pNot, pEq, decide_true, Bool.not_true, Bool.false_eq_true, if_true, if_false]
      rw [pIter_inl hst]
      refine ints_loop p q hl hp j (k + 1) (by omega) fun x hx => ?_
      by_cases e : x = k
      · subst e; exact he
      · exact hs x (by omega)
    · refine ⟨_, pIter_inr (x := .inl (false, ())) ?_, ?_⟩
      · unfold s_wainscotalike_Ints_0
        simp only [e1, e2, e3, e4, he, pNot, pEq, decide_false, Bool.not_false, if_true]
      · symm
        apply decide_eq_false
        intro e
        rw [e] at he
        exact he rfl
theorem ints_ok {p q : List Int} (hp : p.length ≤ 1000000) : m_wainscotalike_Ints p q = some (decide (p = q), ()) := by
  unfold m_wainscotalike_Ints
  by_cases hl : p.length = q.length
  · have e1 : pNot (pEq (pLen p) (pLen q)) = false := by simp [pNot, pEq, pLen, hl]
    obtain ⟨r, h1, h2⟩ := ints_loop p q hl hp p.length 0 (by omega) (fun x hx => by omega)
    have h1 : pIter (s_wainscotalike_Ints_0 p q) (0, ()) = some r := h1
    simp only [e1, Bool.false_eq_true, if_false, h1, pBind, Option.bind_some]
    cases r with
    | inl x => simp only at h2; simp only [pCase, h2]
    | inr x => simp only at h2; simp only [pCase, h2]
  · have e1 : pNot (pEq (pLen p) (pLen q)) = true := by
      simp only [pNot, pEq, pLen, Bool.not_eq_true', decide_eq_false_iff_not]
      omega
    have : decide (p = q) = false := by
      apply decide_eq_false
      intro e
      exact hl (by rw [e])
    rw [e1, this]
    rfl
theorem awake6_ok : m_wainscotlaw6_awake = some (true, ()) := by
  have h0 : bestAt [97, 97, 97, 97, 98, 99, 97, 98, 99] 1 = (1, 3) := by decide +kernel
  have h1 : bestAt [97, 97, 97, 97, 98, 99, 97, 98, 99] 6 = (3, 3) := by decide +kernel
  have h2 : bestAt [97, 97, 97, 97, 98, 99, 97, 98, 99] 4 = (0, 0) := by decide +kernel
  have h3 : distsL [97, 97, 97, 97, 98, 99, 97, 98, 99] 1 = [1] := by decide +kernel
  have hb : ([97, 97, 97, 97, 98, 99, 97, 98, 99] : List Int).length ≤ 1000000 := by decide
  generalize hB : ([97, 97, 97, 97, 98, 99, 97, 98, 99] : List Int) = B at *
  have a1 := at_ok hb (i := 1) (by omega)
  have a2 := at_ok hb (i := 6) (by omega)
  have a3 := at_ok hb (i := 4) (by omega)
  have a4 := all_ok hb (i := 1) (by omega)
  rw [h0] at a1
  rw [h1] at a2
  rw [h2] at a3
  rw [h3] at a4
  unfold m_wainscotlaw6_awake
  rw [hB]
  have hp : pLt 0 (pLen B) = true := by rw [← hB]; rfl
  have c1 : ((1 : Nat) : Int) = 1 := rfl
  have c2 : ((6 : Nat) : Int) = 6 := rfl
  have c3 : ((4 : Nat) : Int) = 4 := rfl
  rw [c1] at a1 a4
  rw [c2] at a2
  rw [c3] at a3
  have hn := new_ok hb
  have i1 : m_wainscotalike_Ints [1] [1] = some (true, ()) := by rw [ints_ok (by decide)]; rfl
  simp only [hp, if_true, hn, pBind, Option.bind_some, a1, a2, a3, a4, m_match_Finder_At_1, m_match_Finder_Places_1, m_wainscotlaw6_all, pAmb_self, i1]
  rfl
end Go.Xr.Try
