import Derived.Test.YtkooincefcodcaaSortK
set_option linter.unusedVariables false
set_option linter.unusedSimpArgs false
set_option maxRecDepth 100000
namespace Go.Xr.Try
open Go Go.Xr

theorem size_ok {n : Int} (h0 : 0 ≤ n) (h1 : n ≤ 100000) : pSize n n = true := decide_eq_true ⟨h0, Int.le_trans h1 (by decide), rfl⟩
theorem new_ok {n : Int} (h0 : 1 ≤ n) (h1 : n ≤ 2048) : m_q18 n = some (.inr (0, (List.replicate n.toNat zero32, ([], (false, (false, (0, (0, (0, ()))))))))) := by
  unfold m_q18
  have e1 : pLt n 1 = false := by simp [pLt]; omega
  have e2 : pLt 2048 n = false := by simp [pLt]; omega
  have e3 : pSize n n = true := size_ok (by omega) (by omega)
  rw [if_neg (by rw [e1]; exact Bool.false_ne_true), if_neg (by rw [e2]; exact Bool.false_ne_true), if_pos e3]
theorem new_zero : m_q18 0 = some (.inl (1, ())) := by
  unfold m_q18
  rw [if_pos (by decide)]
theorem fuse_ok {a b : Int} {l : List (List Int)} {h : List (Int × List Int)} {fuse : Bool} {left mask writes : Int} (h0 : 0 ≤ a) (h1 : a ≤ 1048576) : m_q9 a b l h false fuse left mask writes = some (0, (l, (h, (false, (true, (a, (b, (writes, ())))))))) := by
  unfold m_q9
  have e1 : pLt a 0 = false := by simp [pLt]; omega
  have e2 : pLt 1048576 a = false := by simp [pLt]; omega
  simp only [e1, e2, Bool.false_eq_true, if_false]
/-- the bit that says whether the i-th of the held sectors stays -/
abbrev keeps (mask : Int) (i : Nat) : Bool := pLt 0 (pAnd .i64 (pShr .i64 mask (pRem (i : Int) 32)) 1)
def upF (h : List (Int × List Int)) (mask : Int) : Nat → List Int → List (List Int) → List Int → List (List Int) × List Int
  | _, [], l, o => (l, o)
  | i, k :: ks, l, o => if keeps mask i then upF h mask (i + 1) ks (l.set k.toNat (pMGet eqI zero32 h k)) (o ++ [k]) else upF h mask (i + 1) ks l o
theorem up_loop (L : List Int) (h : List (Int × List Int)) (b : Bool) (l0 : List (List Int)) (h0 : List (Int × List Int)) (dn fu : Bool) (left mask wr : Int) (hL : L.length ≤ 12) :
    ∀ (ks : List Int) (i : Nat) (l : List (List Int)) (o : List Int), L.drop i = ks → i + ks.length = L.length → o.length ≤ i → (∀ k ∈ ks, 0 ≤ k ∧ k < (l.length : Int)) →
      pIter (s_q13_0 (L, (h, ())) (b, (l0, (h0, (dn, (fu, (left, (mask, (wr, ()))))))))) ((i : Int), (l, (o, ()))) = some ((L.length : Int), ((upF h mask i ks l o).1, ((upF h mask i ks l o).2, ())))
  | [], i, l, o, hd, hi, ho, hk => by
    have e : i = L.length := by simpa using hi
    subst e
    refine pIter_inr ?_
    unfold s_q13_0
    have e1 : pLt (L.length : Int) (pLen L) = false := by simp [pLt, pLen]
    simp only [e1, Bool.false_eq_true, if_false, upF]
  | k :: ks, i, l, o, hd, hi, ho, hk => by
    simp only [List.length_cons] at hi
    have e1 : pLt (i : Int) (pLen L) = true := by simp [pLt, pLen]; omega
    have e2 : pIn (i : Int) (pLen L) = true := by simp [pIn, pLen]; omega
    have e3 : pNot (pEq 32 0) = true := by decide
    have e4 : pLe 0 (pRem (i : Int) 32) = true := by
      have := Int.tmod_nonneg 32 (a := (i : Int)) (by omega)
      simp only [pLe, pRem, decide_eq_true_eq]
      exact this
    have e5 : pGet 0 L (i : Int) = k := by
      have hk1 : L[i]? = some k := by
        have := congrArg (·[0]?) hd
        simpa using this
      simp [pGet, List.getD_eq_getElem?_getD, hk1]
    have hk0 := hk k (by simp)
    have e6 : pIn k (pLen l) = true := by simp [pIn, pLen]; omega
    have e7 : pRoom (pIAdd (pLen o) (pLen [k])) = true := room_le (by simp only [pIAdd, pLen, List.length_cons, List.length_nil]; omega)
    have e8 : pAdd .i64 (i : Int) 1 = ((i + 1 : Nat) : Int) := by rw [add64 (by omega) (by omega)]; omega
    have hd' : L.drop (i + 1) = ks := by
      rw [← List.drop_drop, hd]; rfl
    have hst : s_q13_0 (L, (h, ())) (b, (l0, (h0, (dn, (fu, (left, (mask, (wr, ()))))))) ) ((i : Int), (l, (o, ()))) = some (.inl (((i + 1 : Nat) : Int), ((if keeps mask i then l.set k.toNat (pMGet eqI zero32 h k) else l), ((if keeps mask i then o ++ [k] else o), ())))) := by
      unfold s_q13_0
      show (if pLt (i : Int) (pLen L) = true then _ else _) = _
      rw [if_pos e1, if_pos e2, if_pos e3, if_pos e4]
      simp only [e5, e8, pAmb_self]
      by_cases hb : keeps mask i = true
      · rw [if_pos hb, if_pos hb, if_pos hb]
        show (Option.bind (if pIn k (pLen l) = true then _ else _) _) = _
        rw [if_pos e6, if_pos e7]
        rfl
      · rw [if_neg hb, if_neg hb, if_neg hb]
        rfl
    rw [pIter_inl hst]
    by_cases hb : keeps mask i = true
    · rw [if_pos hb, if_pos hb, up_loop L h b l0 h0 dn fu left mask wr hL ks (i + 1) _ _ hd' (by omega) (by simp; omega) (fun k' hk' => by rw [List.length_set]; exact hk k' (by simp [hk']))]
      simp only [upF, if_pos hb]
    · rw [if_neg hb, if_neg hb, up_loop L h b l0 h0 dn fu left mask wr hL ks (i + 1) _ _ hd' (by omega) (by omega) (fun k' hk' => hk k' (by simp [hk']))]
      simp only [upF, if_neg hb]
/-- the keys that are held back, by size -/
theorem sorted_keys (h : List (Int × List Int)) (hl : h.length ≤ 12) : ∃ L, m_q21 h = some (L, (h, ())) ∧ L.Perm (h.map (·.1)) ∧ L.Pairwise (· ≤ ·) := by
  obtain ⟨L, h1, h2, h3⟩ := sort_small (h.map (·.1)) (by simpa using hl)
  refine ⟨L, ?_, h2, h3⟩
  unfold m_q21
  refine pAny_eq h (List.Perm.refl h) fun d hd => ?_
  have hd' : d.Perm h := hd
  obtain ⟨L', k1, k2, k3⟩ := sort_small (d.map (·.1)) (by rw [List.length_map, hd'.length_eq]; exact hl)
  rw [keys_fold d [] (by rw [hd'.length_eq]; simpa using hl)]
  have e : L' = L := sorted_one (k2.trans ((hd'.map (·.1)).trans h2.symm)) k3 h3
  subst e
  show (m_q20 (d.map (·.1))).bind (fun d144 => some (d144.1, (h, ()))) = _
  rw [k1]
  rfl
theorem up_ok {l : List (List Int)} {h : List (Int × List Int)} {fuse : Bool} {left mask writes : Int} (hl : h.length ≤ 12) (hk : ∀ k ∈ h.map (·.1), 0 ≤ k ∧ k < (l.length : Int)) :
    ∃ L, L.Perm (h.map (·.1)) ∧ L.Pairwise (· ≤ ·) ∧ m_q13 l h true fuse left mask writes = some ((upF h mask 0 L l []).1, ([], (false, (false, (left, (mask, (writes, ((upF h mask 0 L l []).2, ())))))))) := by
  obtain ⟨L, h1, h2, h3⟩ := sorted_keys h hl
  refine ⟨L, h2, h3, ?_⟩
  have hu := up_loop L h true l h true fuse left mask writes (by rw [h2.length_eq, List.length_map]; exact hl) L 0 l [] rfl (by simp) (by simp) (fun k hk' => hk k (h2.mem_iff.1 hk'))
  unfold m_q13 m_q6
  simp only [pBind, Option.bind_some]
  rw [if_neg (by decide)]
  show (m_q19 h).bind _ = _
  unfold m_q19
  simp only [Option.bind_some, h1]
  have hu' : pIter (s_q13_0 (L, (h, ())) (true, (l, (h, (true, (fuse, (left, (mask, (writes, ()))))))))) (0, (l, ([], ()))) = _ := hu
  rw [hu']
  rfl
end Go.Xr.Try
