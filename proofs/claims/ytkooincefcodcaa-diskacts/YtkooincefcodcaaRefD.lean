import Derived.Test.YtkooincefcodcaaUp2
set_option linter.unusedVariables false
set_option linter.unusedSimpArgs false
set_option maxRecDepth 100000
set_option maxHeartbeats 1600000
namespace Go.Xr.Try
open Go Go.Xr
/-! the reference's disk -/
theorem back_loop (i : Int) (H : List (Int × List Int)) (hl : H.length ≤ 1000) : ∀ (ks : List (Int × List Int)) (k : Nat), H.drop k = ks → k + ks.length = H.length →
    (findE ks i = none ∧ ∃ e, pIter (s_q45_0 H i) ((k : Int), ()) = some (.inr e)) ∨ ∃ (j : Nat) (v : List Int), H[j]? = some (i, v) ∧ findE ks i = some v ∧ pIter (s_q45_0 H i) ((k : Int), ()) = some (.inl ((j : Int), ()))
  | [], k, hd, hk => by
    left
    refine ⟨rfl, ((k : Int), ()), pIter_inr ?_⟩
    unfold s_q45_0
    have e1 : pLt (k : Int) (pLen H) = false := by simp at hk; simp [pLt, pLen]; omega
    simp only [e1, Bool.false_eq_true, if_false]
  | p :: ks, k, hd, hk => by
    simp only [List.length_cons] at hk
    have e1 : pLt (k : Int) (pLen H) = true := by simp [pLt, pLen]; omega
    have e2 : pIn (k : Int) (pLen H) = true := by simp [pIn, pLen]; omega
    have hp : H[k]? = some p := by
      have := congrArg (·[0]?) hd
      simpa using this
    have e3 : pGet (0, []) H (k : Int) = p := by simp [pGet, List.getD_eq_getElem?_getD, hp]
    have e4 : pAdd .i64 (k : Int) 1 = ((k + 1 : Nat) : Int) := by rw [add64 (by omega) (by omega)]; omega
    by_cases hi : p.1 = i
    · right
      refine ⟨k, p.2, by rw [hp, ← hi], by simp [findE, hi], pIter_inr ?_⟩
      unfold s_q45_0
      have e5 : pEq p.1 i = true := by simp [pEq, hi]
      simp only [e1, e2, e3, e5, if_true]
    · have hst : s_q45_0 H i ((k : Int), ()) = some (.inl (((k + 1 : Nat) : Int), ())) := by
        unfold s_q45_0
        have e5 : pEq p.1 i = false := by simp [pEq, hi]
        simp only [e1, e2, e3, e4, e5, if_true, Bool.false_eq_true, if_false]
      have hf : findE (p :: ks) i = findE ks i := by simp [findE, hi]
      have hd' : H.drop (k + 1) = ks := by rw [← List.drop_drop, hd]; rfl
      rw [pIter_inl hst, hf]
      exact back_loop i H hl ks (k + 1) hd' (by omega)
theorem back_eq (i : Int) (H : List (Int × List Int)) (B : List (List Int)) (f m : Int) (dn : Bool) (N : Int) (hl : H.length ≤ 1000) :
    (findE H i = none ∧ m_q45 i H B f m dn N = some (-1, (H, (B, (f, (m, (dn, (N, ()))))))) ) ∨ ∃ (j : Nat) (v : List Int), H[j]? = some (i, v) ∧ findE H i = some v ∧ m_q45 i H B f m dn N = some ((j : Int), (H, (B, (f, (m, (dn, (N, ()))))))) := by
  have h := back_loop i H hl H 0 rfl (by simp)
  unfold m_q45
  rcases h with ⟨h1, e, h2⟩ | ⟨j, v, h1, h2, h3⟩
  · left
    have h2' : pIter (s_q45_0 H i) (0, ()) = some (.inr e) := h2
    rw [h2']
    exact ⟨h1, rfl⟩
  · right
    have h3' : pIter (s_q45_0 H i) (0, ()) = some (.inl ((j : Int), ())) := h3
    rw [h3']
    exact ⟨j, v, h1, h2, rfl⟩
theorem room32 (v : List Int) (h : v.length = 32) : pRoom (pIAdd 0 (pLen v)) = true := room_le (by simp only [pIAdd, pLen, h]; decide)
theorem rread_ok {i : Int} {H : List (Int × List Int)} {B : List (List Int)} {f m N : Int} (hl : H.length ≤ 1000) (h0 : 0 ≤ i) (h1 : i < (B.length : Int)) (hB : ∀ r ∈ B, r.length = 32) (hH : ∀ e ∈ H, e.2.length = 32) :
    m_q41 i H B f m false N = some (0, (H, (B, (f, (m, (false, (N, (rdv B H i, ())))))))) := by
  unfold m_q41
  have e1 : pLt i 0 = false := by simp [pLt]; exact h0
  have e2 : pLe (pLen B) i = false := by simp [pLe, pLen]; exact h1
  simp only [e1, e2, Bool.false_eq_true, if_false]
  rcases back_eq i H B f m false N hl with ⟨g1, g2⟩ | ⟨j, v, g1, g2, g3⟩
  · have e3 : pLe 0 (-1) = false := by decide
    have e4 : pIn i (pLen B) = true := by simp [pIn, pLen]; omega
    have hi : i.toNat < B.length := by omega
    have e5 : pRoom (pIAdd 0 (pLen (pGet [] B i))) = true := room32 _ (by simp [pGet, List.getD_eq_getElem?_getD, hi]; exact hB _ (List.getElem_mem hi))
    have e6 : pGet [] B i = rdv B H i := by simp [pGet, rdv, g1, List.getD_eq_getElem?_getD, hi]
    rw [g2]
    simp only [pBind, Option.bind_some, e3, e4, Bool.false_eq_true, if_false, if_true]
    rw [if_pos e5, e6]
    rfl
  · have hj : j < H.length := (List.getElem?_eq_some_iff.1 g1).1
    have e3 : pLe 0 (j : Int) = true := by simp [pLe]
    have e4 : pIn (j : Int) (pLen H) = true := by simp [pIn, pLen]; omega
    have e5 : pGet (0, []) H (j : Int) = (i, v) := by simp [pGet, List.getD_eq_getElem?_getD, g1]
    have e6 : pRoom (pIAdd 0 (pLen v)) = true := room32 _ (hH _ (List.mem_of_getElem? g1))
    rw [g3]
    simp only [pBind, Option.bind_some, e3, e4, e5, if_true]
    rw [if_pos e6]
    simp [rdv, g2, pApp]
theorem rread_down {i : Int} {H : List (Int × List Int)} {B : List (List Int)} {f m N : Int} : m_q41 i H B f m true N = some (7, (H, (B, (f, (m, (true, (N, ([], ())))))))) := by
  unfold m_q41
  simp only [if_true]
theorem rread_out {i : Int} {H : List (Int × List Int)} {B : List (List Int)} {f m N : Int} (h : i < 0 ∨ (B.length : Int) ≤ i) : m_q41 i H B f m false N = some (1, (H, (B, (f, (m, (false, (N, ([], ())))))))) := by
  unfold m_q41
  simp only [Bool.false_eq_true, if_false]
  by_cases h0 : i < 0
  · have e1 : pLt i 0 = true := by simp [pLt]; exact h0
    simp only [e1, if_true]
  · have e1 : pLt i 0 = false := by simp [pLt]; omega
    have e2 : pLe (pLen B) i = true := by simp [pLe, pLen]; omega
    simp only [e1, e2, if_true, Bool.false_eq_true, if_false]
theorem set_ok {n k : Int} {H : List (Int × List Int)} {B : List (List Int)} {f m N : Int} : m_q42 n k H B f m false N = if n < 0 ∨ 1048576 < n then some (1, (H, (B, (f, (m, (false, (N, ()))))))) else some (0, (H, (B, (n, (k, (false, (N, ()))))))) := by
  unfold m_q42
  simp only [Bool.false_eq_true, if_false]
  by_cases h0 : n < 0
  · have e1 : pLt n 0 = true := by simp [pLt]; exact h0
    rw [if_pos e1, if_pos (.inl h0)]
  · have e1 : ¬ pLt n 0 = true := by simp [pLt]; omega
    rw [if_neg e1]
    by_cases h1 : 1048576 < n
    · have e2 : pLt 1048576 n = true := by simp [pLt]; exact h1
      rw [if_pos e2, if_pos (.inr h1)]
    · have e2 : ¬ pLt 1048576 n = true := by simp [pLt]; omega
      rw [if_neg e2, if_neg (by omega)]
/-- flush: one after the other -/
def putAll : List (Int × List Int) → List (List Int) → List (List Int)
  | [], B => B
  | e :: r, B => putAll r (B.set e.1.toNat e.2)
theorem putAll_len : ∀ (es : List (Int × List Int)) (B : List (List Int)), (putAll es B).length = B.length
  | [], B => rfl
  | e :: r, B => by rw [putAll, putAll_len r]; simp
theorem rflush_loop (H : List (Int × List Int)) (hl : H.length ≤ 1000) : ∀ (ks : List (Int × List Int)) (k : Nat) (B : List (List Int)), H.drop k = ks → k + ks.length = H.length → (∀ e ∈ ks, 0 ≤ e.1 ∧ e.1 < (B.length : Int)) →
    ∃ x, pIter (s_q40_0 H) ((k : Int), (B, ())) = some (x, (putAll ks B, ()))
  | [], k, B, hd, hk, hr => by
    refine ⟨(k : Int), pIter_inr ?_⟩
    unfold s_q40_0
    have e1 : pLt (k : Int) (pLen H) = false := by simp at hk; simp [pLt, pLen]; omega
    simp only [e1, Bool.false_eq_true, if_false, putAll]
  | p :: ks, k, B, hd, hk, hr => by
    simp only [List.length_cons] at hk
    have e1 : pLt (k : Int) (pLen H) = true := by simp [pLt, pLen]; omega
    have e2 : pIn (k : Int) (pLen H) = true := by simp [pIn, pLen]; omega
    have hp : H[k]? = some p := by
      have := congrArg (·[0]?) hd
      simpa using this
    have e3 : pGet (0, []) H (k : Int) = p := by simp [pGet, List.getD_eq_getElem?_getD, hp]
    have e4 : pAdd .i64 (k : Int) 1 = ((k + 1 : Nat) : Int) := by rw [add64 (by omega) (by omega)]; omega
    have hpr := hr p (by simp)
    have e5 : pIn p.1 (pLen B) = true := by simp [pIn, pLen]; omega
    have hd' : H.drop (k + 1) = ks := by rw [← List.drop_drop, hd]; rfl
    have hst : s_q40_0 H ((k : Int), (B, ())) = some (.inl (((k + 1 : Nat) : Int), (B.set p.1.toNat p.2, ()))) := by
      unfold s_q40_0
      simp only [e1, e2, e3, e4, e5, if_true]
    obtain ⟨x, hx⟩ := rflush_loop H hl ks (k + 1) (B.set p.1.toNat p.2) hd' (by omega) (fun e he => by rw [List.length_set]; exact hr e (by simp [he]))
    exact ⟨x, by rw [pIter_inl hst, hx]; rfl⟩
theorem rflush_ok {H : List (Int × List Int)} {B : List (List Int)} {f m N : Int} (hl : H.length ≤ 1000) (hr : ∀ e ∈ H, 0 ≤ e.1 ∧ e.1 < (B.length : Int)) :
    m_q40 H B f m false N = some (0, ([], (putAll H B, (f, (m, (false, (N, ()))))))) := by
  unfold m_q40
  obtain ⟨x, hx⟩ := rflush_loop H hl H 0 B rfl (by simp) hr
  have hx' : pIter (s_q40_0 H) (0, (B, ())) = some (x, (putAll H B, ())) := hx
  simp only [Bool.false_eq_true, if_false]
  rw [hx']
  rfl
/-- the reference's Up -/
theorem rup_loop (H : List (Int × List Int)) (mask : Int) (hl : H.length ≤ 90) (hn : (H.map (·.1)).Nodup) : ∀ (ks : List (Int × List Int)) (k : Nat) (B : List (List Int)) (o : List Int), H.drop k = ks → k + ks.length = H.length → o.length ≤ k → (∀ e ∈ ks, 0 ≤ e.1 ∧ e.1 < (B.length : Int)) →
    ∃ x, pIter (s_q43_0 H mask) ((k : Int), (B, (o, ()))) = some (x, ((upF H mask k (ks.map (·.1)) B o).1, ((upF H mask k (ks.map (·.1)) B o).2, ())))
  | [], k, B, o, hd, hk, ho, hr => by
    refine ⟨(k : Int), pIter_inr ?_⟩
    unfold s_q43_0
    have e1 : pLt (k : Int) (pLen H) = false := by simp at hk; simp [pLt, pLen]; omega
    simp only [e1, Bool.false_eq_true, if_false, upF, List.map_nil]
  | p :: ks, k, B, o, hd, hk, ho, hr => by
    simp only [List.length_cons] at hk
    have e1 : pLt (k : Int) (pLen H) = true := by simp [pLt, pLen]; omega
    have e2 : pIn (k : Int) (pLen H) = true := by simp [pIn, pLen]; omega
    have hp : H[k]? = some p := by
      have := congrArg (·[0]?) hd
      simpa using this
    have e3 : pGet (0, []) H (k : Int) = p := by simp [pGet, List.getD_eq_getElem?_getD, hp]
    have e4 : pAdd .i64 (k : Int) 1 = ((k + 1 : Nat) : Int) := by rw [add64 (by omega) (by omega)]; omega
    have hpr := hr p (by simp)
    have e5 : pIn p.1 (pLen B) = true := by simp [pIn, pLen]; omega
    have e6 : pNot (pEq 32 0) = true := by decide
    have e7 : pLe 0 (pRem (k : Int) 32) = true := by
      have := Int.tmod_nonneg 32 (a := (k : Int)) (by omega)
      simp only [pLe, pRem, decide_eq_true_eq]
      exact this
    have e8 : pRoom (pIAdd (pLen o) (pLen [p.1])) = true := room_le (by simp only [pIAdd, pLen, List.length_cons, List.length_nil]; omega)
    have hg : pMGet eqI zero32 H p.1 = p.2 := by
      rw [get_find, (find_mem hn).2 (List.mem_of_getElem? hp)]
      rfl
    have hkeep : pEq (pAnd .i64 (pShr .i64 mask (pRem (k : Int) 32)) 1) 1 = keeps mask k := by
      have h : (BitVec.ofInt 64 (pShr .i64 mask (pRem (k : Int) 32)) &&& BitVec.ofInt 64 1).toNat = 0 ∨ (BitVec.ofInt 64 (pShr .i64 mask (pRem (k : Int) 32)) &&& BitVec.ofInt 64 1).toNat = 1 := by
        rw [BitVec.toNat_and, show (BitVec.ofInt 64 1).toNat = 1 from rfl, Nat.and_one_is_mod]
        omega
      unfold keeps
      have e : pAnd .i64 (pShr .i64 mask (pRem (k : Int) 32)) 1 = IntKind.i64.wrap ((BitVec.ofInt 64 (pShr .i64 mask (pRem (k : Int) 32)) &&& BitVec.ofInt 64 1).toNat : Int) := rfl
      rw [e]
      rcases h with h | h <;> rw [h] <;> decide
    have hd' : H.drop (k + 1) = ks := by rw [← List.drop_drop, hd]; rfl
    have hst : s_q43_0 H mask ((k : Int), (B, (o, ()))) = some (.inl (((k + 1 : Nat) : Int), ((if keeps mask k then B.set p.1.toNat p.2 else B), ((if keeps mask k then o ++ [p.1] else o), ())))) := by
      unfold s_q43_0
      simp only [hkeep, e3, e4]
      rw [if_pos e1, if_pos e6, if_pos e7]
      by_cases hb : keeps mask k = true
      · rw [if_pos hb, if_pos hb, if_pos hb, if_pos e2, if_pos e2, if_pos e5, if_pos e2, if_pos e8]
        rfl
      · rw [if_neg hb, if_neg hb, if_neg hb]
        rfl
    rw [pIter_inl hst]
    by_cases hb : keeps mask k = true
    · rw [if_pos hb, if_pos hb]
      obtain ⟨x, hx⟩ := rup_loop H mask hl hn ks (k + 1) (B.set p.1.toNat p.2) (o ++ [p.1]) hd' (by omega) (by simp; omega) (fun e he => by rw [List.length_set]; exact hr e (by simp [he]))
      refine ⟨x, ?_⟩
      rw [hx]
      simp only [List.map_cons, upF, if_pos hb, hg]
    · rw [if_neg hb, if_neg hb]
      obtain ⟨x, hx⟩ := rup_loop H mask hl hn ks (k + 1) B o hd' (by omega) (by omega) (fun e he => hr e (by simp [he]))
      refine ⟨x, ?_⟩
      rw [hx]
      simp only [List.map_cons, upF, if_neg hb]
theorem rup_ok {H : List (Int × List Int)} {B : List (List Int)} {f m N : Int} (hl : H.length ≤ 90) (hn : (H.map (·.1)).Nodup) (hr : ∀ e ∈ H, 0 ≤ e.1 ∧ e.1 < (B.length : Int)) :
    m_q43 H B f m true N = some ([], ((upF H m 0 (H.map (·.1)) B []).1, (-1, (m, (false, (N, ((upF H m 0 (H.map (·.1)) B []).2, ()))))))) := by
  unfold m_q43
  obtain ⟨x, hx⟩ := rup_loop H m hl hn H 0 B [] rfl (by simp) (by simp) hr
  have hx' : pIter (s_q43_0 H m) (0, (B, ([], ()))) = _ := hx
  have e : pNot true = false := rfl
  simp only [e, Bool.false_eq_true, if_false]
  rw [hx']
  rfl
theorem rup_up {H : List (Int × List Int)} {B : List (List Int)} {f m N : Int} : m_q43 H B f m false N = some (H, (B, (f, (m, (false, (N, ([], ()))))))) := by
  unfold m_q43
  have e : pNot false = true := rfl
  simp only [e, if_true]
end Go.Xr.Try
