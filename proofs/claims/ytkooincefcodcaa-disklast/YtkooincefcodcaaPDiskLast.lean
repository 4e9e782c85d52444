import Derived.Test.YtkooincefcodcaaAwake
import Derived.Test.YtkooincefcodcaaMDiskLast
set_option linter.unusedVariables false
set_option linter.unusedSimpArgs false
set_option maxRecDepth 100000
namespace Go.Xr.Try
open Go Go.Xr
/-- what a sector holds, by the number that was written last -/
def wantS (v : Int) : List Int := if pLt 0 v then sec v else zero32
theorem last_inner (n : Int) (i : Int) (l0 : List (List Int)) (h0 : List (Int × List Int)) (q1 q2 : Bool) (q3 q4 q5 : Int) (H0 : List Int) (k v : Int) (l : List (List Int)) (h : List (Int × List Int)) (left mask writes : Int)
    (h1 : 1 ≤ n) (h2 : n ≤ 40) (hl : (l.length : Int) = n) (hv : ((pSet H0 k (pAdd .i64 1 v)).length : Int) = n) (hr : ∀ j : Nat, (j : Int) < n → rdv l h (j : Int) = wantS ((pSet H0 k (pAdd .i64 1 v)).getD j 0)) :
    pIter (s_DiskLast_0 n (i, (l0, (h0, (q1, (q2, (q3, (q4, (q5, (H0, ()))))))))) (k, ()) (v, ())) (0, (l, (h, (false, (false, (left, (mask, (writes, ())))))))) = some (.inr (n, (l, (h, (false, (false, (left, (mask, (writes, ())))))))) ) := by
  obtain ⟨N, rfl⟩ := Int.eq_ofNat_of_zero_le (show 0 ≤ n by omega)
  refine pIter_count (F := fun j => ((j : Int), (l, (h, (false, (false, (left, (mask, (writes, ())))))))) ) (n := N) (fun j hj => ?_) ?_ N 0 (by omega)
  · unfold s_DiskLast_0
    have e1 : pLt (j : Int) (N : Int) = true := by simp [pLt]; exact hj
    have e2 : pIn (j : Int) (pLen (pSet H0 k (pAdd .i64 1 v))) = true := by simp only [pIn, pLen, hv]; simp <;> omega
    have e3 : pSize 32 32 = true := size_ok (by omega) (by omega)
    have e4 : pAdd .i64 (j : Int) 1 = ((j + 1 : Nat) : Int) := by rw [add64 (by omega) (by omega)]; omega
    have e5 : pGet 0 (pSet H0 k (pAdd .i64 1 v)) (j : Int) = (pSet H0 k (pAdd .i64 1 v)).getD j 0 := rfl
    have e6 := hr j (by omega)
    have b00 : pNot (pEq 0 0) = false := by decide
    have es : ∀ v : List Int, pNot (pEqS v v) = false := fun v => by simp [pEqS, pNot]
    have hrd := read_ok (i := (j : Int)) (l := l) (h := h) (fuse := false) (left := left) (mask := mask) (writes := writes) (by omega) (by omega)
    generalize pSet H0 k (pAdd .i64 1 v) = H at *
    simp only [e1, e2, e3, e4, e5, if_true, pBind, Option.bind_some, hrd]
    by_cases hc : pLt 0 (H.getD j 0) = true
    · rw [if_pos hc, sector_eq]
      have : rdv l h (j : Int) = sec (H.getD j 0) := by rw [e6, wantS, if_pos hc]
      simp only [Option.bind_some, pCase, b00, this, es, Bool.false_eq_true, if_false]
    · rw [if_neg hc]
      have : rdv l h (j : Int) = zero32 := by rw [e6, wantS, if_neg hc]
      have e7 : pRep 32 0 = zero32 := rfl
      simp only [Option.bind_some, pCase, b00, this, e7, es, Bool.false_eq_true, if_false]
  · unfold s_DiskLast_0
    have e1 : pLt (N : Int) (N : Int) = false := by simp [pLt]
    simp only [e1, Bool.false_eq_true, if_false]
theorem last_outer (n : Int) (a1 : List (List Int)) (a2 : List Bool) (h1 : 1 ≤ n) (h2 : n ≤ 40) (h3 : a1.length ≤ 40) :
    ∀ (m i : Nat) (l : List (List Int)) (h : List (Int × List Int)) (left : Int) (H : List Int), i + m = a1.length → (l.length : Int) = n → (H.length : Int) = n → (h.map (·.1)).Nodup → (∀ k ∈ h.map (·.1), 0 ≤ k ∧ k < n) →
      (∀ j : Nat, (j : Int) < n → rdv l h (j : Int) = wantS (H.getD j 0)) →
      ∃ l' h' left' H', pIter (s_DiskLast_1 a1 n a2) ((i : Int), (l, (h, (false, (false, (left, (0, ((i : Int), (H, ()))))))))) = some (.inr ((a1.length : Int), (l', (h', (false, (false, (left', (0, ((a1.length : Int), (H', ()))))))))))
  | 0, i, l, h, left, H, hi, hl, hH, hn, hk, hr => by
    have : i = a1.length := by omega
    subst this
    refine ⟨l, h, left, H, pIter_inr ?_⟩
    unfold s_DiskLast_1
    have e1 : pLt (a1.length : Int) (pLen a1) = false := by simp [pLt, pLen]
    simp only [e1, Bool.false_eq_true, if_false]
  | m + 1, i, l, h, left, H, hi, hl, hH, hn, hk, hr => by
    obtain ⟨k, hk1, hk2⟩ := round_ok (x := pGet 0 (pGet (pZero 2 0) a1 (i : Int)) 0) (n := n) (by omega) (by omega)
    obtain ⟨v, hv1, hv2⟩ := round_ok (x := pGet 0 (pGet (pZero 2 0) a1 (i : Int)) 1) (n := 200) (by omega) (by omega)
    have e1 : pLt (i : Int) (pLen a1) = true := by simp [pLt, pLen]; omega
    have e2 : pIn (i : Int) (pLen a1) = true := by simp [pIn, pLen]; omega
    have e3 : pIn (0 : Int) 2 = true := by decide
    have e4 : pIn (1 : Int) 2 = true := by decide
    have e5 : pIn (k : Int) (pLen H) = true := by simp only [pIn, pLen, hH]; simp <;> omega
    have e6 : pAdd .i64 (i : Int) 1 = ((i + 1 : Nat) : Int) := by rw [add64 (by omega) (by omega)]; omega
    have b00 : pNot (pEq 0 0) = false := by decide
    have hw := write_ok (i := (k : Int)) (b := sec (pAdd .i64 1 (v : Int))) (l := l) (h := h) (fuse := false) (left := left) (mask := 0) (writes := (i : Int)) (by omega) (by omega) (sec_len _) (.inl rfl)
    have hH' : ((pSet H (k : Int) (pAdd .i64 1 (v : Int))).length : Int) = n := by simp [pSet, hH]
    have hn' : ((pMPut eqI h (k : Int) (sec (pAdd .i64 1 (v : Int)))).map (·.1)).Nodup := put_nodup _ _ _ hn
    have hk' : ∀ x ∈ (pMPut eqI h (k : Int) (sec (pAdd .i64 1 (v : Int)))).map (·.1), 0 ≤ x ∧ x < n := by
      intro x hx
      rcases (put_keys _ _ _ _).1 hx with hx | hx
      · omega
      · exact hk x hx
    have hr' : ∀ j : Nat, (j : Int) < n → rdv l (pMPut eqI h (k : Int) (sec (pAdd .i64 1 (v : Int)))) (j : Int) = wantS ((pSet H (k : Int) (pAdd .i64 1 (v : Int))).getD j 0) := by
      intro j hj
      rw [rdv_put]
      by_cases hjk : (j : Int) = (k : Int)
      · rw [if_pos hjk]
        have hjk' : j = k := by omega
        subst hjk'
        have hb : (pSet H (j : Int) (pAdd .i64 1 (v : Int))).getD j 0 = pAdd .i64 1 (v : Int) := by
          have : j < H.length := by omega
          simp [pSet, List.getD_eq_getElem?_getD, this]
        rw [hb, wantS, if_pos]
        rw [add64 (by omega) (by omega)]
        simp [pLt]; omega
      · rw [if_neg hjk, hr j hj]
        have : j ≠ k := by omega
        congr 1
        simp [pSet, List.getD_eq_getElem?_getD, List.getElem?_set, Ne.symm this]
    have hfl := flush_ok (l := l) (h := pMPut eqI h (k : Int) (sec (pAdd .i64 1 (v : Int)))) (fuse := false) (left := pSub .i64 left 1) (mask := 0) (writes := ((i + 1 : Nat) : Int)) hn' (fun x hx => by have := hk' x hx; omega)
    rw [e6] at hw
    -- the turn's first half
    have hturn : ∀ (l2 : List (List Int)) (h2' : List (Int × List Int)), (l2.length : Int) = n → (h2'.map (·.1)).Nodup → (∀ k ∈ h2'.map (·.1), 0 ≤ k ∧ k < n) → (∀ j : Nat, (j : Int) < n → rdv l2 h2' (j : Int) = wantS ((pSet H (k : Int) (pAdd .i64 1 (v : Int))).getD j 0)) →
        s_DiskLast_1 a1 n a2 ((i : Int), (l, (h, (false, (false, (left, (0, ((i : Int), (H, ()))))))))) = some (.inl (((i + 1 : Nat) : Int), (l2, (h2', (false, (false, (pSub .i64 left 1, (0, (((i + 1 : Nat) : Int), (pSet H (k : Int) (pAdd .i64 1 (v : Int)), ()))))))))) ) →
        ∃ l' h' left' H', pIter (s_DiskLast_1 a1 n a2) ((i : Int), (l, (h, (false, (false, (left, (0, ((i : Int), (H, ()))))))))) = some (.inr ((a1.length : Int), (l', (h', (false, (false, (left', (0, ((a1.length : Int), (H', ())))))))))) := by
      intro l2 h2' q1 q2 q3 q4 hs
      obtain ⟨l', h', left', H', hh⟩ := last_outer n a1 a2 h1 h2 h3 m (i + 1) l2 h2' (pSub .i64 left 1) (pSet H (k : Int) (pAdd .i64 1 (v : Int))) (by omega) q1 hH' q2 q3 q4
      exact ⟨l', h', left', H', by rw [pIter_inl hs]; exact hh⟩
    by_cases hf : pLt (i : Int) (pLen a2) = true ∧ pGet false a2 (i : Int) = true
    · have e7 : pIn (i : Int) (pLen a2) = true := by
        have := hf.1
        simp only [pLt, pLen, decide_eq_true_eq] at this
        simp [pIn, pLen]; omega
      have hrf : ∀ j : Nat, (j : Int) < n → rdv (flushL l (pMPut eqI h (k : Int) (sec (pAdd .i64 1 (v : Int))))) [] (j : Int) = wantS ((pSet H (k : Int) (pAdd .i64 1 (v : Int))).getD j 0) := by
        intro j hj
        rw [rdv_flush (by omega) (by omega)]
        exact hr' j hj
      have hlf : ((flushL l (pMPut eqI h (k : Int) (sec (pAdd .i64 1 (v : Int))))).length : Int) = n := by rw [flushL_len]; exact hl
      refine hturn (flushL l (pMPut eqI h (k : Int) (sec (pAdd .i64 1 (v : Int))))) [] hlf (by simp) (by simp) hrf ?_
      have hin := last_inner n (i : Int) l h false false left 0 (i : Int) H (k : Int) (v : Int) _ [] (pSub .i64 left 1) 0 ((i + 1 : Nat) : Int) h1 h2 hlf hH' hrf
      unfold s_DiskLast_1
      simp only [e1, e2, e3, e4, e5, e6, hf.1, hf.2, e7, if_true, hk1, hv1, pBind, Option.bind_some, sector_eq, hw, hfl, b00, Bool.false_eq_true, if_false, pCase, hin]
    · refine hturn l (pMPut eqI h (k : Int) (sec (pAdd .i64 1 (v : Int)))) hl hn' hk' hr' ?_
      have hin := last_inner n (i : Int) l h false false left 0 (i : Int) H (k : Int) (v : Int) l (pMPut eqI h (k : Int) (sec (pAdd .i64 1 (v : Int)))) (pSub .i64 left 1) 0 ((i + 1 : Nat) : Int) h1 h2 hl hH' hr'
      unfold s_DiskLast_1
      by_cases hf1 : pLt (i : Int) (pLen a2) = true
      · have hf2 : pGet false a2 (i : Int) = false := by
          cases hg : pGet false a2 (i : Int) with
          | false => rfl
          | true => exact absurd ⟨hf1, hg⟩ hf
        have e7 : pIn (i : Int) (pLen a2) = true := by
          simp only [pLt, pLen, decide_eq_true_eq] at hf1
          simp [pIn, pLen]; omega
        simp only [e1, e2, e3, e4, e5, e6, hf1, hf2, e7, if_true, hk1, hv1, pBind, Option.bind_some, sector_eq, hw, b00, Bool.false_eq_true, if_false, pCase, hin]
      · have hf1 : pLt (i : Int) (pLen a2) = false := by simpa using hf1
        simp only [e1, e2, e3, e4, e5, e6, hf1, if_true, hk1, hv1, pBind, Option.bind_some, sector_eq, hw, b00, Bool.false_eq_true, if_false, pCase, hin]
theorem lawDiskLast (n : Int) (a1 : List (List Int)) (a2 : List Bool) : DiskLast_m n a1 a2 = some true := by
  unfold DiskLast_m
  rw [awake_ok]
  simp only [pBind, Option.bind_some]
  by_cases c1 : pLt n 1 = true
  · rw [if_pos c1]
  rw [if_neg c1]
  by_cases c2 : pLt 40 n = true
  · rw [if_pos c2]
  rw [if_neg c2]
  by_cases c3 : pLt 40 (pLen a1) = true
  · rw [if_pos c3]
  rw [if_neg c3]
  by_cases c4 : pLt 40 (pLen a2) = true
  · rw [if_pos c4]
  rw [if_neg c4]
  simp only [pLt, pLen, decide_eq_true_eq, Int.not_lt] at c1 c2 c3 c4
  rw [new_ok c1 (by omega)]
  have b00 : pNot (pEq 0 0) = false := by decide
  have e1 : pSize n n = true := size_ok (by omega) (by omega)
  simp only [Option.bind_some, pCase, b00, Bool.false_eq_true, if_false]
  rw [if_pos e1]
  obtain ⟨l', h', left', H', hh⟩ := last_outer n a1 a2 c1 c2 (by omega) a1.length 0 (List.replicate n.toNat zero32) [] 0 (pRep n 0) (by omega) (by simp; omega) (by simp [pRep]; omega) (by simp) (by simp) (fun j hj => by
    have hj' : j < n.toNat := by omega
    simp [rdv, findE, wantS, pRep, pLt, List.getD_eq_getElem?_getD, hj'])
  have hh' : pIter (s_DiskLast_1 a1 n a2) (0, (List.replicate n.toNat zero32, ([], (false, (false, (0, (0, (0, (pRep n 0, ()))))))))) = _ := hh
  rw [hh']
  simp only [Option.bind_some]
  have e2 : pEq (a1.length : Int) (pLen a1) = true := by simp [pEq, pLen]
  have e3 : pEq (pLen ([] : List Int)) 0 = true := rfl
  have e4 : m_disk_Disk_Writes l' h' false false left' 0 (a1.length : Int) = some ((a1.length : Int), (l', (h', (false, (false, (left', (0, ((a1.length : Int), ())))))))) := rfl
  rw [e4]
  simp only [Option.bind_some, e2, if_true, up_up, e3]
end Go.Xr.Try
