import Derived.Test.YtkooincefcodcaaAwake
import Derived.Test.YtkooincefcodcaaMDiskFlushed
set_option linter.unusedVariables false
set_option linter.unusedSimpArgs false
set_option maxRecDepth 100000
namespace Go.Xr.Try
open Go Go.Xr
theorem and_one (x : Int) : pAnd .i64 x 1 = 0 ∨ pAnd .i64 x 1 = 1 := by
  have h : (BitVec.ofInt 64 x &&& BitVec.ofInt 64 1).toNat = 0 ∨ (BitVec.ofInt 64 x &&& BitVec.ofInt 64 1).toNat = 1 := by
    rw [BitVec.toNat_and, show (BitVec.ofInt 64 1).toNat = 1 from rfl, Nat.and_one_is_mod]
    omega
  have e : pAnd .i64 x 1 = IntKind.i64.wrap ((BitVec.ofInt 64 x &&& BitVec.ofInt 64 1).toNat : Int) := rfl
  rcases h with h | h
  · left; rw [e, h]; decide
  · right; rw [e, h]; decide
theorem keeps_eq (mask : Int) (n : Nat) : pEq (pAnd .i64 (pShr .i64 mask (pRem (n : Int) 32)) 1) 1 = keeps mask n := by
  unfold keeps
  rcases and_one (pShr .i64 mask (pRem (n : Int) 32)) with h | h <;> rw [h] <;> decide
theorem ints_ok (a : List Int) (ha : a.length ≤ 1000) : m_wainscotalike_Ints a a = some (true, ()) := by
  have : pIter (s_wainscotalike_Ints_0 a a) (0, ()) = some (.inr ((a.length : Int), ())) := by
    refine pIter_count (F := fun j => ((j : Int), ())) (n := a.length) (fun j hj => ?_) ?_ a.length 0 (by omega)
    · unfold s_wainscotalike_Ints_0
      have e1 : pLt (j : Int) (pLen a) = true := by simp [pLt, pLen]; exact hj
      have e2 : pIn (j : Int) (pLen a) = true := by simp [pIn, pLen]; omega
      have e3 : pAdd .i64 (j : Int) 1 = ((j + 1 : Nat) : Int) := by rw [add64 (by omega) (by omega)]; omega
      have e4 : ∀ v : Int, pNot (pEq v v) = false := fun v => by simp [pNot, pEq]
      simp only [e1, e2, e3, e4, if_true, Bool.false_eq_true, if_false]
    · unfold s_wainscotalike_Ints_0
      have e1 : pLt (a.length : Int) (pLen a) = false := by simp [pLt, pLen]
      simp only [e1, Bool.false_eq_true, if_false]
  unfold m_wainscotalike_Ints
  have e : pNot (pEq (pLen a) (pLen a)) = false := by simp [pNot, pEq]
  simp only [e, Bool.false_eq_true, if_false, this, pBind, Option.bind_some, pCase]
/-- what a sector holds, by the number that was written last (none: zero) -/
def wantF (v : Int) : List Int := if pNot (pEq v 0) then sec v else zero32
theorem wantF_pos {v : Int} (h : v ≠ 0) : wantF v = sec v := by
  have : pNot (pEq v 0) = true := by simp [pNot, pEq, h]
  rw [wantF, if_pos this]
theorem ahead_loop (a0 : List Int) (h3 : a0.length ≤ 30) :
    ∀ (m i : Nat) (l : List (List Int)) (h : List (Int × List Int)) (left wr : Int) (H : List Int), i + m = a0.length → l.length = 8 → H.length = 8 → (h.map (·.1)).Nodup → (∀ k ∈ h.map (·.1), 0 ≤ k ∧ k < 8) →
      (∀ j : Nat, j < 8 → rdv l h (j : Int) = wantF (H.getD j 0)) →
      ∃ h' left' wr' H', pIter (s_DiskFlushed_0 a0) ((i : Int), (l, (h, (false, (false, (left, (0, (wr, (H, ()))))))))) = some (.inr ((a0.length : Int), (l, (h', (false, (false, (left', (0, (wr', (H', ())))))))))) ∧
        H'.length = 8 ∧ (h'.map (·.1)).Nodup ∧ (∀ k ∈ h'.map (·.1), 0 ≤ k ∧ k < 8) ∧ (∀ j : Nat, j < 8 → rdv l h' (j : Int) = wantF (H'.getD j 0))
  | 0, i, l, h, left, wr, H, hi, hl, hH, hn, hk, hr => by
    have : i = a0.length := by omega
    subst this
    refine ⟨h, left, wr, H, pIter_inr ?_, hH, hn, hk, hr⟩
    unfold s_DiskFlushed_0
    have e1 : pLt (a0.length : Int) (pLen a0) = false := by simp [pLt, pLen]
    simp only [e1, Bool.false_eq_true, if_false]
  | m + 1, i, l, h, left, wr, H, hi, hl, hH, hn, hk, hr => by
    obtain ⟨k, hk1, hk2⟩ := round_ok (x := pGet 0 a0 (i : Int)) (n := 8) (by omega) (by omega)
    have e1 : pLt (i : Int) (pLen a0) = true := by simp [pLt, pLen]; omega
    have e2 : pIn (i : Int) (pLen a0) = true := by simp [pIn, pLen]; omega
    have e5 : pIn (k : Int) 8 = true := by simp [pIn]; omega
    have e6 : pAdd .i64 (i : Int) 1 = ((i + 1 : Nat) : Int) := by rw [add64 (by omega) (by omega)]; omega
    have e7 : pAdd .i64 100 (i : Int) = 100 + (i : Int) := by rw [add64 (by omega) (by omega)]
    have b00 : pNot (pEq 0 0) = false := by decide
    have hw := write_ok (i := (k : Int)) (b := sec (100 + (i : Int))) (l := l) (h := h) (fuse := false) (left := left) (mask := 0) (writes := wr) (by omega) (by omega) (sec_len _) (.inl rfl)
    have hs : s_DiskFlushed_0 a0 ((i : Int), (l, (h, (false, (false, (left, (0, (wr, (H, ()))))))))) = some (.inl (((i + 1 : Nat) : Int), (l, (pMPut eqI h (k : Int) (sec (100 + (i : Int))), (false, (false, (pSub .i64 left 1, (0, (pAdd .i64 wr 1, (pSet H (k : Int) (100 + (i : Int)), ())))))))))) := by
      unfold s_DiskFlushed_0
      simp only [e1, e2, e5, e6, e7, if_true, hk1, pBind, Option.bind_some, sector_eq, hw, b00, Bool.false_eq_true, if_false]
    rw [pIter_inl hs]
    refine ahead_loop a0 h3 m (i + 1) l _ _ _ _ (by omega) hl (by simp [pSet, hH]) (put_nodup _ _ _ hn) ?_ ?_
    · intro x hx
      rcases (put_keys _ _ _ _).1 hx with hx | hx
      · omega
      · exact hk x hx
    · intro j hj
      rw [rdv_put]
      by_cases hjk : (j : Int) = (k : Int)
      · rw [if_pos hjk]
        have hjk' : j = k := by omega
        subst hjk'
        have hb : (pSet H (j : Int) (100 + (i : Int))).getD j 0 = 100 + (i : Int) := by
          have : j < H.length := by omega
          simp [pSet, List.getD_eq_getElem?_getD, this]
        rw [hb, wantF_pos (by omega)]
      · rw [if_neg hjk, hr j hj]
        have : j ≠ k := by omega
        congr 1
        simp [pSet, List.getD_eq_getElem?_getD, List.getElem?_set, Ne.symm this]
theorem behind_loop (a1 : List Int) (mask : Int) (h3 : a1.length ≤ 30) :
    ∀ (m i : Nat) (l : List (List Int)) (h : List (Int × List Int)) (wr : Int) (H : List Int) (B : List Bool), i + m = a1.length → l.length = 8 → H.length = 8 → B.length = 8 → (h.map (·.1)).Nodup → (∀ k ∈ h.map (·.1), 0 ≤ k ∧ k < 8) →
      (∀ j : Nat, j < 8 → findE h (j : Int) = if B.getD j false then some (sec (H.getD j 0)) else none) → (∀ j : Nat, j < 8 → B.getD j false = true → H.getD j 0 ≠ 0) →
      ∃ h' wr' H' B', pIter (s_DiskFlushed_1 a1) ((i : Int), (l, (h, (false, (true, ((m : Int), (mask, (wr, (H, (B, ())))))))))) = some (.inr ((a1.length : Int), (l, (h', (false, (true, (0, (mask, (wr', (H', (B', ()))))))))))) ∧
        H'.length = 8 ∧ B'.length = 8 ∧ (h'.map (·.1)).Nodup ∧ (∀ k ∈ h'.map (·.1), 0 ≤ k ∧ k < 8) ∧ (∀ j : Nat, j < 8 → findE h' (j : Int) = if B'.getD j false then some (sec (H'.getD j 0)) else none) ∧ (∀ j : Nat, j < 8 → B'.getD j false = true → H'.getD j 0 ≠ 0)
  | 0, i, l, h, wr, H, B, hi, hl, hH, hB, hn, hk, hr, hz => by
    have : i = a1.length := by omega
    subst this
    refine ⟨h, wr, H, B, pIter_inr ?_, hH, hB, hn, hk, hr, hz⟩
    unfold s_DiskFlushed_1
    have e1 : pLt (a1.length : Int) (pLen a1) = false := by simp [pLt, pLen]
    simp only [e1, Bool.false_eq_true, if_false]
    rfl
  | m + 1, i, l, h, wr, H, B, hi, hl, hH, hB, hn, hk, hr, hz => by
    obtain ⟨k, hk1, hk2⟩ := round_ok (x := pGet 0 a1 (i : Int)) (n := 8) (by omega) (by omega)
    have e1 : pLt (i : Int) (pLen a1) = true := by simp [pLt, pLen]; omega
    have e2 : pIn (i : Int) (pLen a1) = true := by simp [pIn, pLen]; omega
    have e5 : pIn (k : Int) 8 = true := by simp [pIn]; omega
    have e6 : pAdd .i64 (i : Int) 1 = ((i + 1 : Nat) : Int) := by rw [add64 (by omega) (by omega)]; omega
    have e7 : pAdd .i64 200 (i : Int) = 200 + (i : Int) := by rw [add64 (by omega) (by omega)]
    have e8 : pSub .i64 ((m + 1 : Nat) : Int) 1 = (m : Int) := by rw [sub64 (by omega) (by omega)]; omega
    have b00 : pNot (pEq 0 0) = false := by decide
    have hw := write_ok (i := (k : Int)) (b := sec (200 + (i : Int))) (l := l) (h := h) (fuse := true) (left := ((m + 1 : Nat) : Int)) (mask := mask) (writes := wr) (by omega) (by omega) (sec_len _) (.inr (by omega))
    rw [e8] at hw
    have hs : s_DiskFlushed_1 a1 ((i : Int), (l, (h, (false, (true, (((m + 1 : Nat) : Int), (mask, (wr, (H, (B, ())))))))))) = some (.inl (((i + 1 : Nat) : Int), (l, (pMPut eqI h (k : Int) (sec (200 + (i : Int))), (false, (true, ((m : Int), (mask, (pAdd .i64 wr 1, (pSet H (k : Int) (200 + (i : Int)), (pSet B (k : Int) true, ()))))))))))) := by
      unfold s_DiskFlushed_1
      simp only [e1, e2, e5, e6, e7, if_true, hk1, pBind, Option.bind_some, sector_eq, hw, b00, Bool.false_eq_true, if_false]
    rw [pIter_inl hs]
    refine behind_loop a1 mask h3 m (i + 1) l _ _ _ _ (by omega) hl (by simp [pSet, hH]) (by simp [pSet, hB]) (put_nodup _ _ _ hn) ?_ ?_ ?_
    · intro x hx
      rcases (put_keys _ _ _ _).1 hx with hx | hx
      · omega
      · exact hk x hx
    · intro j hj
      rw [find_put]
      by_cases hjk : (j : Int) = (k : Int)
      · rw [if_pos hjk]
        have hjk' : j = k := by omega
        subst hjk'
        have h1 : j < H.length := by omega
        have h2 : j < B.length := by omega
        simp [pSet, List.getD_eq_getElem?_getD, h1, h2]
      · rw [if_neg hjk, hr j hj]
        have : j ≠ k := by omega
        simp [pSet, List.getD_eq_getElem?_getD, List.getElem?_set, Ne.symm this]
    · intro j hj
      by_cases hjk : j = k
      · subst hjk
        have h1 : j < H.length := by omega
        simp [pSet, List.getD_eq_getElem?_getD, h1]
        omega
      · have := hz j hj
        simpa [pSet, List.getD_eq_getElem?_getD, List.getElem?_set, Ne.symm hjk] using this
/-- what the law says is kept -/
def upG (B : List Bool) (W : List Int) (mask : Int) : Nat → List Nat → List Int → List Int → Nat × List Int × List Int
  | n, [], old, o => (n, old, o)
  | n, k :: ks, old, o => if B.getD k false then (if keeps mask n then upG B W mask (n + 1) ks (old.set k (W.getD k 0)) (o ++ [(k : Int)]) else upG B W mask (n + 1) ks old o) else upG B W mask n ks old o
theorem kept_loop (l0 : List (List Int)) (h0 : List (Int × List Int)) (i0 : Int) (q1 q2 : Bool) (q3 q4 q5 : Int) (W : List Int) (B : List Bool) (mask : Int) :
    ∀ (j k n : Nat) (old o : List Int), k + j = 8 → n ≤ k → o.length ≤ k →
      pIter (s_DiskFlushed_2 (i0, (l0, (h0, (q1, (q2, (q3, (q4, (q5, (W, (B, ())))))))))) mask) ((n : Int), ((k : Int), (old, (o, ())))) = some (((upG B W mask n ((List.range 8).drop k) old o).1 : Int), (8, ((upG B W mask n ((List.range 8).drop k) old o).2.1, ((upG B W mask n ((List.range 8).drop k) old o).2.2, ()))))
  | 0, k, n, old, o, hk, hn, ho => by
    have : k = 8 := by omega
    subst this
    refine pIter_inr ?_
    unfold s_DiskFlushed_2
    have e1 : pLt ((8 : Nat) : Int) 8 = false := by decide
    simp only [e1, Bool.false_eq_true, if_false]
    rfl
  | j + 1, k, n, old, o, hk, hn, ho => by
    have hd : (List.range 8).drop k = k :: (List.range 8).drop (k + 1) := by
      rw [List.drop_eq_getElem_cons (by simp; omega)]
      simp
    have e1 : pLt (k : Int) 8 = true := by simp [pLt]; omega
    have e2 : pIn (k : Int) 8 = true := by simp [pIn]; omega
    have e3 : pNot (pEq 32 0) = true := by decide
    have e4 : pLe 0 (pRem (n : Int) 32) = true := by
      have := Int.tmod_nonneg 32 (a := (n : Int)) (by omega)
      simp only [pLe, pRem, decide_eq_true_eq]
      exact this
    have e5 : pRoom (pIAdd (pLen o) (pLen [(k : Int)])) = true := room_le (by simp only [pIAdd, pLen, List.length_cons, List.length_nil]; omega)
    have e6 : pAdd .i64 (k : Int) 1 = ((k + 1 : Nat) : Int) := by rw [add64 (by omega) (by omega)]; omega
    have e7 : pAdd .i64 (n : Int) 1 = ((n + 1 : Nat) : Int) := by rw [add64 (by omega) (by omega)]; omega
    have e8 : pGet false B (k : Int) = B.getD k false := rfl
    have hs : s_DiskFlushed_2 (i0, (l0, (h0, (q1, (q2, (q3, (q4, (q5, (W, (B, ())))))))))) mask ((n : Int), ((k : Int), (old, (o, ())))) = some (.inl (((if B.getD k false then n + 1 else n : Nat) : Int), (((k + 1 : Nat) : Int), ((if B.getD k false && keeps mask n then old.set k (W.getD k 0) else old), ((if B.getD k false && keeps mask n then o ++ [(k : Int)] else o), ()))))) := by
      unfold s_DiskFlushed_2
      simp only [e8, keeps_eq, e6, e7]
      rw [if_pos e1, if_pos e2]
      cases hB : B.getD k false with
      | false => simp only [Bool.false_eq_true, if_false, pBind, Option.bind_some, Bool.false_and]
      | true =>
        simp only [if_true, Bool.true_and]
        rw [if_pos e3, if_pos e4]
        cases hK : keeps mask n with
        | false => simp only [Bool.false_eq_true, if_false, pBind, Option.bind_some]
        | true =>
          simp only [if_true]
          rw [if_pos e5, if_pos e2, if_pos e2]
          rfl
    rw [pIter_inl hs, hd]
    cases hB : B.getD k false with
    | false =>
      simp only [Bool.false_and, Bool.false_eq_true, if_false, upG, hB]
      exact kept_loop l0 h0 i0 q1 q2 q3 q4 q5 W B mask j (k + 1) n old o (by omega) (by omega) (by omega)
    | true =>
      cases hK : keeps mask n with
      | false =>
        simp only [Bool.true_and, Bool.false_eq_true, if_false, if_true, upG, hB, hK]
        exact kept_loop l0 h0 i0 q1 q2 q3 q4 q5 W B mask j (k + 1) (n + 1) old o (by omega) (by omega) (by omega)
      | true =>
        simp only [Bool.true_and, if_true, upG, hB, hK]
        exact kept_loop l0 h0 i0 q1 q2 q3 q4 q5 W B mask j (k + 1) (n + 1) _ _ (by omega) (by omega) (by simp; omega)
/-- the disk and the law keep the same -/
theorem up_same (h : List (Int × List Int)) (B : List Bool) (W : List Int) (mask : Int) (hr : ∀ j : Nat, j < 8 → findE h (j : Int) = if B.getD j false then some (sec (W.getD j 0)) else none) (hz : ∀ j : Nat, j < 8 → B.getD j false = true → W.getD j 0 ≠ 0) :
    ∀ (ks : List Nat) (n : Nat) (l : List (List Int)) (old o : List Int), (∀ k ∈ ks, k < 8) → l.length = 8 → old.length = 8 → (∀ j, j < 8 → l.getD j zero32 = wantF (old.getD j 0)) →
      (upF h mask n ((ks.filter fun k => B.getD k false).map fun k : Nat => (k : Int)) l o).2 = (upG B W mask n ks old o).2.2 ∧ (upF h mask n ((ks.filter fun k => B.getD k false).map fun k : Nat => (k : Int)) l o).1.length = 8 ∧ (upG B W mask n ks old o).2.1.length = 8 ∧
        (∀ j, j < 8 → (upF h mask n ((ks.filter fun k => B.getD k false).map fun k : Nat => (k : Int)) l o).1.getD j zero32 = wantF ((upG B W mask n ks old o).2.1.getD j 0)) ∧ (upG B W mask n ks old o).2.2.length ≤ o.length + ks.length
  | [], n, l, old, o, hks, hl, ho, hq => ⟨rfl, hl, ho, hq, by simp [upG]⟩
  | k :: ks, n, l, old, o, hks, hl, ho, hq => by
    have hk := hks k (by simp)
    have hks' : ∀ k ∈ ks, k < 8 := fun k' hk' => hks k' (by simp [hk'])
    cases hB : B.getD k false with
    | false =>
      have := up_same h B W mask hr hz ks n l old o hks' hl ho hq
      simp only [List.filter_cons, hB, Bool.false_eq_true, if_false, upG]
      refine ⟨this.1, this.2.1, this.2.2.1, this.2.2.2.1, ?_⟩
      have := this.2.2.2.2
      simp only [List.length_cons]
      omega
    | true =>
      simp only [List.filter_cons, hB, if_true, upG, List.map_cons, upF]
      cases hK : keeps mask n with
      | false =>
        simp only [Bool.false_eq_true, if_false]
        have := up_same h B W mask hr hz ks (n + 1) l old o hks' hl ho hq
        refine ⟨this.1, this.2.1, this.2.2.1, this.2.2.2.1, ?_⟩
        have := this.2.2.2.2
        simp only [List.length_cons]
        omega
      | true =>
        simp only [if_true]
        have hg : pMGet eqI zero32 h (k : Int) = sec (W.getD k 0) := by
          rw [get_find, hr k hk, hB]
          rfl
        rw [hg]
        have := up_same h B W mask hr hz ks (n + 1) (l.set (k : Int).toNat (sec (W.getD k 0))) (old.set k (W.getD k 0)) (o ++ [(k : Int)]) hks' (by simp [hl]) (by simp [ho]) (fun j hj => by
          by_cases hjk : j = k
          · subst hjk
            have h1 : j < l.length := by omega
            have h2 : j < old.length := by omega
            have h3 := wantF_pos (hz j hj hB)
            simp only [List.getD_eq_getElem?_getD] at h3
            simp [List.getD_eq_getElem?_getD, h1, h2, h3]
          · have := hq j hj
            simp only [List.getD_eq_getElem?_getD] at this
            simp [List.getD_eq_getElem?_getD, List.getElem?_set, Ne.symm hjk, this])
        refine ⟨this.1, this.2.1, this.2.2.1, this.2.2.2.1, ?_⟩
        have := this.2.2.2.2
        simp only [List.length_cons, List.length_append, List.length_nil] at this ⊢
        omega
theorem read_loop (n0 k0 : Int) (old o : List Int) (l : List (List Int)) (left mask wr : Int) (hl : l.length = 8) (hq : ∀ j, j < 8 → l.getD j zero32 = wantF (old.getD j 0)) :
    pIter (s_DiskFlushed_3 (n0, (k0, (old, (o, ()))))) (0, (l, ([], (false, (false, (left, (mask, (wr, ())))))))) = some (.inr (8, (l, ([], (false, (false, (left, (mask, (wr, ()))))))))) := by
  refine pIter_count (F := fun j => ((j : Int), (l, ([], (false, (false, (left, (mask, (wr, ())))))))) ) (n := 8) (fun j hj => ?_) ?_ 8 0 (by omega)
  · unfold s_DiskFlushed_3
    have e1 : pLt (j : Int) 8 = true := by simp [pLt]; omega
    have e2 : pIn (j : Int) 8 = true := by simp [pIn]; omega
    have e3 : pSize 32 32 = true := size_ok (by omega) (by omega)
    have e4 : pAdd .i64 (j : Int) 1 = ((j + 1 : Nat) : Int) := by rw [add64 (by omega) (by omega)]; omega
    have e5 : pGet 0 old (j : Int) = old.getD j 0 := rfl
    have hrd := read_ok (i := (j : Int)) (l := l) (h := []) (fuse := false) (left := left) (mask := mask) (writes := wr) (by omega) (by omega)
    have e6 : rdv l [] (j : Int) = wantF (old.getD j 0) := hq j hj
    have b00 : pNot (pEq 0 0) = false := by decide
    have es : ∀ v : List Int, pNot (pEqS v v) = false := fun v => by simp [pEqS, pNot]
    simp only [e1, e2, e3, e4, e5, if_true, pBind, Option.bind_some, hrd, sector_eq]
    by_cases hc : pNot (pEq (old.getD j 0) 0) = true
    · rw [if_pos hc]
      have : rdv l [] (j : Int) = sec (old.getD j 0) := by rw [e6, wantF, if_pos hc]
      simp only [Option.bind_some, pCase, b00, this, es, Bool.false_eq_true, if_false]
    · rw [if_neg hc]
      have : rdv l [] (j : Int) = zero32 := by rw [e6, wantF, if_neg hc]
      have e7 : pRep 32 0 = zero32 := rfl
      simp only [Option.bind_some, pCase, b00, this, e7, es, Bool.false_eq_true, if_false]
  · unfold s_DiskFlushed_3
    have e1 : pLt ((8 : Nat) : Int) 8 = false := by decide
    simp only [e1, Bool.false_eq_true, if_false]
    rfl
theorem held_keys (h : List (Int × List Int)) (B : List Bool) (W : List Int) (hn : (h.map (·.1)).Nodup) (hk : ∀ k ∈ h.map (·.1), 0 ≤ k ∧ k < 8) (hr : ∀ j : Nat, j < 8 → findE h (j : Int) = if B.getD j false then some (sec (W.getD j 0)) else none) :
    (((List.range 8).filter fun k => B.getD k false).map fun k : Nat => (k : Int)).Perm (h.map (·.1)) := by
  refine (List.perm_ext_iff_of_nodup ?_ hn).2 fun a => ?_
  · refine List.Pairwise.map (R := fun a b : Nat => a ≠ b) _ (fun a b hab => by omega) ?_
    exact List.Pairwise.filter _ List.nodup_range
  · simp only [List.mem_map, List.mem_filter, List.mem_range]
    constructor
    · rintro ⟨k, ⟨hk8, hB⟩, rfl⟩
      have h1 := hr k hk8
      rw [hB, if_pos rfl] at h1
      have := (find_mem hn).1 h1
      exact ⟨_, this, rfl⟩
    · rintro ⟨e, he, rfl⟩
      have hb := hk e.1 (List.mem_map_of_mem he)
      refine ⟨e.1.toNat, ⟨by omega, ?_⟩, by omega⟩
      have h1 := hr e.1.toNat (by omega)
      rw [show ((e.1.toNat : Nat) : Int) = e.1 by omega] at h1
      have h2 : findE h e.1 = some e.2 := (find_mem hn).2 he
      rw [h2] at h1
      cases hB : B.getD e.1.toNat false with
      | true => rfl
      | false => rw [hB, if_neg (by simp)] at h1; cases h1
theorem lawDiskFlushed (a0 a1 : List Int) (a2 : Int) : DiskFlushed_m a0 a1 a2 = some true := by
  unfold DiskFlushed_m
  rw [awake_ok]
  simp only [pBind, Option.bind_some]
  by_cases c3 : pLt 30 (pLen a0) = true
  · rw [if_pos c3]
  rw [if_neg c3]
  by_cases c4 : pLt 30 (pLen a1) = true
  · rw [if_pos c4]
  rw [if_neg c4]
  simp only [pLt, pLen, decide_eq_true_eq, Int.not_lt] at c3 c4
  rw [new_ok (n := 8) (by omega) (by omega)]
  have b00 : pNot (pEq 0 0) = false := by decide
  have b77 : pNot (pEq 7 7) = false := by decide
  have b0 : pEq 0 0 = true := by decide
  have bt : pNot true = false := rfl
  simp only [Option.bind_some, pCase, b00, Bool.false_eq_true, if_false]
  obtain ⟨h', left', wr', H', hh, q1, q2, q3, q4⟩ := ahead_loop a0 (by omega) a0.length 0 (List.replicate (8 : Int).toNat zero32) [] 0 0 (pZero 8 0) (by omega) (by simp) (by simp [pZero]) (by simp) (by simp) (fun j hj => by
    rcases (show j = 0 ∨ j = 1 ∨ j = 2 ∨ j = 3 ∨ j = 4 ∨ j = 5 ∨ j = 6 ∨ j = 7 by omega) with rfl | rfl | rfl | rfl | rfl | rfl | rfl | rfl <;> rfl)
  have hh' : pIter (s_DiskFlushed_0 a0) (0, (List.replicate (8 : Int).toNat zero32, ([], (false, (false, (0, (0, (0, (pZero 8 0, ()))))))))) = _ := hh
  rw [hh']
  simp only [Option.bind_some]
  have hf := flush_ok (l := List.replicate (8 : Int).toNat zero32) (h := h') (fuse := false) (left := left') (mask := 0) (writes := wr') q2 (by simpa using q3)
  have hlen : (flushL (List.replicate (8 : Int).toNat zero32) h').length = 8 := by rw [flushL_len]; simp
  have hq : ∀ j, j < 8 → (flushL (List.replicate (8 : Int).toNat zero32) h').getD j zero32 = wantF (H'.getD j 0) := by
    intro j hj
    have := rdv_flush (l := List.replicate (8 : Int).toNat zero32) (h := h') (i := (j : Int)) (by omega) (by simp; omega)
    rw [q4 j hj] at this
    rw [← this]
    rfl
  generalize flushL (List.replicate (8 : Int).toNat zero32) h' = l1 at hf hlen hq
  have hfu := fuse_ok (a := (a1.length : Int)) (b := a2) (l := l1) (h := []) (fuse := false) (left := left') (mask := 0) (writes := wr') (by omega) (by omega)
  obtain ⟨h2, wr2, W, B, hb, p1, p2, p3, p4, p5, p6⟩ := behind_loop a1 a2 (by omega) a1.length 0 l1 [] wr' (pZero 8 0) (pZero 8 false) (by omega) hlen (by simp [pZero]) (by simp [pZero]) (by simp) (by simp) (fun j hj => by
    rcases (show j = 0 ∨ j = 1 ∨ j = 2 ∨ j = 3 ∨ j = 4 ∨ j = 5 ∨ j = 6 ∨ j = 7 by omega) with rfl | rfl | rfl | rfl | rfl | rfl | rfl | rfl <;> rfl) (fun j hj hb => by
    rcases (show j = 0 ∨ j = 1 ∨ j = 2 ∨ j = 3 ∨ j = 4 ∨ j = 5 ∨ j = 6 ∨ j = 7 by omega) with rfl | rfl | rfl | rfl | rfl | rfl | rfl | rfl <;> cases hb)
  have hb' : pIter (s_DiskFlushed_1 a1) (0, (l1, ([], (false, (true, ((a1.length : Int), (a2, (wr', (pZero 8 0, (pZero 8 false, ())))))))))) = _ := hb
  have hw3 := write_blown (i := 0) (b := sec 1) (l := l1) (h := h2) (mask := a2) (writes := wr2) (by omega) (by omega) (sec_len 1)
  have hkp := kept_loop l1 h2 (a1.length : Int) false true 0 a2 wr2 W B a2 8 0 0 H' [] (by omega) (by omega) (by simp)
  have hperm := held_keys h2 B W p3 p4 p5
  have hl12 : h2.length ≤ 12 := by
    have h1 := hperm.length_eq
    simp only [List.length_map] at h1
    have h2' : ((List.range 8).filter fun k => B.getD k false).length ≤ 8 := by
      have := List.length_filter_le (fun k => B.getD k false) (List.range 8)
      simpa using this
    omega
  obtain ⟨L, u1, u2, u3⟩ := up_ok (l := l1) (h := h2) (fuse := true) (left := 0) (mask := a2) (writes := wr2) hl12 (fun k hk => by have := p4 k hk; omega)
  have hL : L = ((List.range 8).filter fun k => B.getD k false).map fun k : Nat => (k : Int) := by
    refine sorted_one (u1.trans hperm.symm) u2 ?_
    refine List.Pairwise.map (R := fun a b : Nat => a < b) _ (fun a b hab => by omega) ?_
    exact List.Pairwise.filter _ List.pairwise_lt_range
  subst hL
  obtain ⟨s1, s2, s3, s4, s5⟩ := up_same h2 B W a2 p5 p6 (List.range 8) 0 l1 H' [] (fun k hk => by simpa using hk) hlen q1 hq
  rw [s1] at u3
  generalize (upF h2 a2 0 (((List.range 8).filter fun k => B.getD k false).map fun k : Nat => (k : Int)) l1 []).1 = l2 at *
  simp only [List.drop_zero] at hkp
  generalize upG B W a2 0 (List.range 8) H' [] = G at *
  obtain ⟨g1, g2, g3⟩ := G
  simp only at hkp s1 s3 s4 s5 u3
  have hin := ints_ok g3 (by simp at s5; omega)
  have hrl := read_loop (g1 : Int) 8 g2 g3 l2 0 a2 wr2 s2 s4
  have hw4 := write_ok (i := 0) (b := sec 1) (l := l2) (h := []) (fuse := false) (left := 0) (mask := a2) (writes := wr2) (by omega) (by omega) (sec_len 1) (.inl rfl)
  have hdn : ∀ (l : List (List Int)) (h : List (Int × List Int)) (d f : Bool) (x y z : Int), m_disk_Disk_Down l h d f x y z = some (d, (l, (h, (d, (f, (x, (y, (z, ())))))))) := fun _ _ _ _ _ _ _ => rfl
  have hkp' : pIter (s_DiskFlushed_2 ((a1.length : Int), (l1, (h2, (false, (true, (0, (a2, (wr2, (W, (B, ())))))))))) a2) (0, (0, (H', ([], ())))) = _ := hkp
  simp only [hf, Option.bind_some, b00, Bool.false_eq_true, if_false]
  rw [show pLen a1 = (a1.length : Int) from rfl, hfu]
  simp only [Option.bind_some, b00, Bool.false_eq_true, if_false]
  rw [hb']
  simp only [Option.bind_some, sector_eq, hw3, b77, Bool.false_eq_true, if_false, hdn, bt]
  rw [hkp']
  simp only [Option.bind_some, u3, hin, bt, Bool.false_eq_true, if_false, hrl, hw4, b0, if_true]
end Go.Xr.Try
