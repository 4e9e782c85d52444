import Derived.Test.YtjidecalfabkbaaDsort
set_option linter.unusedVariables false
set_option linter.unusedSimpArgs false
set_option maxRecDepth 100000
namespace Go.Xr.Try
open Go Go.Xr

/-! directories of two entries -/
def secV (n : Int) : Int := if n < 1 then 0 else (n - 1) / 32 + 1
theorem sec_eq {n : Int} (h : n ≤ 4096) : m_q20 n = some (secV n, ()) := by
  unfold m_q20 secV
  by_cases h1 : n < 1
  · simp [pLt, h1]
  · have e : pNot (pEq 32 0) = true := by decide
    have e1 : pSub .i64 n 1 = n - 1 := sub64 (by omega) (by omega)
    have e2 : pQuo .i64 (n - 1) 32 = (n - 1) / 32 := by
      obtain ⟨k, hk⟩ : ∃ k : Nat, n - 1 = (k : Int) := ⟨(n - 1).toNat, by omega⟩
      rw [hk, show (32 : Int) = ((32 : Nat) : Int) from rfl, quo64 (by omega)]
      rfl
    have e3 : pAdd .i64 ((n - 1) / 32) 1 = (n - 1) / 32 + 1 := add64 (by omega) (by omega)
    simp only [pLt, h1, decide_false, Bool.false_eq_true, if_false, e, if_true, e1, e2, e3]
theorem refSec_eq {n : Int} (h : n ≤ 4096) : m_q72 n = some (secV n, ()) := sec_eq h
def endV (a : EN) : Int := a.2.1 + secV a.2.2.1
theorem secV_le {n : Int} (h : n ≤ 4096) : 0 ≤ secV n ∧ secV n ≤ 128 := by
  unfold secV
  split <;> omega
theorem secV_pos {n : Int} (h : 1 ≤ n) : 1 ≤ secV n := by
  unfold secV
  split <;> omega
theorem end_eq {a : EN} (h : a.2.2.1 ≤ 4096) (h0 : -(2 ^ 62) ≤ a.2.1) (h1 : a.2.1 < 2 ^ 62) : m_q22 a = some (endV a, ()) := by
  unfold m_q22 endV
  have := secV_le h
  rw [sec_eq h]
  simp only [pBind, Option.bind_some]
  rw [add64 (by omega) (by omega)]
/-- an entry that may be -/
def okE (d : Int) (a : EN) : Bool := okP d a.1 && decide (2 ≤ a.2.1) && decide (a.2.1 < 2048) && decide (1 ≤ a.2.2.1) && decide (a.2.2.1 ≤ 4096) && decide (endV a ≤ 2048)
theorem okE_iff {d : Int} {a : EN} : okE d a = true ↔ okP d a.1 = true ∧ 2 ≤ a.2.1 ∧ a.2.1 < 2048 ∧ 1 ≤ a.2.2.1 ∧ a.2.2.1 ≤ 4096 ∧ endV a ≤ 2048 := by
  simp only [okE, Bool.and_eq_true, decide_eq_true_eq]
  constructor
  · rintro ⟨⟨⟨⟨⟨h, a⟩, b⟩, c⟩, e⟩, f⟩; exact ⟨h, a, b, c, e, f⟩
  · rintro ⟨h, a, b, c, e, f⟩; exact ⟨⟨⟨⟨⟨h, a⟩, b⟩, c⟩, e⟩, f⟩
theorem may_eq (d : Int) (a : EN) : m_q23 d a = some (okE d a, ()) := by
  unfold m_q23
  rw [valid_eq]
  simp only [pBind, Option.bind_some]
  unfold okE
  cases okP d a.1 with
  | false => simp
  | true =>
    by_cases h1 : 2 ≤ a.2.1
    · by_cases h2 : a.2.1 < 2048
      · by_cases h3 : 1 ≤ a.2.2.1
        · by_cases h4 : a.2.2.1 ≤ 4096
          · rw [end_eq h4 (by omega) (by omega)]
            simp [pLe, pLt, h1, h2, h3, h4]
          · simp [pLe, pLt, h1, h2, h3, h4]
        · simp [pLe, pLt, h1, h2, h3]
      · simp [pLe, pLt, h1, h2]
    · simp [pLe, pLt, h1]
theorem bad_eq (d : Int) (a : EN) : m_q17 a d = some (!okE d a, ()) := by
  unfold m_q17
  rw [may_eq]
  rfl
theorem get_nat {α : Type} (z : α) (l : List α) (i : Nat) : pGet z l (i : Int) = l.getD i z := by simp [pGet]
theorem in_nat {α : Type} {l : List α} {i : Nat} (h : i < l.length) : pIn (i : Int) (pLen l) = true := by simp only [pIn, pLen]; exact decide_eq_true ⟨by omega, by omega⟩
theorem lt_nat {α : Type} {l : List α} {i : Nat} (h : i < l.length) : pLt (i : Int) (pLen l) = true := by simp only [pLt, pLen]; exact decide_eq_true (by omega)
theorem add_one {i : Nat} (h : i < 2 ^ 62) : pAdd .i64 (i : Int) 1 = ((i + 1 : Nat) : Int) := by rw [add64 (by omega) (by omega)]; omega
/-- none of them is bad -/
theorem contains_none {d : Int} {l : List EN} (hl : l.length < 2 ^ 61) (h : ∀ i, i < l.length → okE d (l.getD i Z0) = true) : m_q35 l d = some (false, ()) := by
  have hp : pIter (s_q38_0 l d) (((0 : Nat) : Int), ()) = some (.inr ((l.length : Int), ())) := by
    refine pIter_count (F := fun i => ((i : Int), ())) (n := l.length) (fun i hi => ?_) ?_ l.length 0 (by omega)
    · unfold s_q38_0
      simp only [lt_nat hi, in_nat hi, if_true, get_nat, bad_eq, h i hi, pBind, Option.bind_some, Bool.not_true, Bool.false_eq_true, if_false, add_one (i := i) (by omega)]
    · unfold s_q38_0
      have e : pLt ((l.length : Nat) : Int) (pLen l) = false := by simp [pLt, pLen]
      simp only [e, Bool.false_eq_true, if_false]
  unfold m_q35 m_q38
  rw [show ((0 : Int), ()) = (((0 : Nat) : Int), ()) from rfl, hp]
  rfl
/-- one of them is bad -/
theorem contains_some {d : Int} {l : List EN} {j : Nat} (hl : l.length < 2 ^ 61) (hj : j < l.length) (h : ∀ i, i < j → okE d (l.getD i Z0) = true) (hb : okE d (l.getD j Z0) = false) : m_q35 l d = some (true, ()) := by
  have hp : pIter (s_q38_0 l d) (((0 : Nat) : Int), ()) = some (.inl ((j : Int), ())) := by
    refine pIter_count (F := fun i => ((i : Int), ())) (n := j) (fun i hi => ?_) ?_ j 0 (by omega)
    · unfold s_q38_0
      simp only [lt_nat (l := l) (i := i) (by omega), in_nat (l := l) (i := i) (by omega), if_true, get_nat, bad_eq, h i hi, pBind, Option.bind_some, Bool.not_true, Bool.false_eq_true, if_false, add_one (i := i) (by omega)]
    · unfold s_q38_0
      simp only [lt_nat hj, in_nat hj, if_true, get_nat, bad_eq, hb, pBind, Option.bind_some, Bool.not_false, if_true]
  unfold m_q35 m_q38
  rw [show ((0 : Int), ()) = (((0 : Nat) : Int), ()) from rfl, hp]
  simp only [pBind, Option.bind_some, pCase]
  have : pLe 0 (j : Int) = true := by simp [pLe]
  rw [this]
theorem clone_eq {l : List EN} (h : l.length ≤ 4096) : m_q33 l = some (l, ()) := by
  unfold m_q33
  have e : pRoom (pIAdd 0 (pLen l)) = true := by simp only [pRoom, pIAdd, pLen]; exact decide_eq_true (by omega)
  have e2 : pApp [] l = l := rfl
  simp only [e, if_true, e2]
  split
  · rename_i h0
    have : l = [] := by
      simp only [pEq, pLen, decide_eq_true_eq] at h0
      exact List.eq_nil_of_length_eq_zero (by omega)
    subst this
    exact pAmb_self _
  · rfl
theorem new_bad {d : Int} {l : List EN} {j : Nat} (hl : l.length < 2 ^ 61) (hj : j < l.length) (h : ∀ i, i < j → okE d (l.getD i Z0) = true) (hb : okE d (l.getD j Z0) = false) : m_q16 d l = some (.inl (1, ())) := by
  unfold m_q16
  rw [count_eq]
  simp only [pBind, Option.bind_some]
  generalize (if okD d = true then aheadV d (-1) else 0) = n
  cases hz : pEq n 0 with
  | true => simp only [hz, if_true]
  | false =>
    simp only [hz, Bool.false_eq_true, if_false]
    rw [contains_some hl hj h hb]
    rfl
/-- neither begins within the other -/
def apart (a b : EN) : Prop := endV a ≤ startF b ∨ endV b ≤ startF a
instance (a b : EN) : Decidable (apart a b) := by unfold apart; exact inferInstance
theorem perm_two {α : Type} {L : List α} {a b : α} (h : L.Perm [a, b]) : L = [a, b] ∨ L = [b, a] := by
  have hl := h.length_eq
  match L, hl with
  | [x, y], _ =>
    have h1 : x ∈ [a, b] := h.mem_iff.1 (by simp)
    have h3 := h
    simp only [List.mem_cons, List.not_mem_nil, or_false] at h1
    rcases h1 with rfl | rfl
    · have := List.perm_cons _ |>.1 h3
      rw [List.perm_singleton] at this
      left; rw [this]
    · have h4 : [x, y].Perm [x, a] := h3.trans (List.Perm.swap _ _ _)
      have := List.perm_cons _ |>.1 h4
      rw [List.perm_singleton] at this
      right; rw [this]
theorem first_two {x y : EN} (hx : m_q22 x = some (endV x, ())) : pIter (s_q16_0 ([x, y], ())) (0, ()) = if startF y < endV x then some (.inl (1, ())) else some (.inr (1, ())) := by
  have st : s_q16_0 ([x, y], ()) (0, ()) = if startF y < endV x then some (.inr (.inl (1, ()))) else some (.inl (1, ())) := by
    unfold s_q16_0
    have e1 : pLt 0 (pSub .i64 (pLen [x, y]) 1) = true := by show pLt 0 (pSub .i64 2 1) = true; decide
    have e2 : pIn 0 (pLen [x, y]) = true := by show pIn 0 2 = true; decide
    have e3 : pAdd .i64 0 1 = 1 := by decide
    have e4 : pIn 1 (pLen [x, y]) = true := by show pIn 1 2 = true; decide
    have g1 : pGet Z0 [x, y] 0 = x := rfl
    have g2 : pGet Z0 [x, y] 1 = y := rfl
    simp only [e1, e2, e3, e4, g1, g2, hx, if_true, pBind, Option.bind_some, pLt, decide_eq_true_eq]
    rfl
  have st2 : s_q16_0 ([x, y], ()) (1, ()) = some (.inr (.inr (1, ()))) := by
    unfold s_q16_0
    have e1 : pLt 1 (pSub .i64 (pLen [x, y]) 1) = false := by show pLt 1 (pSub .i64 2 1) = false; decide
    simp only [e1, Bool.false_eq_true, if_false]
  split
  · rename_i h
    rw [if_pos h] at st
    exact pIter_inr st
  · rename_i h
    rw [if_neg h] at st
    rw [pIter_inl st]
    exact pIter_inr st2
theorem second_two {x y : EN} : pIter (s_q17 ([x, y], ())) (0, ()) = if x.1 = y.1 then some (.inl (1, ())) else some (.inr (1, ())) := by
  have st : s_q17 ([x, y], ()) (0, ()) = if x.1 = y.1 then some (.inr (.inl (1, ()))) else some (.inl (1, ())) := by
    unfold s_q17
    have e1 : pLt 0 (pSub .i64 (pLen [x, y]) 1) = true := by show pLt 0 (pSub .i64 2 1) = true; decide
    have e2 : pIn 0 (pLen [x, y]) = true := by show pIn 0 2 = true; decide
    have e3 : pAdd .i64 0 1 = 1 := by decide
    have e4 : pIn 1 (pLen [x, y]) = true := by show pIn 1 2 = true; decide
    have g1 : pGet Z0 [x, y] 0 = x := rfl
    have g2 : pGet Z0 [x, y] 1 = y := rfl
    have e5 : pAndB (pEq x.1.1 y.1.1) (pAndB (pEq x.1.2.1 y.1.2.1) (pEq x.1.2.2 y.1.2.2)) = decide (x.1 = y.1) := by
      obtain ⟨⟨a, b, c⟩, _⟩ := x
      obtain ⟨⟨a', b', c'⟩, _⟩ := y
      simp only [pAndB, pEq, Prod.mk.injEq, Bool.decide_and]
    simp only [e1, e2, e3, e4, g1, g2, e5, if_true, decide_eq_true_eq]
  have st2 : s_q17 ([x, y], ()) (1, ()) = some (.inr (.inr (1, ()))) := by
    unfold s_q17
    have e1 : pLt 1 (pSub .i64 (pLen [x, y]) 1) = false := by show pLt 1 (pSub .i64 2 1) = false; decide
    simp only [e1, Bool.false_eq_true, if_false]
  split
  · rename_i h
    rw [if_pos h] at st
    exact pIter_inr st
  · rename_i h
    rw [if_neg h] at st
    rw [pIter_inl st]
    exact pIter_inr st2
/-- a new directory of two entries that may be -/
theorem new_two {d : Int} {a b : EN} (ha : okE d a = true) (hb : okE d b = true) : ∃ L, (L = [a, b] ∨ L = [b, a]) ∧ L.Pairwise (Ordd (byI (keyF d))) ∧ m_q16 d [a, b] = if apart a b ∧ a.1 ≠ b.1 then some (.inr (0, (L, (d, ())))) else some (.inl (1, ())) := by
  obtain ⟨pa, a1, a2, a3, a4, a5⟩ := okE_iff.1 ha
  obtain ⟨pb, b1, b2, b3, b4, b5⟩ := okE_iff.1 hb
  obtain ⟨⟨h0, h1⟩, _⟩ := okP_iff.1 pa
  have hd : okD d = true := okD_iff.2 ⟨h0, h1⟩
  obtain ⟨L1, hs1, hp1, ho1⟩ := sortA [a, b] (by simp)
  obtain ⟨L2, hs2, hp2, ho2⟩ := sortB d L1 (by rw [hp1.length_eq]; simp)
  have hc : m_q35 [a, b] d = some (false, ()) := contains_none (by simp) (fun i hi => by
    rcases (show i = 0 ∨ i = 1 by simp at hi; omega) with rfl | rfl
    · exact ha
    · exact hb)
  refine ⟨L2, perm_two (hp2.trans hp1), ho2, ?_⟩
  have hcp := count_pos h0 h1
  have hcz : pEq (aheadV d (-1)) 0 = false := decide_eq_false (by omega)
  unfold m_q16
  rw [count_eq, hd]
  simp only [if_true, pBind, Option.bind_some, hcz, Bool.false_eq_true, if_false, hc, clone_eq (l := [a, b]) (by simp), hs1]
  have ea := end_eq (a := a) a4 (by omega) (by omega)
  have eb := end_eq (a := b) b4 (by omega) (by omega)
  have sa := secV_pos a3
  have sb := secV_pos b3
  have key : ∀ x y : EN, (x = a ∧ y = b ∨ x = b ∧ y = a) → L1 = [x, y] → (pIter (s_q16_0 (L1, ())) (0, ()) = if startF y < endV x then some (.inl (1, ())) else some (.inr (1, ()))) ∧ (apart a b ↔ ¬ startF y < endV x) := by
    intro x y hxy e
    subst e
    have ho := List.pairwise_cons.1 ho1
    have hxy2 : ¬ startF y < startF x := by
      have := ho.1 y (by simp)
      simpa [Ordd, byI] using this
    refine ⟨?_, ?_⟩
    · rcases hxy with ⟨rfl, rfl⟩ | ⟨rfl, rfl⟩
      · exact first_two ea
      · exact first_two eb
    · unfold apart
      simp only [startF, endV] at *
      rcases hxy with ⟨rfl, rfl⟩ | ⟨rfl, rfl⟩
      · omega
      · omega
  have fin : ∀ x y : EN, (x = a ∧ y = b ∨ x = b ∧ y = a) → L1 = [x, y] → ((pIter (s_q16_0 (L1, ())) (0, ())).bind fun d286 => pCase d286 (fun d287 => some (.inl (d287.1, ()))) (fun d288 => (m_q41 L1 d).bind fun d289 => (pIter (s_q17 d289) (0, ())).bind fun d291 => pCase d291 (fun d292 => some (.inl (d292.1, ()))) (fun d293 => some (.inr (0, (d289.1, (d, ()))))) ) : Option ((Int × Unit) ⊕ (Int × ((List EN) × (Int × Unit))))) = if apart a b ∧ a.1 ≠ b.1 then some (.inr (0, (L2, (d, ())))) else some (.inl (1, ())) := by
    intro x y hxy e
    obtain ⟨k1, k2⟩ := key x y hxy e
    rw [k1]
    by_cases hlt : startF y < endV x
    · have hna : ¬ apart a b := fun h => k2.1 h hlt
      rw [if_pos hlt, if_neg (fun h => hna h.1)]
      rfl
    · have hap : apart a b := k2.2 hlt
      rw [if_neg hlt]
      simp only [Option.bind_some, pCase, hs2]
      rcases perm_two (hp2.trans hp1) with rfl | rfl
      · rw [second_two]
        by_cases he : a.1 = b.1
        · rw [if_pos he, if_neg (fun h => h.2 he)]; rfl
        · rw [if_neg he, if_pos ⟨hap, he⟩]; rfl
      · rw [second_two]
        by_cases he : a.1 = b.1
        · rw [if_pos he.symm, if_neg (fun h => h.2 he)]; rfl
        · rw [if_neg (fun h => he h.symm), if_pos ⟨hap, he⟩]; rfl
  rcases perm_two hp1 with e | e
  · exact fin a b (.inl ⟨rfl, rfl⟩) e
  · exact fin b a (.inr ⟨rfl, rfl⟩) e
end Go.Xr.Try
