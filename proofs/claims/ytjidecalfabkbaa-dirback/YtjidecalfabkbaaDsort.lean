import Derived.Test.YtjidecalfabkbaaPage
set_option linter.unusedVariables false
set_option linter.unusedSimpArgs false
set_option maxRecDepth 100000
namespace Go.Xr.Try
open Go Go.Xr

/-! the directory's two orders; short rows sorted -/
abbrev PG := Int × (Int × Int)
abbrev EN := (Int × (Int × Int)) × (Int × (Int × Int))
def cmpV (x y : Int) : Int := if x < y then -1 else if y < x then 1 else 0
theorem compare_eq (x y : Int) : m_q4 x y = some (cmpV x y, ()) := by
  unfold m_q4 m_q5 cmpV
  have e : ∀ v : Int, pNot (pEq v v) = false := fun v => by simp [pNot, pEq]
  simp only [e, pBind, Option.bind_some, Bool.false_eq_true, if_false, pLt, decide_eq_true_eq]
  split
  · rfl
  · split <;> rfl
theorem cmpV_lt (x y : Int) : pLt (cmpV x y) 0 = decide (x < y) := by
  unfold cmpV
  by_cases h : x < y
  · simp [h, pLt]
  · by_cases h2 : y < x <;> simp [h, h2, pLt]
/-- by an integer's order -/
def byI (f : EN → Int) (a b : EN) : Bool := decide (f a < f b)
theorem byI_weak (f : EN → Int) : Weak (byI f) where
  asym := fun a b h => by simp only [byI, decide_eq_true_eq, decide_eq_false_iff_not] at *; omega
  ntr := fun a b c h1 h2 => by simp only [byI, decide_eq_false_iff_not] at *; omega
def startF (a : EN) : Int := a.2.1
def keyF (d : Int) (a : EN) : Int := keyV d a.1
theorem new2_eq (a b : EN) : m_q18 a b = some (cmpV (startF a) (startF b), ()) := by
  unfold m_q18
  rw [compare_eq]
  rfl
theorem new3_eq (d : Int) (a b : EN) : m_q19 a b d = some (cmpV (keyF d a) (keyF d b), ()) := by
  unfold m_q19 m_q26
  rw [key_eq, key_eq]
  simp only [pBind, Option.bind_some, compare_eq]
  rfl
abbrev Z0 : EN := ((0, (0, 0)), (0, (0, 0)))
theorem ins_a (p0 p1 : Int) (l : List EN) : m_q48 p0 p1 l = gIns Z0 m_q18 p0 p1 l := rfl
theorem ins_b (p0 p1 : Int) (l : List EN) (d : Int) : m_q49 p0 p1 l d = gIns Z0 (fun a b => m_q19 a b d) p0 p1 l := rfl
theorem len64_small {n : Int} (h0 : 0 ≤ n) (h1 : n < 256) : ∃ k, m_q1 (pWrap .u64 n) = some (k, ()) := by
  have e : pWrap .u64 n = n := by
    simp only [pWrap, IntKind.wrap, IntKind.bits, IntKind.signed]
    simp
    omega
  rw [e]
  unfold m_q1 m_q2
  have e1 : pLe 4294967296 n = false := decide_eq_false (by omega)
  have e2 : pLe 65536 n = false := decide_eq_false (by omega)
  have e3 : pLe 256 n = false := decide_eq_false (by omega)
  have e4 : pWrap .u8 n = n := wrap8 h0 h1
  simp only [e1, e2, e3, e4, Bool.false_eq_true, if_false, pBind, Option.bind_some]
  split
  · exact ⟨_, rfl⟩
  · rename_i h
    refine (h ?_).elim
    refine decide_eq_true ⟨h0, ?_⟩
    show n < 256
    exact h1
theorem sortA (l : List EN) (hl : l.length ≤ 12) : ∃ L, m_q40 l = some (L, ()) ∧ L.Perm l ∧ L.Pairwise (Ordd (byI startF)) := by
  obtain ⟨L, h1, h2, h3⟩ := gIns_ok (z := Z0) (cmp := m_q18) (byI_weak startF) new2_eq (fun a b => cmpV_lt _ _) l (by omega)
  refine ⟨L, ?_, h2, h3⟩
  obtain ⟨k, hk⟩ := len64_small (n := pLen l) (by simp [pLen]) (by simp [pLen]; omega)
  unfold m_q40
  rw [hk]
  have h : pRec b_slices_pdqsortCmpFunc_api_Entry (0, (pLen l, (k, (l, ())))) = some (L, ()) := by
    refine pRec_const fun f => ?_
    unfold b_slices_pdqsortCmpFunc_api_Entry
    have e : pLe (pSub .i64 (pLen l) 0) 12 = true := by rw [sub64 (by simp [pLen]) (by simp [pLen]; omega)]; simp [pLe, pLen]; omega
    have : pIter (s_slices_pdqsortCmpFunc_api_Entry_0 f) (0, (pLen l, (k, (true, (true, (l, ())))))) = some (L, ()) := by
      refine pIter_inr ?_
      unfold s_slices_pdqsortCmpFunc_api_Entry_0
      simp only [e, if_true, ins_a, h1, pBind, Option.bind_some]
    simp only [this, pBind, Option.bind_some]
  simp only [pBind, Option.bind_some, h]
theorem sortB (d : Int) (l : List EN) (hl : l.length ≤ 12) : ∃ L, m_q41 l d = some (L, ()) ∧ L.Perm l ∧ L.Pairwise (Ordd (byI (keyF d))) := by
  obtain ⟨L, h1, h2, h3⟩ := gIns_ok (z := Z0) (cmp := fun a b => m_q19 a b d) (byI_weak (keyF d)) (new3_eq d) (fun a b => cmpV_lt _ _) l (by omega)
  refine ⟨L, ?_, h2, h3⟩
  obtain ⟨k, hk⟩ := len64_small (n := pLen l) (by simp [pLen]) (by simp [pLen]; omega)
  unfold m_q41
  rw [hk]
  have h : pRec b_slices_pdqsortCmpFunc_api_Entry_1 (0, (pLen l, (k, (l, (d, ()))))) = some (L, ()) := by
    refine pRec_const fun f => ?_
    unfold b_slices_pdqsortCmpFunc_api_Entry_1
    have e : pLe (pSub .i64 (pLen l) 0) 12 = true := by rw [sub64 (by simp [pLen]) (by simp [pLen]; omega)]; simp [pLe, pLen]; omega
    have : pIter (s_slices_pdqsortCmpFunc_api_Entry_1_0 (0, (pLen l, (k, (l, (d, ()))))) f) (0, (pLen l, (k, (true, (true, (l, ())))))) = some (L, ()) := by
      refine pIter_inr ?_
      unfold s_slices_pdqsortCmpFunc_api_Entry_1_0
      simp only [e, if_true, ins_b, h1, pBind, Option.bind_some]
    simp only [this, pBind, Option.bind_some]
  simp only [pBind, Option.bind_some, h]
end Go.Xr.Try
