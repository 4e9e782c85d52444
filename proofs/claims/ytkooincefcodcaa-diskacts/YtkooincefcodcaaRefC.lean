import Derived.Test.YtkooincefcodcaaRefR
set_option linter.unusedVariables false
set_option linter.unusedSimpArgs false
set_option maxRecDepth 100000
set_option maxHeartbeats 1600000
namespace Go.Xr.Try
open Go Go.Xr
def flip (b : List Int) (q r : Int) : List Int := pSet b q (pXor .u8 (pGet 0 b q) (pShl .u8 1 r))
theorem flip_len (b : List Int) (q r : Int) : (flip b q r).length = b.length := by simp [flip, pSet]
theorem corrupt_ok {i : Int} {bit q r : Nat} {l : List (List Int)} {h : List (Int × List Int)} {fuse : Bool} {left mask writes : Int} (h0 : 0 ≤ i) (h1 : i < (l.length : Int)) (hb : bit < 256) (hq : q = bit / 8) (hr : r = bit % 8) :
    m_q5 i (bit : Int) l h false fuse left mask writes = some (0, (pSet l i (flip (pGet zero32 l i) (q : Int) (r : Int)), ((if pMHas eqI h i then pMPut eqI h i (flip (pMGet eqI zero32 h i) (q : Int) (r : Int)) else h), (false, (fuse, (left, (mask, (writes, ())))))))) := by
  unfold m_q5
  rw [at_ok h0 h1]
  have e1 : pNot (pEq 0 0) = false := by decide
  have e2 : pLt (bit : Int) 0 = false := by simp [pLt]
  have e3 : pLe 256 (bit : Int) = false := by simp [pLe]; omega
  have e4 : pNot (pEq 8 0) = true := by decide
  have e5 : pRem (bit : Int) 8 = (r : Int) := by rw [show (8 : Int) = ((8 : Nat) : Int) from rfl, rem64, hr]
  have e6 : pQuo .i64 (bit : Int) 8 = (q : Int) := by rw [show (8 : Int) = ((8 : Nat) : Int) from rfl, quo64 (by omega), hq]
  have e7 : pLe 0 (r : Int) = true := by simp [pLe]
  have e8 : pIn i (pLen l) = true := by simp [pIn, pLen]; omega
  have e9 : pIn (q : Int) 32 = true := by simp [pIn]; omega
  rw [show (fun u v => pEq u v) = eqI from rfl]
  simp only [pBind, Option.bind_some, e1, e2, e3, e4, e5, e6, e7, e8, e9, Bool.false_eq_true, if_false, if_true]
  cases hm : pMHas eqI h i with
  | true => simp only [if_true, Option.bind_some]; rfl
  | false => simp only [Bool.false_eq_true, if_false, Option.bind_some]; rfl
theorem corrupt_bit {i bit : Int} {l : List (List Int)} {h : List (Int × List Int)} {fuse : Bool} {left mask writes : Int} (h0 : 0 ≤ i) (h1 : i < (l.length : Int)) (hb : bit < 0 ∨ 256 ≤ bit) :
    m_q5 i bit l h false fuse left mask writes = some (1, (l, (h, (false, (fuse, (left, (mask, (writes, ())))))))) := by
  unfold m_q5
  rw [at_ok h0 h1]
  have e1 : pNot (pEq 0 0) = false := by decide
  simp only [pBind, Option.bind_some, e1, Bool.false_eq_true, if_false]
  by_cases h2 : bit < 0
  · have e2 : pLt bit 0 = true := by simp [pLt]; exact h2
    simp only [e2, if_true]
  · have e2 : pLt bit 0 = false := by simp [pLt]; omega
    have e3 : pLe 256 bit = true := by simp [pLe]; omega
    simp only [e2, e3, if_true, Bool.false_eq_true, if_false]
theorem rcorrupt_ok {i : Int} {bit q r : Nat} {H : List (Int × List Int)} {B : List (List Int)} {f m N : Int} (hl : H.length ≤ 80) (h0 : 0 ≤ i) (h1 : i < (B.length : Int)) (hb : bit < 256) (hq : q = bit / 8) (hr : r = bit % 8) (hB : ∀ r ∈ B, r.length = 32) (hH : ∀ e ∈ H, e.2.length = 32) :
    (findE H i = none ∧ m_q39 i (bit : Int) H B f m false N = some (0, (H, (pSet B i (flip (pGet zero32 B i) (q : Int) (r : Int)), (f, (m, (false, (N, ())))))))) ∨
    ∃ (j : Nat) (v : List Int), H[j]? = some (i, v) ∧ findE H i = some v ∧ m_q39 i (bit : Int) H B f m false N = some (0, (H.set j (i, flip v (q : Int) (r : Int)), (pSet B i (flip (pGet zero32 B i) (q : Int) (r : Int)), (f, (m, (false, (N, ()))))))) := by
  have hi : i.toNat < B.length := by omega
  have eg : pGet [] B i = pGet zero32 B i := by simp [pGet, List.getD_eq_getElem?_getD, hi]
  have hg32 : (pGet zero32 B i).length = 32 := by simp [pGet, List.getD_eq_getElem?_getD, hi]; exact hB _ (List.getElem_mem hi)
  have e1 : pLt i 0 = false := by simp [pLt]; exact h0
  have e2 : pLe (pLen B) i = false := by simp [pLe, pLen]; exact h1
  have e3 : pLt (bit : Int) 0 = false := by simp [pLt]
  have e4 : pLt 255 (bit : Int) = false := by simp [pLt]; omega
  have e5 : pIn i (pLen B) = true := by simp [pIn, pLen]; omega
  have e8 : pNot (pEq 8 0) = true := by decide
  have er : pRem (bit : Int) 8 = (r : Int) := by rw [show (8 : Int) = ((8 : Nat) : Int) from rfl, rem64, hr]
  have eq : pQuo .i64 (bit : Int) 8 = (q : Int) := by rw [show (8 : Int) = ((8 : Nat) : Int) from rfl, quo64 (by omega), hq]
  have er0 : pLe 0 (r : Int) = true := by simp [pLe]
  have en : ∀ v : List Int, pApp [] v = v := fun v => by simp [pApp]
  have ein : ∀ v : List Int, v.length = 32 → pIn (q : Int) (pLen v) = true := fun v hv => by simp [pIn, pLen, hv]; omega
  have room := room32 _ hg32
  unfold m_q39
  simp only [Bool.false_eq_true, if_false, e1, e2, e3, e4]
  rw [if_pos e5, eg, if_pos room]
  simp only [e8, er, eq, er0, en, ein _ hg32, e5, if_true, pBind]
  have hfl : ∀ v : List Int, pSet v (q : Int) (pXor .u8 (pGet 0 v (q : Int)) (pShl .u8 1 (r : Int))) = flip v (q : Int) (r : Int) := fun v => rfl
  rw [hfl]
  rcases back_eq i H (pSet B i (flip (pGet zero32 B i) (q : Int) (r : Int))) f m false N (by omega) with ⟨g1, g2⟩ | ⟨j, v, g1, g2, g3⟩
  · left
    refine ⟨g1, ?_⟩
    rw [g2]
    simp only [Option.bind_some]
    rw [if_neg (by decide)]
    rfl
  · right
    refine ⟨j, v, g1, g2, ?_⟩
    have hj : j < H.length := (List.getElem?_eq_some_iff.1 g1).1
    have hv : v.length = 32 := hH _ (List.mem_of_getElem? g1)
    have z1 : pLe 0 (j : Int) = true := by simp [pLe]
    have z2 : pIn (j : Int) (pLen H) = true := by simp [pIn, pLen]; omega
    have z3 : pGet (0, []) H (j : Int) = (i, v) := by simp [pGet, List.getD_eq_getElem?_getD, g1]
    rw [g3]
    simp only [Option.bind_some]
    rw [if_pos z1, if_pos z2, z3, if_pos (room32 v hv)]
    simp only [ein v hv, z2, if_true, Option.bind_some, pCase, hfl]
    simp [pSet]
end Go.Xr.Try
