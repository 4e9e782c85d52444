import Derived.Test.YtkooincefcodcaaRefN
import Derived.Test.YtkooincefcodcaaMDiskActs
set_option linter.unusedVariables false
set_option linter.unusedSimpArgs false
set_option maxRecDepth 100000
set_option maxHeartbeats 1600000
namespace Go.Xr.Try
open Go Go.Xr
theorem acts_last (a0 : Int) (l : List (List Int)) (h : List (Int × List Int)) (dn fu : Bool) (left mask wr : Int) (H : List (Int × List Int)) (f : Int) (n : Nat) (D : DR l h dn fu left mask wr H f n) (hn : n ≤ 80) (h0 : 0 ≤ a0) (h1 : a0 ≤ 2048) :
    ∃ x, pIter (s_DiskActs_1 a0) (0, (l, (h, (dn, (fu, (left, (mask, (wr, (H, (l, (f, (mask, (dn, (wr, ())))))))))))))) = some (.inr x) := by
  obtain ⟨N, hN⟩ := Int.eq_ofNat_of_zero_le (show 0 ≤ pMin a0 40 by simp only [pMin]; split <;> omega)
  have hN40 : N ≤ 40 := by
    have : pMin a0 40 ≤ 40 := by simp only [pMin]; split <;> omega
    omega
  refine ⟨((N : Int), (l, (h, (dn, (fu, (left, (mask, (wr, (H, (l, (f, (mask, (dn, (wr, ())))))))))))))), pIter_count (F := fun j => ((j : Int), (l, (h, (dn, (fu, (left, (mask, (wr, (H, (l, (f, (mask, (dn, (wr, ())))))))))))))) ) (n := N) (fun j hj => ?_) ?_ N 0 (by omega)⟩
  · obtain ⟨e, v, r1, r2⟩ := act_read (i := (j : Int)) D hn
    unfold s_DiskActs_1
    rw [hN]
    have e1 : pLt (j : Int) (N : Int) = true := by simp [pLt]; exact hj
    have e2 : pAdd .i64 (j : Int) 1 = ((j + 1 : Nat) : Int) := by rw [add64 (by omega) (by omega)]; omega
    have es : pNot (pEqS v v) = false := by simp [pEqS, pNot]
    have ee : pNot (pEq e e) = false := by simp [pEq, pNot]
    simp only [e1, e2, if_true, r1, r2, pBind, Option.bind_some, pAmb_self, es, ee, Bool.false_eq_true, if_false, pCase]
  · unfold s_DiskActs_1
    rw [hN]
    have e1 : pLt (N : Int) (N : Int) = false := by simp [pLt]
    simp only [e1, Bool.false_eq_true, if_false]
end Go.Xr.Try
