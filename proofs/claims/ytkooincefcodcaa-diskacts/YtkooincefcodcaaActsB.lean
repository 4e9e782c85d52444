import Derived.Test.YtkooincefcodcaaActsA
set_option linter.unusedVariables false
set_option linter.unusedSimpArgs false
set_option maxRecDepth 100000
set_option maxHeartbeats 3200000
namespace Go.Xr.Try
open Go Go.Xr
theorem turn_none (a1 : List (Int × (Int × Int))) (i : Nat) (kd at' nn : Int) (hi : i < a1.length) (hl : a1.length ≤ 60) (hp : pGet (0, (0, 0)) a1 (i : Int) = (kd, (at', nn))) (l : List (List Int)) (h : List (Int × List Int)) (dn fu : Bool) (left mask wr : Int) (H : List (Int × List Int)) (f : Int) (n : Nat) (D : DR l h dn fu left mask wr H f n) (hn : n ≤ 79)
    (k1 : kd ≠ 1) (k2 : kd ≠ 2) (k3 : kd ≠ 3) (k4 : kd ≠ 4) (k5 : kd ≠ 5) :
    s_DiskActs_0 a1 ((i : Int), (H, (l, (f, (mask, (dn, (wr, (l, (h, (dn, (fu, (left, (mask, (wr, ())))))))))))))) = some (.inl (((i + 1 : Nat) : Int), (H, (l, (f, (mask, (dn, (wr, (l, (h, (dn, (fu, (left, (mask, (wr, ()))))))))))))))) := by
  obtain ⟨e, v, r1, r2⟩ := act_read (i := at') D (by omega)
  have e1 : pLt (i : Int) (pLen a1) = true := by simp [pLt, pLen]; omega
  have e2 : pIn (i : Int) (pLen a1) = true := by simp [pIn, pLen]; omega
  have e3 : pAdd .i64 (i : Int) 1 = ((i + 1 : Nat) : Int) := by rw [add64 (by omega) (by omega)]; omega
  have z1 : pEq kd 1 = false := by simp [pEq, k1]
  have z2 : pEq kd 2 = false := by simp [pEq, k2]
  have z3 : pEq kd 3 = false := by simp [pEq, k3]
  have z4 : pEq kd 4 = false := by simp [pEq, k4]
  have z5 : pEq kd 5 = false := by simp [pEq, k5]
  have es : pNot (pEqS v v) = false := by simp [pEqS, pNot]
  have ee : ∀ e : Int, pNot (pEq e e) = false := fun e => by simp [pEq, pNot]
  have eb : pNot (pEqB dn dn) = false := by cases dn <;> rfl
  have hd : ∀ (l : List (List Int)) (h : List (Int × List Int)) (d f : Bool) (x y z : Int), m_q6 l h d f x y z = some (d, (l, (h, (d, (f, (x, (y, (z, ())))))))) := fun _ _ _ _ _ _ _ => rfl
  have hw : ∀ (l : List (List Int)) (h : List (Int × List Int)) (d f : Bool) (x y z : Int), m_q15 l h d f x y z = some (z, (l, (h, (d, (f, (x, (y, (z, ())))))))) := fun _ _ _ _ _ _ _ => rfl
  have hL : ∀ (l : List (List Int)) (h : List (Int × List Int)) (d f : Bool) (x y z : Int), m_q10 l h d f x y z = some (pLen l, (l, (h, (d, (f, (x, (y, (z, ())))))))) := fun _ _ _ _ _ _ _ => rfl
  unfold s_DiskActs_0
  simp only [e1, e2, e3, hp, z1, z2, z3, z4, z5, if_true, Bool.false_eq_true, if_false, pBind, Option.bind_some, pCase, r1, r2, pAmb_self, es, ee, eb, hd, hw, hL]
end Go.Xr.Try
