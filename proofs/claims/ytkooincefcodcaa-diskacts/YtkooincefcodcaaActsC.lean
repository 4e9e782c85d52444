import Derived.Test.YtkooincefcodcaaActsB
set_option linter.unusedVariables false
set_option linter.unusedSimpArgs false
set_option maxRecDepth 100000
set_option maxHeartbeats 3200000
namespace Go.Xr.Try
open Go Go.Xr
theorem turn_flush (a1 : List (Int × (Int × Int))) (i : Nat) (at' nn : Int) (hi : i < a1.length) (hl : a1.length ≤ 60) (hp : pGet (0, (0, 0)) a1 (i : Int) = (2, (at', nn))) (l : List (List Int)) (h : List (Int × List Int)) (dn fu : Bool) (left mask wr : Int) (H : List (Int × List Int)) (f : Int) (n : Nat) (D : DR l h dn fu left mask wr H f n) (hn : n ≤ 79) :
    ∃ l' h' dn' fu' left' mask' wr' H' f', s_DiskActs_0 a1 ((i : Int), (H, (l, (f, (mask, (dn, (wr, (l, (h, (dn, (fu, (left, (mask, (wr, ())))))))))))))) = some (.inl (((i + 1 : Nat) : Int), (H', (l', (f', (mask', (dn', (wr', (l', (h', (dn', (fu', (left', (mask', (wr', ()))))))))))))))) ∧ l'.length = l.length ∧ DR l' h' dn' fu' left' mask' wr' H' f' n := by
  obtain ⟨e, l2, h2, H2, c1, c2, c3, D2⟩ := act_flush D (by omega)
  obtain ⟨re, v, r1, r2⟩ := act_read (i := at') D2 (by omega)
  have e1 : pLt (i : Int) (pLen a1) = true := by simp [pLt, pLen]; omega
  have e2 : pIn (i : Int) (pLen a1) = true := by simp [pIn, pLen]; omega
  have e3 : pAdd .i64 (i : Int) 1 = ((i + 1 : Nat) : Int) := by rw [add64 (by omega) (by omega)]; omega
  have es : pNot (pEqS v v) = false := by simp [pEqS, pNot]
  have ee : ∀ e : Int, pNot (pEq e e) = false := fun e => by simp [pEq, pNot]
  have eb : pNot (pEqB dn dn) = false := by cases dn <;> rfl
  have hd : ∀ (l : List (List Int)) (h : List (Int × List Int)) (d f : Bool) (x y z : Int), m_q6 l h d f x y z = some (d, (l, (h, (d, (f, (x, (y, (z, ())))))))) := fun _ _ _ _ _ _ _ => rfl
  have hw : ∀ (l : List (List Int)) (h : List (Int × List Int)) (d f : Bool) (x y z : Int), m_q15 l h d f x y z = some (z, (l, (h, (d, (f, (x, (y, (z, ())))))))) := fun _ _ _ _ _ _ _ => rfl
  have hL : ∀ (l : List (List Int)) (h : List (Int × List Int)) (d f : Bool) (x y z : Int), m_q10 l h d f x y z = some (pLen l, (l, (h, (d, (f, (x, (y, (z, ())))))))) := fun _ _ _ _ _ _ _ => rfl
  have z1 : pEq (2 : Int) 1 = false := by decide
  have z2 : pEq (2 : Int) 2 = true := by decide
  have z3 : pEq (2 : Int) 3 = false := by decide
  have z4 : pEq (2 : Int) 4 = false := by decide
  have z5 : pEq (2 : Int) 5 = false := by decide
  refine ⟨l2, h2, dn, fu, left, mask, wr, H2, f, ?_, c3, D2⟩
  unfold s_DiskActs_0
  simp only [e1, e2, e3, hp, z1, z2, z3, z4, z5, if_true, Bool.false_eq_true, if_false, pBind, Option.bind_some, pCase, c1, c2, r1, r2, pAmb_self, es, ee, eb, hd, hw, hL]
theorem turn_fuse (a1 : List (Int × (Int × Int))) (i : Nat) (at' nn : Int) (hi : i < a1.length) (hl : a1.length ≤ 60) (hp : pGet (0, (0, 0)) a1 (i : Int) = (3, (at', nn))) (l : List (List Int)) (h : List (Int × List Int)) (dn fu : Bool) (left mask wr : Int) (H : List (Int × List Int)) (f : Int) (n : Nat) (D : DR l h dn fu left mask wr H f n) (hn : n ≤ 79) :
    ∃ l' h' dn' fu' left' mask' wr' H' f', s_DiskActs_0 a1 ((i : Int), (H, (l, (f, (mask, (dn, (wr, (l, (h, (dn, (fu, (left, (mask, (wr, ())))))))))))))) = some (.inl (((i + 1 : Nat) : Int), (H', (l', (f', (mask', (dn', (wr', (l', (h', (dn', (fu', (left', (mask', (wr', ()))))))))))))))) ∧ l'.length = l.length ∧ DR l' h' dn' fu' left' mask' wr' H' f' n := by
  obtain ⟨e, fu2, left2, mask2, f2, c1, c2, D2⟩ := act_fuse (a := at') (b := nn) D
  obtain ⟨re, v, r1, r2⟩ := act_read (i := at') D2 (by omega)
  have e1 : pLt (i : Int) (pLen a1) = true := by simp [pLt, pLen]; omega
  have e2 : pIn (i : Int) (pLen a1) = true := by simp [pIn, pLen]; omega
  have e3 : pAdd .i64 (i : Int) 1 = ((i + 1 : Nat) : Int) := by rw [add64 (by omega) (by omega)]; omega
  have es : pNot (pEqS v v) = false := by simp [pEqS, pNot]
  have ee : ∀ e : Int, pNot (pEq e e) = false := fun e => by simp [pEq, pNot]
  have eb : pNot (pEqB dn dn) = false := by cases dn <;> rfl
  have hd : ∀ (l : List (List Int)) (h : List (Int × List Int)) (d f : Bool) (x y z : Int), m_q6 l h d f x y z = some (d, (l, (h, (d, (f, (x, (y, (z, ())))))))) := fun _ _ _ _ _ _ _ => rfl
  have hw : ∀ (l : List (List Int)) (h : List (Int × List Int)) (d f : Bool) (x y z : Int), m_q15 l h d f x y z = some (z, (l, (h, (d, (f, (x, (y, (z, ())))))))) := fun _ _ _ _ _ _ _ => rfl
  have hL : ∀ (l : List (List Int)) (h : List (Int × List Int)) (d f : Bool) (x y z : Int), m_q10 l h d f x y z = some (pLen l, (l, (h, (d, (f, (x, (y, (z, ())))))))) := fun _ _ _ _ _ _ _ => rfl
  have z1 : pEq (3 : Int) 1 = false := by decide
  have z2 : pEq (3 : Int) 2 = false := by decide
  have z3 : pEq (3 : Int) 3 = true := by decide
  have z4 : pEq (3 : Int) 4 = false := by decide
  have z5 : pEq (3 : Int) 5 = false := by decide
  refine ⟨l, h, dn, fu2, left2, mask2, wr, H, f2, ?_, rfl, D2⟩
  unfold s_DiskActs_0
  simp only [e1, e2, e3, hp, z1, z2, z3, z4, z5, if_true, Bool.false_eq_true, if_false, pBind, Option.bind_some, pCase, c1, c2, r1, r2, pAmb_self, es, ee, eb, hd, hw, hL]
theorem turn_corrupt (a1 : List (Int × (Int × Int))) (i : Nat) (at' nn : Int) (hi : i < a1.length) (hl : a1.length ≤ 60) (hp : pGet (0, (0, 0)) a1 (i : Int) = (4, (at', nn))) (l : List (List Int)) (h : List (Int × List Int)) (dn fu : Bool) (left mask wr : Int) (H : List (Int × List Int)) (f : Int) (n : Nat) (D : DR l h dn fu left mask wr H f n) (hn : n ≤ 79) :
    ∃ l' h' dn' fu' left' mask' wr' H' f', s_DiskActs_0 a1 ((i : Int), (H, (l, (f, (mask, (dn, (wr, (l, (h, (dn, (fu, (left, (mask, (wr, ())))))))))))))) = some (.inl (((i + 1 : Nat) : Int), (H', (l', (f', (mask', (dn', (wr', (l', (h', (dn', (fu', (left', (mask', (wr', ()))))))))))))))) ∧ l'.length = l.length ∧ DR l' h' dn' fu' left' mask' wr' H' f' n := by
  obtain ⟨e, l2, h2, H2, c1, c2, c3, D2⟩ := act_corrupt (i := at') (bit := nn) D (by omega)
  obtain ⟨re, v, r1, r2⟩ := act_read (i := at') D2 (by omega)
  have e1 : pLt (i : Int) (pLen a1) = true := by simp [pLt, pLen]; omega
  have e2 : pIn (i : Int) (pLen a1) = true := by simp [pIn, pLen]; omega
  have e3 : pAdd .i64 (i : Int) 1 = ((i + 1 : Nat) : Int) := by rw [add64 (by omega) (by omega)]; omega
  have es : pNot (pEqS v v) = false := by simp [pEqS, pNot]
  have ee : ∀ e : Int, pNot (pEq e e) = false := fun e => by simp [pEq, pNot]
  have eb : pNot (pEqB dn dn) = false := by cases dn <;> rfl
  have hd : ∀ (l : List (List Int)) (h : List (Int × List Int)) (d f : Bool) (x y z : Int), m_q6 l h d f x y z = some (d, (l, (h, (d, (f, (x, (y, (z, ())))))))) := fun _ _ _ _ _ _ _ => rfl
  have hw : ∀ (l : List (List Int)) (h : List (Int × List Int)) (d f : Bool) (x y z : Int), m_q15 l h d f x y z = some (z, (l, (h, (d, (f, (x, (y, (z, ())))))))) := fun _ _ _ _ _ _ _ => rfl
  have hL : ∀ (l : List (List Int)) (h : List (Int × List Int)) (d f : Bool) (x y z : Int), m_q10 l h d f x y z = some (pLen l, (l, (h, (d, (f, (x, (y, (z, ())))))))) := fun _ _ _ _ _ _ _ => rfl
  have z1 : pEq (4 : Int) 1 = false := by decide
  have z2 : pEq (4 : Int) 2 = false := by decide
  have z3 : pEq (4 : Int) 3 = false := by decide
  have z4 : pEq (4 : Int) 4 = true := by decide
  have z5 : pEq (4 : Int) 5 = false := by decide
  refine ⟨l2, h2, dn, fu, left, mask, wr, H2, f, ?_, c3, D2⟩
  unfold s_DiskActs_0
  simp only [e1, e2, e3, hp, z1, z2, z3, z4, z5, if_true, Bool.false_eq_true, if_false, pBind, Option.bind_some, pCase, c1, c2, r1, r2, pAmb_self, es, ee, eb, hd, hw, hL]
end Go.Xr.Try
