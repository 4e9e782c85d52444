import Derived.Test.YtkooincefcodcaaActsD
set_option linter.unusedVariables false
set_option linter.unusedSimpArgs false
set_option maxRecDepth 100000
set_option maxHeartbeats 3200000
namespace Go.Xr.Try
open Go Go.Xr
theorem turn_write (a1 : List (Int × (Int × Int))) (i : Nat) (at' nn : Int) (hi : i < a1.length) (hl : a1.length ≤ 60) (hp : pGet (0, (0, 0)) a1 (i : Int) = (1, (at', nn))) (l : List (List Int)) (h : List (Int × List Int)) (dn fu : Bool) (left mask wr : Int) (H : List (Int × List Int)) (f : Int) (n : Nat) (D : DR l h dn fu left mask wr H f n) (hn : n ≤ 79) :
    ∃ l' h' dn' fu' left' mask' wr' H' f', s_DiskActs_0 a1 ((i : Int), (H, (l, (f, (mask, (dn, (wr, (l, (h, (dn, (fu, (left, (mask, (wr, ())))))))))))))) = some (.inl (((i + 1 : Nat) : Int), (H', (l', (f', (mask', (dn', (wr', (l', (h', (dn', (fu', (left', (mask', (wr', ()))))))))))))))) ∧ l'.length = l.length ∧ DR l' h' dn' fu' left' mask' wr' H' f' (n + 1) := by
  have e1 : pLt (i : Int) (pLen a1) = true := by simp [pLt, pLen]; omega
  have e2 : pIn (i : Int) (pLen a1) = true := by simp [pIn, pLen]; omega
  have e3 : pAdd .i64 (i : Int) 1 = ((i + 1 : Nat) : Int) := by rw [add64 (by omega) (by omega)]; omega
  have es : ∀ v : List Int, pNot (pEqS v v) = false := fun v => by simp [pEqS, pNot]
  have ee : ∀ e : Int, pNot (pEq e e) = false := fun e => by simp [pEq, pNot]
  have eb : ∀ q : Bool, pNot (pEqB q q) = false := fun q => by cases q <;> rfl
  have hd : ∀ (l : List (List Int)) (h : List (Int × List Int)) (d f : Bool) (x y z : Int), m_q6 l h d f x y z = some (d, (l, (h, (d, (f, (x, (y, (z, ())))))))) := fun _ _ _ _ _ _ _ => rfl
  have hw : ∀ (l : List (List Int)) (h : List (Int × List Int)) (d f : Bool) (x y z : Int), m_q15 l h d f x y z = some (z, (l, (h, (d, (f, (x, (y, (z, ())))))))) := fun _ _ _ _ _ _ _ => rfl
  have hL : ∀ (l : List (List Int)) (h : List (Int × List Int)) (d f : Bool) (x y z : Int), m_q10 l h d f x y z = some (pLen l, (l, (h, (d, (f, (x, (y, (z, ())))))))) := fun _ _ _ _ _ _ _ => rfl
  have z1 : pEq (1 : Int) 1 = true := by decide
  have z2 : pEq (1 : Int) 2 = false := by decide
  have z3 : pEq (1 : Int) 3 = false := by decide
  have z4 : pEq (1 : Int) 4 = false := by decide
  have z5 : pEq (1 : Int) 5 = false := by decide
  have z13 : pNot (pEq 13 0) = true := by decide
  have zp : pPart 0 31 (pLen (sec nn)) = true := by simp only [pPart, pLen, sec_len]; decide
  by_cases hm : pEq (pRem nn 13) 12 = true
  · obtain ⟨e, h2, dn2, left2, wr2, H2, f2, c1, c2, D2⟩ := act_write (i := at') (b := pCut (sec nn) 0 (pISub 31 0)) D hn
    obtain ⟨re, v, r1, r2⟩ := act_read (i := at') D2 (by omega)
    refine ⟨l, h2, dn2, fu, left2, mask, wr2, H2, f2, ?_, rfl, D2⟩
    rcases c2 with c2 | ⟨X, c2⟩
    · unfold s_DiskActs_0
      simp only [e1, e2, e3, hp, z1, z2, z3, z4, z5, z13, zp, hm, if_true, Bool.false_eq_true, if_false, pBind, Option.bind_some, pCase, sector_eq, c1, c2, r1, r2, pAmb_self, es, ee, eb, hd, hw, hL]
    · unfold s_DiskActs_0
      simp only [e1, e2, e3, hp, z1, z2, z3, z4, z5, z13, zp, hm, if_true, Bool.false_eq_true, if_false, pBind, Option.bind_some, pCase, sector_eq, c1, c2, r1, r2, pAmb_self, es, ee, eb, hd, hw, hL]
  · have hm : pEq (pRem nn 13) 12 = false := by simpa using hm
    obtain ⟨e, h2, dn2, left2, wr2, H2, f2, c1, c2, D2⟩ := act_write (i := at') (b := sec nn) D hn
    obtain ⟨re, v, r1, r2⟩ := act_read (i := at') D2 (by omega)
    refine ⟨l, h2, dn2, fu, left2, mask, wr2, H2, f2, ?_, rfl, D2⟩
    rcases c2 with c2 | ⟨X, c2⟩
    · unfold s_DiskActs_0
      simp only [e1, e2, e3, hp, z1, z2, z3, z4, z5, z13, hm, if_true, Bool.false_eq_true, if_false, pBind, Option.bind_some, pCase, sector_eq, c1, c2, r1, r2, pAmb_self, es, ee, eb, hd, hw, hL]
    · unfold s_DiskActs_0
      simp only [e1, e2, e3, hp, z1, z2, z3, z4, z5, z13, hm, if_true, Bool.false_eq_true, if_false, pBind, Option.bind_some, pCase, sector_eq, c1, c2, r1, r2, pAmb_self, es, ee, eb, hd, hw, hL]
end Go.Xr.Try
