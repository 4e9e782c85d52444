import Derived.Test.YtkooincefcodcaaLz5
import Derived.Test.YtkooincefcodcaaMLzTells
set_option linter.unusedVariables false
set_option linter.unusedSimpArgs false
set_option maxRecDepth 100000
namespace Go.Xr.Try
open Go Go.Xr
theorem LzTells_true {a0 a1 : List Int} {a2 : Int} (h0 : Bytes a0) (h1 : Bytes a1) : LzTells_m a0 a1 a2 = some true := by
  unfold LzTells_m
  by_cases c0 : 500 < a0.length
  · have : pLt 500 (pLen a0) = true := decide_eq_true (by simp only [pLen]; omega)
    simp only [this, awake7_ok, pBind, Option.bind_some, if_true]
  by_cases c1 : 300 < a1.length
  · have b0 : pLt 500 (pLen a0) = false := decide_eq_false (by simp only [pLen]; omega)
    have : pLt 300 (pLen a1) = true := decide_eq_true (by simp only [pLen]; omega)
    simp only [b0, this, awake7_ok, pBind, Option.bind_some, if_true, Bool.false_eq_true, if_false]
  have b0 : pLt 500 (pLen a0) = false := decide_eq_false (by simp only [pLen]; omega)
  have b1 : pLt 300 (pLen a1) = false := decide_eq_false (by simp only [pLen]; omega)
  obtain ⟨p1, p2⟩ := pack_ok h0 (by omega)
  obtain ⟨u1, u2⟩ := unpack_ok h1 (by omega)
  obtain ⟨x, m1, m2⟩ := most_both a2
  have es : ∀ y : List Int, pEqS y y = true := fun y => decide_eq_true rfl
  have ei : ∀ y : Int, pEq y y = true := fun y => decide_eq_true rfl
  simp only [b0, b1, p1, p2, u1, u2, m1, m2, es, ei, awake7_ok, pBind, Option.bind_some, if_true, Bool.false_eq_true, if_false]
end Go.Xr.Try
