/- DirBack: for every input the law returns true, and each argument reads as it did before. No condition beyond the statement's own. -/
import Derived.Test.YtjidecalfabkbaaRows
import Derived.Test.YtjidecalfabkbaaCDirBack
import Derived.Test.YtjidecalfabkbaaPDirBack
import Derived.WalkKit
import Derived.ProofKit
import Derived.OpenShut
set_option linter.unusedVariables false
set_option maxRecDepth 100000
namespace Go.Proofs.Ytjidecalfabkbaa
open Go Go.Xr Go.Xr.Try Go.ChangeShapes Go.WideShapes

theorem dirBack_own : ownKnob Try.prog.godebug = Option.none := by kernel_rfl
abbrev dirBackT : List Ty := [(.int .i64), (.sl false (.st (.pair (.st (.pair (.int .i64) (.pair (.int .i64) (.int .i64)))) (.pair (.int .i64) (.pair (.int .i64) (.int .u32)))))), (.int .i64)]
theorem dirBack_run (d : HL dirBackT) (h : HL.ok dirBackT d) : lawRun Go.Xr.Try.K l_q72 DirBack_h 7 (HL.avs dirBackT d) = some true := by
  refine (DirBack_model d).trans (lawDirBack _ _ _ ?_)
  obtain ⟨_, ⟨_, h2⟩, _⟩ := h
  intro x hx
  have e : IntKind.has .u32 (pSnd (pSnd (pSnd x))) := (h2 x hx).2.2.2
  have e2 : (0 : Int) ≤ pSnd (pSnd (pSnd x)) ∧ (pSnd (pSnd (pSnd x)) : Int) ≤ 4294967295 := e
  exact ⟨e2.1, by have := e2.2; simp only [pSnd] at this; omega⟩
theorem dirBack_lifted (os : Os) (started : os.Started) (H : Type) (enc : TypeId × Value → H) :
    ReturnsInHanded {} Try.checked os 7 .any (Rows.dirBackSpec.pre6 enc Try.prog Try.f7 Rows.dirBackRow.domain false) (Rows.dirBackSpec.post enc Try.prog Try.f7 false true false false) := by
  refine returnsInHanded_of_change_sized (C := Try.checked) dirBack_own started (by kernel_rfl) Try.func7
    (ChangeSpec.witness6 (enc := enc) (C := Try.checked) false ⟨#[], #[.int .i64 0, .slice Option.none 0 0, .int .i64 0], []⟩ 8 (by kernel_rfl) (by kernel_rfl) (by kernel_rfl) (by kernel_rfl)) ?_
  intro W base args ds gs before hval hW _ hsz _
  refine law_contract K_ok DirBack_under (pts := dirBackT) (bt := 4) (by kernel_rfl) (by kernel_rfl) (by kernel_rfl) rfl ?_ dirBack_run W base args ds gs before hval hW hsz
  intro ds hds
  match ds, hds with
  | [d1, d2, d3], _ => rfl
theorem dirBack_holds : Rows.DirBackSaid :=
  OpenClaim.holds_of_wide 7 Try.f7 rfl rfl rfl rfl rfl rfl rfl ⟨rfl, rfl, rfl, rfl, rfl⟩ rfl rfl rfl rfl rfl (by kernel_rfl) Try.func7 (by kernel_rfl)
    (of_decide_eq_true (by kernel_rfl)) (by unfold Func.isWrapper; first | (rw [if_pos (by decide +kernel)]; kernel_rfl) | (rw [if_neg (by decide +kernel)]; exact ⟨rfl, rfl⟩))
    (fun os started H enc _ => dirBack_lifted os started H enc)
end Go.Proofs.Ytjidecalfabkbaa
