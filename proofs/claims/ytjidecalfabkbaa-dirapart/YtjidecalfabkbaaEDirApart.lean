/- DirApart: for every input the law returns true, and each argument reads as it did before. No condition beyond the statement's own. -/
import Derived.Test.YtjidecalfabkbaaRows
import Derived.Test.YtjidecalfabkbaaCDirApart
import Derived.Test.YtjidecalfabkbaaPDirApart
import Derived.WalkKit
import Derived.ProofKit
import Derived.OpenShut
set_option linter.unusedVariables false
set_option maxRecDepth 100000
namespace Go.Proofs.Ytjidecalfabkbaa
open Go Go.Xr Go.Xr.Try Go.ChangeShapes Go.WideShapes

theorem dirApart_own : ownKnob Try.prog.godebug = Option.none := by kernel_rfl
abbrev dirApartT : List Ty := [(.int .i64), (.int .i64), (.int .i64), (.int .i64), (.int .i64), (.int .i64)]
theorem dirApart_run (d : HL dirApartT) (h : HL.ok dirApartT d) : lawRun Go.Xr.Try.K l_wainscotref8_Sectors DirApart_h 8 (HL.avs dirApartT d) = some true := by
  exact (DirApart_model d).trans (lawDirApart _ _ _ _ _ _)
theorem dirApart_lifted (os : Os) (started : os.Started) (H : Type) (enc : TypeId × Value → H) :
    ReturnsInHanded {} Try.checked os 8 .any (Rows.dirApartSpec.pre6 enc Try.prog Try.f8 Rows.dirApartRow.domain false) (Rows.dirApartSpec.post enc Try.prog Try.f8 false true false false) := by
  refine returnsInHanded_of_change_sized (C := Try.checked) dirApart_own started (by kernel_rfl) Try.func8
    (ChangeSpec.witness6 (enc := enc) (C := Try.checked) false ⟨#[], #[.int .i64 0, .int .i64 0, .int .i64 0, .int .i64 0, .int .i64 0, .int .i64 0], []⟩ 8 (by kernel_rfl) (by kernel_rfl) (by kernel_rfl) (by kernel_rfl)) ?_
  intro W base args ds gs before hval hW _ hsz _
  refine law_contract K_ok DirApart_under (pts := dirApartT) (bt := 4) (by kernel_rfl) (by kernel_rfl) (by kernel_rfl) rfl ?_ dirApart_run W base args ds gs before hval hW hsz
  intro ds hds
  match ds, hds with
  | [d1, d2, d3, d4, d5, d6], _ => rfl
theorem dirApart_holds : Rows.DirApartSaid :=
  OpenClaim.holds_of_wide 8 Try.f8 rfl rfl rfl rfl rfl rfl rfl ⟨rfl, rfl, rfl, rfl, rfl⟩ rfl rfl rfl rfl rfl (by kernel_rfl) Try.func8 (by kernel_rfl)
    (of_decide_eq_true (by kernel_rfl)) (by unfold Func.isWrapper; first | (rw [if_pos (by decide +kernel)]; kernel_rfl) | (rw [if_neg (by decide +kernel)]; exact ⟨rfl, rfl⟩))
    (fun os started H enc _ => dirApart_lifted os started H enc)
end Go.Proofs.Ytjidecalfabkbaa
