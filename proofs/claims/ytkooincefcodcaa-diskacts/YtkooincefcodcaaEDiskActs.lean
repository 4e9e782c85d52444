/- DiskActs: for every input the law returns true, and each argument reads as it did before. No condition beyond the statement's own. -/
import Derived.Test.YtkooincefcodcaaRows
import Derived.Test.YtkooincefcodcaaCDiskActs
import Derived.Test.YtkooincefcodcaaPDiskActs
import Derived.WalkKit
import Derived.ProofKit
import Derived.OpenShut
set_option linter.unusedVariables false
set_option maxRecDepth 100000
namespace Go.Proofs.Ytkooincefcodcaa
open Go Go.Xr Go.Xr.Try Go.ChangeShapes Go.WideShapes

theorem diskActs_own : ownKnob Try.prog.godebug = Option.none := by kernel_rfl
abbrev diskActsT : List Ty := [(.int .i64), (.sl false (.st (.pair (.int .i64) (.pair (.int .i64) (.int .i64)))))]
theorem diskActs_run (d : HL diskActsT) (h : HL.ok diskActsT d) : lawRun Go.Xr.Try.K l_q41 DiskActs_h 14 (HL.avs diskActsT d) = some true := by
  exact (DiskActs_model d).trans (lawDiskActs _ _)
theorem diskActs_lifted (os : Os) (started : os.Started) (H : Type) (enc : TypeId × Value → H) :
    ReturnsInHanded {} Try.checked os 14 .any (Rows.diskActsSpec.pre6 enc Try.prog Try.f14 Rows.diskActsRow.domain false) (Rows.diskActsSpec.post enc Try.prog Try.f14 false true false false) := by
  refine returnsInHanded_of_change_sized (C := Try.checked) diskActs_own started (by kernel_rfl) Try.func14
    (ChangeSpec.witness6 (enc := enc) (C := Try.checked) false ⟨#[], #[.int .i64 0, .slice Option.none 0 0], []⟩ 8 (by kernel_rfl) (by kernel_rfl) (by kernel_rfl) (by kernel_rfl)) ?_
  intro W base args ds gs before hval hW _ hsz _
  refine law_contract K_ok DiskActs_under (pts := diskActsT) (bt := 4) (by kernel_rfl) (by kernel_rfl) (by kernel_rfl) rfl ?_ diskActs_run W base args ds gs before hval hW hsz
  intro ds hds
  match ds, hds with
  | [d1, d2], _ => rfl
theorem diskActs_holds : Rows.DiskActsSaid :=
  OpenClaim.holds_of_wide 14 Try.f14 rfl rfl rfl rfl rfl rfl rfl ⟨rfl, rfl, rfl, rfl, rfl⟩ rfl rfl rfl rfl rfl (by kernel_rfl) Try.func14 (by kernel_rfl)
    (of_decide_eq_true (by kernel_rfl)) (by unfold Func.isWrapper; first | (rw [if_pos (by decide +kernel)]; kernel_rfl) | (rw [if_neg (by decide +kernel)]; exact ⟨rfl, rfl⟩))
    (fun os started H enc _ => diskActs_lifted os started H enc)
end Go.Proofs.Ytkooincefcodcaa
