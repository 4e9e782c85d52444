/- MatchRuns: for every input the law returns true, and each argument reads as it did before. No condition beyond the statement's own. -/
import Derived.Test.YtkooincefcodcaaRows
import Derived.Test.YtkooincefcodcaaCMatchRuns
import Derived.Test.YtkooincefcodcaaPMatchRuns
import Derived.WalkKit
import Derived.ProofKit
import Derived.OpenShut
set_option linter.unusedVariables false
set_option maxRecDepth 100000
namespace Go.Proofs.Ytkooincefcodcaa
open Go Go.Xr Go.Xr.Try Go.ChangeShapes Go.WideShapes

theorem matchRuns_own : ownKnob Try.prog.godebug = Option.none := by kernel_rfl
abbrev matchRunsT : List Ty := [(.int .i64), (.int .i64), (.int .i64)]
theorem matchRuns_run (d : HL matchRunsT) (h : HL.ok matchRunsT d) : lawRun Go.Xr.Try.K l_wainscotalike_Round MatchRuns_h 4 (HL.avs matchRunsT d) = some true := by
  exact (MatchRuns_model d).trans (MatchRuns_true _ _ _)
theorem matchRuns_lifted (os : Os) (started : os.Started) (H : Type) (enc : TypeId × Value → H) :
    ReturnsInHanded {} Try.checked os 4 .any (Rows.matchRunsSpec.pre6 enc Try.prog Try.f4 Rows.matchRunsRow.domain false) (Rows.matchRunsSpec.post enc Try.prog Try.f4 false true false false) := by
  refine returnsInHanded_of_change_sized (C := Try.checked) matchRuns_own started (by kernel_rfl) Try.func4
    (ChangeSpec.witness6 (enc := enc) (C := Try.checked) false ⟨#[], #[.int .i64 0, .int .i64 0, .int .i64 0], []⟩ 8 (by kernel_rfl) (by kernel_rfl) (by kernel_rfl) (by kernel_rfl)) ?_
  intro W base args ds gs before hval hW _ hsz _
  refine law_contract K_ok MatchRuns_under (pts := matchRunsT) (bt := 4) (by kernel_rfl) (by kernel_rfl) (by kernel_rfl) rfl ?_ matchRuns_run W base args ds gs before hval hW hsz
  intro ds hds
  match ds, hds with
  | [d1, d2, d3], _ => rfl
theorem matchRuns_holds : Rows.MatchRunsSaid :=
  OpenClaim.holds_of_wide 4 Try.f4 rfl rfl rfl rfl rfl rfl rfl ⟨rfl, rfl, rfl, rfl, rfl⟩ rfl rfl rfl rfl rfl (by kernel_rfl) Try.func4 (by kernel_rfl)
    (of_decide_eq_true (by kernel_rfl)) (by unfold Func.isWrapper; first | (rw [if_pos (by decide +kernel)]; kernel_rfl) | (rw [if_neg (by decide +kernel)]; exact ⟨rfl, rfl⟩))
    (fun os started H enc _ => matchRuns_lifted os started H enc)
end Go.Proofs.Ytkooincefcodcaa
