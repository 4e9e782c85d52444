/- MatchCopies: for every input the law returns true, and each argument reads as it did before. No condition beyond the statement's own. -/
import Derived.Test.YtkooincefcodcaaRows
import Derived.Test.YtkooincefcodcaaCMatchCopies
import Derived.Test.YtkooincefcodcaaPMatchCopies
import Derived.WalkKit
import Derived.ProofKit
import Derived.OpenShut
set_option linter.unusedVariables false
set_option maxRecDepth 100000
namespace Go.Proofs.Ytkooincefcodcaa
open Go Go.Xr Go.Xr.Try Go.ChangeShapes Go.WideShapes

theorem matchCopies_own : ownKnob Try.prog.godebug = Option.none := by kernel_rfl
abbrev matchCopiesT : List Ty := [(.sl false (.int .i64)), (.int .i64), (.int .i64)]
theorem matchCopies_run (d : HL matchCopiesT) (h : HL.ok matchCopiesT d) : lawRun Go.Xr.Try.K l_wainscotalike_Round MatchCopies_h 3 (HL.avs matchCopiesT d) = some true := by
  exact (MatchCopies_model d).trans (MatchCopies_true _ _ _)
theorem matchCopies_lifted (os : Os) (started : os.Started) (H : Type) (enc : TypeId × Value → H) :
    ReturnsInHanded {} Try.checked os 3 .any (Rows.matchCopiesSpec.pre6 enc Try.prog Try.f3 Rows.matchCopiesRow.domain false) (Rows.matchCopiesSpec.post enc Try.prog Try.f3 false true false false) := by
  refine returnsInHanded_of_change_sized (C := Try.checked) matchCopies_own started (by kernel_rfl) Try.func3
    (ChangeSpec.witness6 (enc := enc) (C := Try.checked) false ⟨#[], #[.slice Option.none 0 0, .int .i64 0, .int .i64 0], []⟩ 8 (by kernel_rfl) (by kernel_rfl) (by kernel_rfl) (by kernel_rfl)) ?_
  intro W base args ds gs before hval hW _ hsz _
  refine law_contract K_ok MatchCopies_under (pts := matchCopiesT) (bt := 4) (by kernel_rfl) (by kernel_rfl) (by kernel_rfl) rfl ?_ matchCopies_run W base args ds gs before hval hW hsz
  intro ds hds
  match ds, hds with
  | [d1, d2, d3], _ => rfl
theorem matchCopies_holds : Rows.MatchCopiesSaid :=
  OpenClaim.holds_of_wide 3 Try.f3 rfl rfl rfl rfl rfl rfl rfl ⟨rfl, rfl, rfl, rfl, rfl⟩ rfl rfl rfl rfl rfl (by kernel_rfl) Try.func3 (by kernel_rfl)
    (of_decide_eq_true (by kernel_rfl)) (by unfold Func.isWrapper; first | (rw [if_pos (by decide +kernel)]; kernel_rfl) | (rw [if_neg (by decide +kernel)]; exact ⟨rfl, rfl⟩))
    (fun os started H enc _ => matchCopies_lifted os started H enc)
end Go.Proofs.Ytkooincefcodcaa
