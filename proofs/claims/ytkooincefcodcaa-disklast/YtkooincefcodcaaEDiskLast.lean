/- DiskLast: for every input the law returns true, and each argument reads as it did before. No condition beyond the statement's own. -/
import Derived.Test.YtkooincefcodcaaRows
import Derived.Test.YtkooincefcodcaaCDiskLast
import Derived.Test.YtkooincefcodcaaPDiskLast
import Derived.WalkKit
import Derived.ProofKit
import Derived.OpenShut
set_option linter.unusedVariables false
set_option maxRecDepth 100000
namespace Go.Proofs.Ytkooincefcodcaa
open Go Go.Xr Go.Xr.Try Go.ChangeShapes Go.WideShapes

theorem diskLast_own : ownKnob Try.prog.godebug = Option.none := by kernel_rfl
abbrev diskLastT : List Ty := [(.int .i64), (.sl false (.arr 2 (.int .i64))), (.sl false .bool)]
theorem diskLast_run (d : HL diskLastT) (h : HL.ok diskLastT d) : lawRun Go.Xr.Try.K l_wainscotalike_Round DiskLast_h 13 (HL.avs diskLastT d) = some true := by
  exact (DiskLast_model d).trans (lawDiskLast _ _ _)
theorem diskLast_lifted (os : Os) (started : os.Started) (H : Type) (enc : TypeId × Value → H) :
    ReturnsInHanded {} Try.checked os 13 .any (Rows.diskLastSpec.pre6 enc Try.prog Try.f13 Rows.diskLastRow.domain false) (Rows.diskLastSpec.post enc Try.prog Try.f13 false true false false) := by
  refine returnsInHanded_of_change_sized (C := Try.checked) diskLast_own started (by kernel_rfl) Try.func13
    (ChangeSpec.witness6 (enc := enc) (C := Try.checked) false ⟨#[], #[.int .i64 0, .slice Option.none 0 0, .slice Option.none 0 0], []⟩ 8 (by kernel_rfl) (by kernel_rfl) (by kernel_rfl) (by kernel_rfl)) ?_
  intro W base args ds gs before hval hW _ hsz _
  refine law_contract K_ok DiskLast_under (pts := diskLastT) (bt := 4) (by kernel_rfl) (by kernel_rfl) (by kernel_rfl) rfl ?_ diskLast_run W base args ds gs before hval hW hsz
  intro ds hds
  match ds, hds with
  | [d1, d2, d3], _ => rfl
theorem diskLast_holds : Rows.DiskLastSaid :=
  OpenClaim.holds_of_wide 13 Try.f13 rfl rfl rfl rfl rfl rfl rfl ⟨rfl, rfl, rfl, rfl, rfl⟩ rfl rfl rfl rfl rfl (by kernel_rfl) Try.func13 (by kernel_rfl)
    (of_decide_eq_true (by kernel_rfl)) (by unfold Func.isWrapper; first | (rw [if_pos (by decide +kernel)]; kernel_rfl) | (rw [if_neg (by decide +kernel)]; exact ⟨rfl, rfl⟩))
    (fun os started H enc _ => diskLast_lifted os started H enc)
end Go.Proofs.Ytkooincefcodcaa
