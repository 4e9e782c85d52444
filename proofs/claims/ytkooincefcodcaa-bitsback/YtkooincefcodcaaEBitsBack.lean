/- BitsBack: for every input the law returns true, and each argument reads as it did before. No condition beyond the statement's own. -/
import Derived.Test.YtkooincefcodcaaRows
import Derived.Test.YtkooincefcodcaaCBitsBack
import Derived.Test.YtkooincefcodcaaPBitsBack
import Derived.WalkKit
import Derived.ProofKit
import Derived.OpenShut
set_option linter.unusedVariables false
set_option maxRecDepth 100000
namespace Go.Proofs.Ytkooincefcodcaa
open Go Go.Xr Go.Xr.Try Go.ChangeShapes Go.WideShapes

theorem bitsBack_own : ownKnob Try.prog.godebug = Option.none := by kernel_rfl
abbrev bitsBackT : List Ty := [(.sl false (.arr 2 (.int .i64)))]
theorem bitsBack_run (d : HL bitsBackT) (h : HL.ok bitsBackT d) : lawRun Go.Xr.Try.K l_wainscotalike_Round BitsBack_h 6 (HL.avs bitsBackT d) = some true := by
  exact (BitsBack_model d).trans BitsBack_true
theorem bitsBack_lifted (os : Os) (started : os.Started) (H : Type) (enc : TypeId × Value → H) :
    ReturnsInHanded {} Try.checked os 6 .any (Rows.bitsBackSpec.pre6 enc Try.prog Try.f6 Rows.bitsBackRow.domain false) (Rows.bitsBackSpec.post enc Try.prog Try.f6 false true false false) := by
  refine returnsInHanded_of_change_sized (C := Try.checked) bitsBack_own started (by kernel_rfl) Try.func6
    (ChangeSpec.witness6 (enc := enc) (C := Try.checked) false ⟨#[], #[.slice Option.none 0 0], []⟩ 8 (by kernel_rfl) (by kernel_rfl) (by kernel_rfl) (by kernel_rfl)) ?_
  intro W base args ds gs before hval hW _ hsz _
  refine law_contract K_ok BitsBack_under (pts := bitsBackT) (bt := 4) (by kernel_rfl) (by kernel_rfl) (by kernel_rfl) rfl ?_ bitsBack_run W base args ds gs before hval hW hsz
  intro ds hds
  match ds, hds with
  | [d], _ => rfl
theorem bitsBack_holds : Rows.BitsBackSaid :=
  OpenClaim.holds_of_wide 6 Try.f6 rfl rfl rfl rfl rfl rfl rfl ⟨rfl, rfl, rfl, rfl, rfl⟩ rfl rfl rfl rfl rfl (by kernel_rfl) Try.func6 (by kernel_rfl)
    (of_decide_eq_true (by kernel_rfl)) (by unfold Func.isWrapper; first | (rw [if_pos (by decide +kernel)]; kernel_rfl) | (rw [if_neg (by decide +kernel)]; exact ⟨rfl, rfl⟩))
    (fun os started H enc _ => bitsBack_lifted os started H enc)
end Go.Proofs.Ytkooincefcodcaa
