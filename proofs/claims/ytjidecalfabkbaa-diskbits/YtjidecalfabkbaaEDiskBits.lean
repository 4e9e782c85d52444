/- DiskBits: for every input the law returns true, and each argument reads as it did before. No condition beyond the statement's own. -/
import Derived.Test.YtjidecalfabkbaaRows
import Derived.Test.YtjidecalfabkbaaCDiskBits
import Derived.Test.YtjidecalfabkbaaPDiskBits
import Derived.WalkKit
import Derived.ProofKit
import Derived.OpenShut
set_option linter.unusedVariables false
set_option maxRecDepth 100000
namespace Go.Proofs.Ytjidecalfabkbaa
open Go Go.Xr Go.Xr.Try Go.ChangeShapes Go.WideShapes

theorem diskBits_own : ownKnob Try.prog.godebug = Option.none := by kernel_rfl
abbrev diskBitsT : List Ty := [(.int .i64), (.int .i64), .bool, .bool]
theorem diskBits_run (d : HL diskBitsT) (h : HL.ok diskBitsT d) : lawRun Go.Xr.Try.K l_wainscotlaw8_awake DiskBits_h 3 (HL.avs diskBitsT d) = some true := by
  exact (DiskBits_model d).trans (lawDiskBits _ _ _ _)
theorem diskBits_lifted (os : Os) (started : os.Started) (H : Type) (enc : TypeId × Value → H) :
    ReturnsInHanded {} Try.checked os 3 .any (Rows.diskBitsSpec.pre6 enc Try.prog Try.f3 Rows.diskBitsRow.domain false) (Rows.diskBitsSpec.post enc Try.prog Try.f3 false true false false) := by
  refine returnsInHanded_of_change_sized (C := Try.checked) diskBits_own started (by kernel_rfl) Try.func3
    (ChangeSpec.witness6 (enc := enc) (C := Try.checked) false ⟨#[], #[.int .i64 0, .int .i64 0, .bool false, .bool false], []⟩ 8 (by kernel_rfl) (by kernel_rfl) (by kernel_rfl) (by kernel_rfl)) ?_
  intro W base args ds gs before hval hW _ hsz _
  refine law_contract K_ok DiskBits_under (pts := diskBitsT) (bt := 4) (by kernel_rfl) (by kernel_rfl) (by kernel_rfl) rfl ?_ diskBits_run W base args ds gs before hval hW hsz
  intro ds hds
  match ds, hds with
  | [d1, d2, d3, d4], _ => rfl
theorem diskBits_holds : Rows.DiskBitsSaid :=
  OpenClaim.holds_of_wide 3 Try.f3 rfl rfl rfl rfl rfl rfl rfl ⟨rfl, rfl, rfl, rfl, rfl⟩ rfl rfl rfl rfl rfl (by kernel_rfl) Try.func3 (by kernel_rfl)
    (of_decide_eq_true (by kernel_rfl)) (by unfold Func.isWrapper; first | (rw [if_pos (by decide +kernel)]; kernel_rfl) | (rw [if_neg (by decide +kernel)]; exact ⟨rfl, rfl⟩))
    (fun os started H enc _ => diskBits_lifted os started H enc)
end Go.Proofs.Ytjidecalfabkbaa
