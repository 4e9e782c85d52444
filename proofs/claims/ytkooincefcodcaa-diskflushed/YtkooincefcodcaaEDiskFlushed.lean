/- DiskFlushed: for every input the law returns true, and each argument reads as it did before. No condition beyond the statement's own. -/
import Derived.Test.YtkooincefcodcaaRows
import Derived.Test.YtkooincefcodcaaCDiskFlushed
import Derived.Test.YtkooincefcodcaaPDiskFlushed
import Derived.WalkKit
import Derived.ProofKit
import Derived.OpenShut
set_option linter.unusedVariables false
set_option maxRecDepth 100000
namespace Go.Proofs.Ytkooincefcodcaa
open Go Go.Xr Go.Xr.Try Go.ChangeShapes Go.WideShapes

theorem diskFlushed_own : ownKnob Try.prog.godebug = Option.none := by kernel_rfl
abbrev diskFlushedT : List Ty := [(.sl false (.int .i64)), (.sl false (.int .i64)), (.int .i64)]
theorem diskFlushed_run (d : HL diskFlushedT) (h : HL.ok diskFlushedT d) : lawRun Go.Xr.Try.K l_wainscotalike_Ints DiskFlushed_h 12 (HL.avs diskFlushedT d) = some true := by
  exact (DiskFlushed_model d).trans (lawDiskFlushed _ _ _)
theorem diskFlushed_lifted (os : Os) (started : os.Started) (H : Type) (enc : TypeId × Value → H) :
    ReturnsInHanded {} Try.checked os 12 .any (Rows.diskFlushedSpec.pre6 enc Try.prog Try.f12 Rows.diskFlushedRow.domain false) (Rows.diskFlushedSpec.post enc Try.prog Try.f12 false true false false) := by
  refine returnsInHanded_of_change_sized (C := Try.checked) diskFlushed_own started (by kernel_rfl) Try.func12
    (ChangeSpec.witness6 (enc := enc) (C := Try.checked) false ⟨#[], #[.slice Option.none 0 0, .slice Option.none 0 0, .int .i64 0], []⟩ 8 (by kernel_rfl) (by kernel_rfl) (by kernel_rfl) (by kernel_rfl)) ?_
  intro W base args ds gs before hval hW _ hsz _
  refine law_contract K_ok DiskFlushed_under (pts := diskFlushedT) (bt := 4) (by kernel_rfl) (by kernel_rfl) (by kernel_rfl) rfl ?_ diskFlushed_run W base args ds gs before hval hW hsz
  intro ds hds
  match ds, hds with
  | [d1, d2, d3], _ => rfl
theorem diskFlushed_holds : Rows.DiskFlushedSaid :=
  OpenClaim.holds_of_wide 12 Try.f12 rfl rfl rfl rfl rfl rfl rfl ⟨rfl, rfl, rfl, rfl, rfl⟩ rfl rfl rfl rfl rfl (by kernel_rfl) Try.func12 (by kernel_rfl)
    (of_decide_eq_true (by kernel_rfl)) (by unfold Func.isWrapper; first | (rw [if_pos (by decide +kernel)]; kernel_rfl) | (rw [if_neg (by decide +kernel)]; exact ⟨rfl, rfl⟩))
    (fun os started H enc _ => diskFlushed_lifted os started H enc)
end Go.Proofs.Ytkooincefcodcaa
